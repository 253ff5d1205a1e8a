/- bulkheadref12.Refuses. -/
import Derived.Test.YtaogndianciogaaTabl
import Derived.Test.YtaogndianciogaaQuietB
namespace Go.Proofs.Ytaogndianciogaa.Mm
open Go.RowKit
set_option linter.unusedVariables false
set_option linter.unusedSimpArgs false
theorem size_iff {x : Lf} (h0 : -9223372036854775808 ≤ x.pages) (h1 : x.pages < 9223372036854775808) : sizeP x ↔ ¬ (x.pages < 1 ∨ (x.big = true ∧ x.pages % 512 ≠ 0)) := by
  unfold sizeP
  rcases unitP_cases x with ⟨e, hb⟩ | ⟨e, hb⟩
  · rw [e, hb]; simp <;> omega
  · rw [e, hb]; simp <;> omega
set_option maxHeartbeats 8000000 in
set_option maxRecDepth 100000 in
theorem refuses_any (v : Value) (n : Nat) (l : List Lf) (hok : ∀ x ∈ l, x.ok) (w : World) (hv : RdX w 6 v n (lfV l)) :
    Calls Try.prog 19 #[v] w (fun e w' => e = .returned (.int .i64 (rightP 0 l)) ∧ Below w.heap.size w w') := by
  have hln : l.length = n := by have := hv.1; rw [lfV_length] at this; omega
  obtain ⟨A, c, rfl, hcm⟩ : ∃ A c, v = .slice A n c ∧ c ≤ 9223372036854775807 := by
    obtain ⟨_, A, c, e, h1, hm, _⟩ := hv
    exact ⟨A, c, e, by unfold maxLen at hm; omega⟩
  have hnm : n ≤ 9223372036854775807 := by
    obtain ⟨_, A, c, e, h1, hm, _⟩ := hv
    unfold maxLen at hm; omega
  have hv' := Lib.hid hv
  have hok' := Lib.hid hok
  clear hv hok
  go_enter Try.func19, Try.ntmps19
  go_wp2
  go_loopg [3, 4] (n + 1) (fun g1 v3 v4 wr => ∃ (k : Nat) (b : Int), k + g1 = n + 1 ∧ k ≤ n ∧ v4 = .int .i64 k ∧ v3 = .int .u64 b ∧ 0 ≤ b ∧ b ≤ 549755813888 ∧ Hid (Below w.heap.size w wr) ∧ Hid (rightP b (l.drop k) = rightP 0 l))
  case atStart => exact ⟨0, 0, by omega, by omega, rfl, rfl, by omega, by omega, Below.refl _ _, by show _ = _; simp⟩
  case round =>
    obtain ⟨k, b, hk, hkn, rfl, rfl, hb0, hb1, hbel, hR⟩ := hrel
    by_cases hlt : k < n
    · have hx : l[k]? = some (l[k]'(by omega)) := List.getElem?_eq_getElem _
      have hd : l.drop k = l[k]'(by omega) :: l.drop (k + 1) := List.drop_eq_getElem_cons _
      have hxo := hok'.out _ (List.getElem_mem (show k < l.length by omega))
      generalize l[k]'(by omega) = x at hx hd hxo
      rw [hd] at hR
      obtain ⟨g, off, c', hve, _, _, hgl, hL⟩ := RdX.leaf (hv'.out.below hbel.out) hx hlt
      cases hve
      obtain ⟨c0, c1, c2, c3, c4, c5⟩ := hL
      have hltI : (k : Int) < (n : Int) := by omega
      obtain ⟨o0, o1, o2, o3, o4, o5⟩ := hxo
      obtain ⟨u0, u1⟩ := unitP_pos x
      have hunit := Lib.hid (runit_any x)
      have hsx := size_iff o4 o5
      have hax : alignP x ↔ x.virt % unitP x = 0 ∧ x.phys % unitP x = 0 := Iff.rfl
      have hres : Hid (rightP 0 l = rightP b (x :: l.drop (k + 1))) := hR.out.symm
      clear hd hx hR
      generalize unitP x = u at *
      have hblk := heap_alloc_new wr (.cells #[.int .u64 x.virt, .int .u64 x.phys, .int .i64 x.pages, .bool x.big, .bool x.write, .bool x.exec] 47)
      have hbw := Lib.hid ((hbel.out.alloc hbel.out.size (.cells #[.int .u64 x.virt, .int .u64 x.phys, .int .i64 x.pages, .bool x.big, .bool x.write, .bool x.exec] 47)))
      have hblk' := Lib.hid hblk
      clear hblk
      by_cases hS : x.pages < 1 ∨ (x.big = true ∧ x.pages % 512 ≠ 0)
      · have hr0 : Hid (rightP 0 l = 32) := by
          rw [hres.out, rightP, if_pos (fun h => hsx.1 h hS)]; rfl
        clear hres hsx hax
        by_cases hp : x.pages < 1
        · clear hS
          go_wp2
          go_returns
          exact ⟨by rw [hr0.out]; rfl, hbw.out⟩
        · obtain ⟨hb, hm⟩ := hS.resolve_left hp
          rw [hb] at c3
          have hm' : (x.pages % 512 != 0) = true := by simpa using hm
          have hp0 : 0 ≤ x.pages := by omega
          rw [hb] at hbw
          clear hS hm
          go_wp2
          go_returns
          exact ⟨by rw [hr0.out]; rfl, hbw.out⟩
      · have hp : ¬ x.pages < 1 := fun h => hS (.inl h)
        have hp0 : 0 ≤ x.pages := by omega
        have hS2 := hsx.2 hS
        have hbig : x.big = false ∨ (x.big = true ∧ (x.pages % 512 != 0) = false) := by
          cases hb : x.big
          · exact .inl rfl
          · refine .inr ⟨rfl, ?_⟩
            simp
            by_cases h2 : x.pages % 512 = 0
            · exact h2
            · exact absurd (.inr ⟨hb, h2⟩) hS
        clear hsx hS
        go_upto_region 6 with (fail)
        generalize wr.alloc (.cells #[.int .u64 x.virt, .int .u64 x.phys, .int .i64 x.pages, .bool x.big, .bool x.write, .bool x.exec] 47) = w2 at *
        have d2 : w2.cell? ⟨wr.heap.size, 2, none⟩ = some (.int .i64 x.pages) := cell_of_row w2 _ 2 _ _ _ hblk'.out
        have d3 : w2.cell? ⟨wr.heap.size, 3, none⟩ = some (.bool x.big) := cell_of_row w2 _ 3 _ _ _ hblk'.out
        clear c0 c1 c2 c3 c4 c5 hbel
        go_cut [16] (fun v16 wc => v16 = .bool false ∧ wc = w2)
        case first =>
          rcases hbig with hb | ⟨hb, hm⟩
          · rw [hb] at d3
            go_wp2_with fail
            go_meet
            case rel => exact ⟨rfl, rfl⟩
          · rw [hb] at d3
            go_wp2_with fail
            go_meet
            case rel => exact ⟨rfl, rfl⟩
        case rest =>
          obtain ⟨rfl, rfl⟩ := hcut
          clear hbig
          have d0 : wc.cell? ⟨wr.heap.size, 0, none⟩ = some (.int .u64 x.virt) := cell_of_row wc _ 0 _ _ _ hblk'.out
          have d1 : wc.cell? ⟨wr.heap.size, 1, none⟩ = some (.int .u64 x.phys) := cell_of_row wc _ 1 _ _ _ hblk'.out
          have d4 : wc.cell? ⟨wr.heap.size, 4, none⟩ = some (.bool x.write) := cell_of_row wc _ 4 _ _ _ hblk'.out
          have d5 : wc.cell? ⟨wr.heap.size, 5, none⟩ = some (.bool x.exec) := cell_of_row wc _ 5 _ _ _ hblk'.out
          go_upto_region 8 with (fail)
          have hXlt : wr.heap.size < wc.heap.size := lt_of_block hblk'.out
          have q0 : ∀ s : BW wc, s.W.cell? ⟨wr.heap.size, 0, none⟩ = some (.int .u64 x.virt) := fun s => s.cell d0 hXlt
          have q1 : ∀ s : BW wc, s.W.cell? ⟨wr.heap.size, 1, none⟩ = some (.int .u64 x.phys) := fun s => s.cell d1 hXlt
          have q2 : ∀ s : BW wc, s.W.cell? ⟨wr.heap.size, 2, none⟩ = some (.int .i64 x.pages) := fun s => s.cell d2 hXlt
          have q3 : ∀ s : BW wc, s.W.cell? ⟨wr.heap.size, 3, none⟩ = some (.bool x.big) := fun s => s.cell d3 hXlt
          have q4 : ∀ s : BW wc, s.W.cell? ⟨wr.heap.size, 4, none⟩ = some (.bool x.write) := fun s => s.cell d4 hXlt
          have q5 : ∀ s : BW wc, s.W.cell? ⟨wr.heap.size, 5, none⟩ = some (.bool x.exec) := fun s => s.cell d5 hXlt
          go_cut [30] (fun v30 wd => v30 = .bool (decide (¬ alignP x)) ∧ Hid (Below wc.heap.size wc wd))
          case first =>
            have htv : x.virt.tmod u = x.virt % u := Int.tmod_eq_emod_of_nonneg (by omega)
            have htp : x.phys.tmod u = x.phys % u := Int.tmod_eq_emod_of_nonneg (by omega)
            have hvm : 0 ≤ x.virt % u := Int.emod_nonneg _ (by omega)
            have hpm : 0 ≤ x.phys % u := Int.emod_nonneg _ (by omega)
            by_cases hA : 0 < x.virt % u
            · have hal : Hid (decide (¬ alignP x) = true) := by show _ = _; exact decide_eq_true (fun h => by have := (hax.1 h).1; omega)
              clear hax htp
              generalize x.virt % u = r at *
              refine wp_region_below (by kernel_rfl) (by kernel_rfl) ?_
              repeat (go_big_quiet_step (((go_at_call 44; refine (hunit.out _).mono ?_; rintro e W' ⟨he, hb⟩; exact ⟨he, BW.next _ hb⟩))))
              refine wpQuiet_nil ?_
              intro _ hwX
              obtain ⟨⟨wX, hbX⟩, hw''⟩ := hwX
              subst hw''
              go_wp2_with fail
              go_meet
              case rel => exact ⟨by rw [hal.out], hbX⟩
            · have hA0 : x.virt % u = 0 := by omega
              have hAB : ¬ (0 : Int) < x.virt % u := hA
              by_cases hB : 0 < x.phys % u
              · have hal : Hid (decide (¬ alignP x) = true) := by show _ = _; exact decide_eq_true (fun h => by have := (hax.1 h).2; omega)
                clear hax hA hAB
                generalize x.phys % u = r2 at *
                generalize hr : x.virt % u = r at *
                clear hr
                subst hA0
                refine wp_region_below (by kernel_rfl) (by kernel_rfl) ?_
                repeat (go_big_quiet_step (((go_at_call 44; refine (hunit.out _).mono ?_; rintro e W' ⟨he, hb⟩; exact ⟨he, BW.next _ hb⟩))))
                refine wpQuiet_nil ?_
                intro _ hwX
                obtain ⟨⟨wX, hbX⟩, hw''⟩ := hwX
                subst hw''
                go_wp2_with fail
                go_meet
                case rel => exact ⟨by rw [hal.out], hbX⟩
              · have hB0 : x.phys % u = 0 := by omega
                have hal : Hid (decide (¬ alignP x) = false) := by show _ = _; exact decide_eq_false (fun h => h (hax.2 ⟨hA0, hB0⟩))
                clear hax hA hAB hB
                generalize hr2 : x.phys % u = r2 at *
                clear hr2
                subst hB0
                generalize hr : x.virt % u = r at *
                clear hr
                subst hA0
                refine wp_region_below (by kernel_rfl) (by kernel_rfl) ?_
                repeat (go_big_quiet_step (((go_at_call 44; refine (hunit.out _).mono ?_; rintro e W' ⟨he, hb⟩; exact ⟨he, BW.next _ hb⟩))))
                refine wpQuiet_nil ?_
                intro _ hwX
                obtain ⟨⟨wX, hbX⟩, hw''⟩ := hwX
                subst hw''
                go_wp2_with fail
                go_meet
                case rel => exact ⟨by rw [hal.out], hbX⟩
          case rest =>
            rename World => wd
            obtain ⟨rfl, hbd⟩ := hcut
            have e0 : wd.cell? ⟨wr.heap.size, 0, none⟩ = some (.int .u64 x.virt) := (BW.mk wd hbd.out).cell d0 hXlt
            have e1 : wd.cell? ⟨wr.heap.size, 1, none⟩ = some (.int .u64 x.phys) := (BW.mk wd hbd.out).cell d1 hXlt
            have e2 : wd.cell? ⟨wr.heap.size, 2, none⟩ = some (.int .i64 x.pages) := (BW.mk wd hbd.out).cell d2 hXlt
            have hbF : Hid (Below w.heap.size w wd) := hbw.out.trans (hbd.out.mono hbw.out.size)
            clear q0 q1 q2 q3 q4 q5 d0 d1 d2 d3 d4 d5 hbd hbw hunit
            by_cases hA : alignP x
            · have hal : Hid (decide (¬ alignP x) = false) := by show _ = _; exact decide_eq_false (fun h => h hA)
              rw [hal.out]
              by_cases hF : fitsP x.virt x.pages 549755813888
              · by_cases hG : fitsP x.phys x.pages 4294967296
                · obtain ⟨f1, f2⟩ := hF
                  obtain ⟨g1, g2⟩ := hG
                  have hF' : fitsP x.virt x.pages 549755813888 := ⟨f1, f2⟩
                  have hG' : fitsP x.phys x.pages 4294967296 := ⟨g1, g2⟩
                  have f3 : ¬ 549755813888 ≤ x.virt := by omega
                  have f4 : ¬ (549755813888 - x.virt) / 4096 < x.pages := by omega
                  have g3 : ¬ 4294967296 ≤ x.phys := by omega
                  have g4 : ¬ (4294967296 - x.phys) / 4096 < x.pages := by omega
                  by_cases hb : x.virt < b
                  · have hr0 : Hid (rightP 0 l = 120) := by
                      rw [hres.out, rightP, if_neg (fun h => h hS2), if_neg (fun h => h hA), if_neg (fun h => h hF'), if_neg (fun h => h hG'), if_pos hb]; rfl
                    clear hres hax hA hS2 hF' hG' hal
                    go_wp2
                    go_returns
                    exact ⟨by rw [hr0.out]; rfl, hbF.out⟩
                  · have hr0 : Hid (rightP (x.virt + x.pages * 4096) (l.drop (k + 1)) = rightP 0 l) := by
                      rw [hres.out, rightP, if_neg (fun h => h hS2), if_neg (fun h => h hA), if_neg (fun h => h hF'), if_neg (fun h => h hG'), if_neg hb]; rfl
                    have hq : (549755813888 - x.virt) / 4096 * 4096 ≤ 549755813888 - x.virt := Int.ediv_mul_le _ (by omega)
                    have hbb : Hid (0 ≤ x.virt + x.pages * 4096 ∧ x.virt + x.pages * 4096 ≤ 549755813888) := by show _ ∧ _; omega
                    have hbb2 : x.virt + x.pages * 4096 ≤ 549755813888 := hbb.out.2
                    clear hres hax hA hS2 hF' hG' hal hq
                    go_wp2
                    go_roundg (n - k)
                    case rel => exact ⟨k + 1, _, by omega, by omega, by simp, rfl, hbb.out.1, hbb.out.2, hbF, hr0⟩
                    case measure => omega
                · obtain ⟨f1, f2⟩ := hF
                  have hF' : fitsP x.virt x.pages 549755813888 := ⟨f1, f2⟩
                  have f3 : ¬ 549755813888 ≤ x.virt := by omega
                  have f4 : ¬ (549755813888 - x.virt) / 4096 < x.pages := by omega
                  have hr0 : Hid (rightP 0 l = 34) := by
                    rw [hres.out, rightP, if_neg (fun h => h hS2), if_neg (fun h => h hA), if_neg (fun h => h hF'), if_pos hG]; rfl
                  have hG2 : 4294967296 ≤ x.phys ∨ (¬ 4294967296 ≤ x.phys ∧ (4294967296 - x.phys) / 4096 < x.pages) := by
                    by_cases h : 4294967296 ≤ x.phys
                    · exact .inl h
                    · exact .inr ⟨h, Int.not_le.1 (fun h2 => hG ⟨by omega, h2⟩)⟩
                  clear hres hax hA hS2 hF' hG hal
                  rcases hG2 with g1 | ⟨g1, g2⟩
                  all_goals
                    go_wp2
                    go_returns
                    exact ⟨by rw [hr0.out]; rfl, hbF.out⟩
              · have hr0 : Hid (rightP 0 l = 40) := by
                  rw [hres.out, rightP, if_neg (fun h => h hS2), if_neg (fun h => h hA), if_pos hF]; rfl
                have hF2 : 549755813888 ≤ x.virt ∨ (¬ 549755813888 ≤ x.virt ∧ (549755813888 - x.virt) / 4096 < x.pages) := by
                  by_cases h : 549755813888 ≤ x.virt
                  · exact .inl h
                  · exact .inr ⟨h, Int.not_le.1 (fun h2 => hF ⟨by omega, h2⟩)⟩
                clear hres hax hA hS2 hF hal
                rcases hF2 with g1 | ⟨g1, g2⟩
                all_goals
                  go_wp2
                  go_returns
                  exact ⟨by rw [hr0.out]; rfl, hbF.out⟩
            · have hal : Hid (decide (¬ alignP x) = true) := by show _ = _; exact decide_eq_true hA
              rw [hal.out]
              have hr0 : Hid (rightP 0 l = 33) := by
                rw [hres.out, rightP, if_neg (fun h => h hS2), if_pos hA]; rfl
              clear hres hax hA hS2 hal
              go_wp2
              go_returns
              exact ⟨by rw [hr0.out]; rfl, hbF.out⟩
    · obtain rfl : k = n := by omega
      have hr0 : Hid (rightP 0 l = 0) := by
        rw [← hR.out, List.drop_of_length_le (by omega)]; rfl
      go_wp2
      go_returns
      exact ⟨by rw [hr0.out]; rfl, hbel.out⟩
end Go.Proofs.Ytaogndianciogaa.Mm
