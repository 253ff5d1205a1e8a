/- bulkheadref12.tables. -/
import Derived.Test.YtaogndianciogaaTabNew
namespace Go.Proofs.Ytaogndianciogaa.Mm
open Go.RowKit
set_option linter.unusedVariables false
set_option linter.unusedSimpArgs false
theorem m21_in {D : Nm} (v : Int) : m21 v ∈ addN D (m30 v) ↔ m21 v ∈ D := by
  unfold addN
  split
  · exact Iff.rfl
  · rw [List.mem_append]
    constructor
    · rintro (h | h)
      · exact h
      · have : m21 v = m30 v := by simpa using h
        cases congrArg Prod.fst this
    · exact .inl
theorem newV_dep (e : Int × Int) : (newV e).toArray.size = 514 := by rw [List.size_toArray, newV_length]
set_option maxHeartbeats 16000000 in
set_option maxRecDepth 100000 in
theorem tables_any (v : Value) (n : Nat) (l : List Lf) (hgood : ∀ x ∈ l, goodP x) (w : World) (hv : RdX w 6 v n (lfV l)) :
    Calls Try.prog 55 #[v] w (fun e w' => ∃ v', e = .returned v' ∧ w'.ownsRow w.heap.size 109 514 v' (tabsP l).length (tbV (tabsP l) (zeroG (tabsP l).length)) ∧ Below w.heap.size w w') := by
  have hln : l.length = n := by have := hv.1; rw [lfV_length] at this; omega
  obtain ⟨A, c, rfl, hcm⟩ : ∃ A c, v = .slice A n c ∧ c ≤ 9223372036854775807 := by
    obtain ⟨_, A, c, e, h1, hm, _⟩ := hv
    exact ⟨A, c, e, by unfold maxLen at hm; omega⟩
  have hnm : n ≤ 9223372036854775807 := by
    obtain ⟨_, A, c, e, h1, hm, _⟩ := hv
    unfold maxLen at hm; omega
  have hv' := Lib.hid hv
  have hgood' := Lib.hid hgood
  obtain ⟨Z, hZ, hinf⟩ := infoTbl
  obtain ⟨iT, hiT, hzT, hsT, hbT⟩ := info_parts hinf
  have hZs : Hid (Z.size = 514) := by show _ = _; rw [hZ, List.size_toArray, newV_length]
  clear hv hgood hinf hZ
  have hstart : Hid (∀ W : World, w.heap.size ≤ W.heap.size → (W.alloc (.cells (newV (0, 0)).toArray 109)).ownsRow w.heap.size 109 514 (.slice (some ⟨W.heap.size, 0, none⟩) 1 1) 1 (tbV [(0, 0)] (zeroG 1))) := by
    intro W hW
    rw [← tbV_start]
    refine ⟨by rw [newV_length], .inr ⟨W.heap.size, 1, (newV (0, 0)).toArray, rfl, hW, heap_alloc_new W _, Nat.le_refl _, by decide, by rw [newV_dep], ?_⟩⟩
    show (newV (0, 0)).take 514 = _
    exact List.take_of_length_le (by rw [newV_length]; exact Nat.le_refl _)
  go_enter Try.func55, Try.ntmps55
  go_wp2_with (first
    | (refine wpList_build_as rfl 109 _ rfl (newV (0, 0)).toArray (by rw [parts_1]; exact built_one _) ?_)
    | (refine wpList_buildSlice rfl 106 109 1 _ rfl (newV (0, 0)).toArray iT (.agg Z) Try.underlying106 hiT hzT (by rw [hsT]; decide) (by rw [hsT]; decide) (by rw [parts_1, hsT]; exact fill_tab (0, 0) _) ?_))
  have hown0 := Lib.hid (hstart.out w (Nat.le_refl _))
  have hbel0 : Hid (Below w.heap.size w (w.alloc (.cells (newV (0, 0)).toArray 109))) := (Below.refl _ _).alloc (Nat.le_refl _) _
  clear hstart
  generalize w.alloc (.cells (newV (0, 0)).toArray 109) = w0 at *
  go_loopg [3, 4] (n + 1) (fun g1 v3 v4 wr => ∃ (i : Nat) (D : Nm), i + g1 = n + 1 ∧ i ≤ n ∧ v4 = .int .i64 i ∧ D.length ≤ 1026 ∧ Hid (wr.ownsRow w.heap.size 109 514 v3 D.length (tbV D (zeroG D.length))) ∧ Hid (Below w.heap.size w wr) ∧ Hid (tabR D (l.drop i) = tabsP l))
  case atStart => exact ⟨0, [(0, 0)], by omega, by omega, rfl, by decide, hown0, hbel0, rfl⟩
  case round =>
    clear hown0 hbel0
    clear w0
    obtain ⟨i, D, hi, hin, rfl, hDl, hown, hbel, hR⟩ := hrel
    obtain ⟨A3, q3, rfl⟩ : ∃ A3 q3, u3 = .slice A3 D.length q3 := own_sl hown.out
    by_cases hlt : i < n
    · have hx' : l[i]? = some (l[i]'(by omega)) := List.getElem?_eq_getElem _
      have hd : l.drop i = l[i]'(by omega) :: l.drop (i + 1) := List.drop_eq_getElem_cons _
      have hxg := hgood'.out _ (List.getElem_mem (show i < l.length by omega))
      generalize l[i]'(by omega) = x at hx' hd hxg
      rw [hd] at hR
      have hx := Lib.hid hx'
      clear hd hx'
      obtain ⟨g, off, c', hve, _, _, hgl, hL⟩ := RdX.leaf (hv'.out.below hbel.out) hx.out hlt
      cases hve
      obtain ⟨c0, c1, c2, c3, c4, c5⟩ := hL
      have hltI : (i : Int) < (n : Int) := by omega
      have hx0 := hxg.pages
      have hx1 := hxg.v0
      have hx3 : x.virt + x.pages * 4096 ≤ 549755813888 := hxg.v1
      obtain ⟨E, hE⟩ : ∃ E, rowEnd x = E := ⟨_, rfl⟩
      have hE1 : x.virt + x.pages * 4096 = E := hE
      have hp0 : IntKind.u64.wrap x.pages = x.pages := by simp [IntKind.wrap, IntKind.signed, IntKind.bits]; omega
      have hpw : IntKind.u64.wrap (x.pages * 4096) = x.pages * 4096 := by simp [IntKind.wrap, IntKind.signed, IntKind.bits]; omega
      have hEw : IntKind.u64.wrap (x.virt + x.pages * 4096) = x.virt + x.pages * 4096 := by simp [IntKind.wrap, IntKind.signed, IntKind.bits]; omega
      clear hE1
      go_upto_region 5 with (fail)
      go_quiet (fail)
      clear hp0 hpw hEw
      have h21 := andNot_21 (v := x.virt) (by omega) (by omega)
      obtain ⟨v0, hv0⟩ : ∃ v0, x.virt / 2097152 * 2097152 = v0 := ⟨_, rfl⟩
      obtain ⟨N, hN⟩ : ∃ N, rowWins x + 1 = N := ⟨_, rfl⟩
      have hbnd : Hid (v0 % 2097152 = 0 ∧ 0 ≤ v0 ∧ E ≤ v0 + N * 2097152 ∧ v0 + N * 2097152 ≤ E + 4194304 ∧ E ≤ 549755813888 ∧ x.virt + x.pages * 4096 = E) := by
        show _ ∧ _
        unfold rowWins at hN
        rw [hE] at hN
        have : x.virt + x.pages * 4096 = E := hE
        omega
      have hRt : Hid (tabR (tabW x.big E N v0 D) (l.drop (i + 1)) = tabsP l) := by
        show _ = _
        rw [← hR.out, ← hN, ← hv0, ← hE]; rfl
      have hEv : x.virt + x.pages * 4096 = E := hE
      rw [hv0] at h21
      clear hE hN hv0 hR
      have hb1 : Below wr.heap.size wr (wr.drewN nq) := below_drewN (Below.refl _ _) nq
      have hown1 := Lib.hid (own_below hown.out hb1)
      have hbel1 : Hid (Below w.heap.size w (wr.drewN nq)) := hbel.out.trans (hb1.mono hbel.out.size)
      have d0 : (wr.drewN nq).cell? ⟨g, off + i * 6, none⟩ = some (.int .u64 x.virt) := c0
      have hgl1 : g < (wr.drewN nq).heap.size := hgl
      clear hb1 hown hbel c0 c1 c2 c3 c4 c5
      generalize wr.drewN nq = wr1 at *
      have q0 : ∀ s : BW wr1, s.W.cell? ⟨g, off + i * 6, none⟩ = some (.int .u64 x.virt) := fun s => s.cell d0 hgl1
      have hr2 : Hid (∀ W, Calls Try.prog 56 #[.int .i64 2] W (fun e w' => e = .returned (.int .u64 2097152) ∧ Below W.heap.size W w')) := fun W => reach_any 2 (.inr (.inr rfl)) W
      have hr1 : Hid (∀ W, Calls Try.prog 56 #[.int .i64 1] W (fun e w' => e = .returned (.int .u64 1073741824) ∧ Below W.heap.size W w')) := fun W => reach_any 1 (.inr (.inl rfl)) W
      go_wp2_with fail
      refine wp_region_below (by kernel_rfl) (by kernel_rfl) ?_
      repeat (go_big_quiet_step (((go_at_call 56; refine (hr2.out _).mono ?_; rintro e W' ⟨he, hb⟩; exact ⟨he, BW.next _ hb⟩))))
      refine wpQuiet_nil ?_
      intro _ hwX
      obtain ⟨sX, rfl⟩ := hwX
      have hbX := sX.h
      generalize sX.W = wX at *
      clear sX
      have hownX := Lib.hid (own_below hown1.out hbX)
      have hbelX : Hid (Below w.heap.size w wX) := hbel1.out.trans (hbX.mono hbel1.out.size)
      clear q0 d0 hown1 hbel1 hbX hgl1 h21 hgl
      clear wr1
      rw [hEv]
      clear hEv
      go_wp2_with fail
      go_loopg [3, 6] (N + 1) (fun g2 v3 v6 wq => ∃ (f : Nat) (vv : Int) (D2 : Nm), f + 1 = g2 ∧ v6 = .int .u64 vv ∧ 0 ≤ vv ∧ vv % 2097152 = 0 ∧ vv + f * 2097152 = v0 + N * 2097152 ∧ D2.length ≤ 1026 ∧ Hid (wq.ownsRow w.heap.size 109 514 v3 D2.length (tbV D2 (zeroG D2.length))) ∧ Hid (Below w.heap.size w wq) ∧ Hid (tabW x.big E f vv D2 = tabW x.big E N v0 D))
      case atStart => exact ⟨N, v0, D, rfl, rfl, hbnd.out.2.1, hbnd.out.1, rfl, hDl, hownX, hbelX, rfl⟩
      case round =>
        clear hownX hbelX
        obtain ⟨f, vv, D2, hf, rfl, hv1, hv2, hv3, hD2, hown, hbel, hRW⟩ := hrel
        obtain ⟨A3, q3, hve3⟩ : ∃ A3 q3, u3 = .slice A3 D2.length q3 := own_sl hown.out
        subst hve3
        obtain ⟨b1, b2, b3, b4, b5, b6⟩ := hbnd.out
        by_cases hvE : vv < E
        · by_cases hD3 : D2.length ≤ 1024
          · have hD3I : (D2.length : Int) ≤ 1024 := by omega
            obtain ⟨f', rfl⟩ : ∃ f', f = f' + 1 := ⟨f - 1, by omega⟩
            have hRW2 : Hid (tabW x.big E f' (vv + 2097152) (winP x.big D2 vv) = tabW x.big E N v0 D) := by
              show _ = _
              rw [← hRW.out]
              show _ = if vv < E ∧ D2.length ≤ 1024 then _ else _
              rw [if_pos ⟨hvE, hD3⟩]
            have h30 := andNot_30 (v := vv) (by omega) (by omega)
            have hm30 : ((1 : Int), vv / 1073741824 * 1073741824) = m30 vv := rfl
            have hm21 : ((2 : Int), vv) = m21 vv := by unfold m21; congr 1; omega
            have hv2' := Lib.hid hv2
            clear hRW b1 b2 b3 b6 hv2
            obtain ⟨bM, hbM⟩ : ∃ b : Bool, decide (m30 vv ∈ D2) = b := ⟨_, rfl⟩
            have hcall1 : Hid (∀ W : World, W.ownsRow w.heap.size 109 514 (.slice A3 D2.length q3) D2.length (tbV D2 (zeroG D2.length)) → Calls Try.prog 61 #[.slice A3 D2.length q3, .int .i64 1, .int .u64 (vv / 1073741824 * 1073741824)] W (fun e w' => e = .returned (.bool bM) ∧ w' = W)) := by
              intro W hW
              have := has_any _ D2 _ w.heap.size 1 (vv / 1073741824 * 1073741824) W (by omega) hW
              rwa [hm30, hbM] at this
            go_upto_if 53 with (first
              | (go_at_call 56; refine (hr1.out _).mono ?_; rintro en w1 ⟨rfl, hb1'⟩
                 have hown1 := Lib.hid (own_below hown.out hb1')
                 have hbel1 : Hid (Below w.heap.size w w1) := hbel.out.trans (hb1'.mono hbel.out.size)
                 clear hb1')
              | (go_at_call 61; refine (hcall1.out _ hown1.out).mono ?_; rintro en w1' ⟨rfl, hw1⟩; subst hw1))
            clear hown hbel hcall1
            have hbM' := Lib.hid hbM
            clear hbM
            go_cut [3] (fun v3 wc => Hid (wc.ownsRow w.heap.size 109 514 v3 (addN D2 (m30 vv)).length (tbV (addN D2 (m30 vv)) (zeroG (addN D2 (m30 vv)).length))) ∧ Hid (Below w.heap.size w wc))
            case first =>
              cases bM with
              | true =>
                have hM : m30 vv ∈ D2 := of_decide_eq_true hbM'.out
                have hM2 := Lib.hid (addN_mem hM)
                clear hM
                go_wp2_with fail
                go_meet
                case rel => rw [hM2.out]; exact ⟨hown1, hbel1⟩
              | false =>
                have hM : m30 vv ∉ D2 := of_decide_eq_false hbM'.out
                have hM2 : Hid (addN D2 (m30 vv) = D2 ++ [(1, vv / 1073741824 * 1073741824)]) := addN_new hM
                clear hM
                go_wp2_with (first
                  | (go_at_call 56; refine (hr1.out _).mono ?_; rintro en w1b ⟨rfl, hb1b'⟩
                     have hown1b := Lib.hid (own_below hown1.out hb1b')
                     have hbel1b : Hid (Below w.heap.size w w1b) := hbel1.out.trans (hb1b'.mono hbel1.out.size)
                     clear hb1b')
                  | (refine wpList_build_as rfl 109 _ rfl (newV (1, vv / 1073741824 * 1073741824)).toArray (by rw [parts_two]; exact built_two _ _) ?_)
                  | (refine wpList_buildSlice rfl 106 109 1 _ rfl (newV (1, vv / 1073741824 * 1073741824)).toArray iT (.agg Z) Try.underlying106 hiT hzT (by rw [hsT]; decide) (by rw [hsT]; decide) (by rw [parts_1, hsT]; exact fill_tab (1, vv / 1073741824 * 1073741824) _) ?_)
                  | (at_builtin; refine wpList_append_lies _ rfl (.tmp 54) (.tmp 60) 106 rfl w.heap.size 109 iT (.agg Z) 514 4112 Try.underlying106 hiT hzT hsT hbT hZs.out (by decide) (.slice A3 D2.length q3) D2.length (tbV D2 (zeroG D2.length)) rfl (own_below hown1b.out ((Below.refl _ _).alloc (Nat.le_refl _) _)) ⟨w1b.heap.size, 0, none⟩ 1 1 (newV (1, vv / 1073741824 * 1073741824)) rfl (newV_length (1, vv / 1073741824 * 1073741824)) (new_lies w1b (1, vv / 1073741824 * 1073741824) 109) (newV_one (1, vv / 1073741824 * 1073741824)) (by decide) (by unfold maxLen; omega) (by omega) (by have := hbel1b.out.size; simp; omega) (w1b.heap.size + 1) (by simp) ?_
                     intro g1 cap1 w2 hown' hgrow' hat' hltg1
                     have hown2 : Hid (w2.ownsRow w.heap.size 109 514 (.slice (some ⟨g1, 0, none⟩) (D2.length + 1) cap1) (D2 ++ [(1, vv / 1073741824 * 1073741824)]).length (tbV (D2 ++ [(1, vv / 1073741824 * 1073741824)]) (zeroG (D2 ++ [(1, vv / 1073741824 * 1073741824)]).length))) := by
                       rw [← tbV_grow, List.length_append, List.length_singleton]; exact hown'
                     have hbel2 : Hid (Below w.heap.size w w2) := (hbel1b.out.alloc hbel1b.out.size _).grown hgrow' (by have := hbel1b.out.size; simp; omega) (fun k e => (hown1b.out.lt k e).1)
                     clear hown' hgrow' hat' hltg1))
                go_meet
                case rel => rw [hM2.out]; exact ⟨hown2, hbel2⟩
            case rest =>
              rename World => wc
              obtain ⟨hownC, hbelC⟩ := hcut
              clear hown1 hbel1 hbM'
              have hD1 : (addN D2 (m30 vv)).length ≤ 1025 := by
                unfold addN; split
                · omega
                · rw [List.length_append, List.length_singleton]; omega
              have hin := m21_in (D := D2) vv
              have hw1 : Hid (winP true D2 vv = addN D2 (m30 vv)) := rfl
              have hw2 : Hid (winP false D2 vv = addN (addN D2 (m30 vv)) (m21 vv)) := rfl
              clear hin
              generalize addN D2 (m30 vv) = D1 at *
              obtain ⟨A3, q3, hve3⟩ := own_sl hownC.out
              subst hve3
              obtain ⟨_, _, _, hve, _, _, hgl, hL⟩ := RdX.leaf (hv'.out.below hbelC.out) hx.out hlt
              cases hve
              have hc3 := hL.c3
              clear hL
              cases hbig : x.big with
              | true =>
                rw [hbig] at hc3
                have hRW3 : Hid (tabW x.big E f' (vv + 2097152) (D1) = tabW x.big E N v0 D) := by
                  show _ = _
                  rw [← hRW2.out]
                  rw [hbig, hw1.out]
                have hvv2 : vv + 2097152 < 18446744073709551616 := by omega
                go_wp2_with (go_at_call 56; refine (hr2.out _).mono ?_; rintro en w9 ⟨rfl, hb9'⟩
                             have hown9 := Lib.hid (own_below hownC.out hb9')
                             have hbel9 : Hid (Below w.heap.size w w9) := hbelC.out.trans (hb9'.mono hbelC.out.size)
                             clear hb9')
                go_roundg (f' + 1)
                case rel => exact ⟨f', _, _, rfl, rfl, by omega, by have := hv2'.out; omega, by omega, by omega, hown9, hbel9, hRW3⟩
                case measure => omega
              | false =>
                rw [hbig] at hc3
                obtain ⟨bM2, hbM2⟩ : ∃ b : Bool, decide (m21 vv ∈ D1) = b := ⟨_, rfl⟩
                have hcall2 : Hid (∀ W : World, W.ownsRow w.heap.size 109 514 (.slice A3 D1.length q3) D1.length (tbV D1 (zeroG D1.length)) → Calls Try.prog 61 #[.slice A3 D1.length q3, .int .i64 2, .int .u64 vv] W (fun e w' => e = .returned (.bool bM2) ∧ w' = W)) := by
                  intro W hW
                  have := has_any _ D1 _ w.heap.size 2 vv W (by omega) hW
                  rwa [hm21, hbM2] at this
                cases bM2 with
                | true =>
                  have hM : m21 vv ∈ D1 := of_decide_eq_true hbM2
                  have hM2 := Lib.hid (addN_mem hM)
                  clear hM hbM2
                  go_wp2_with fail
                  refine (hcall2.out _ hownC.out).mono ?_
                  rintro en wc' ⟨rfl, hwc⟩
                  subst wc'
                  have hRW3 : Hid (tabW x.big E f' (vv + 2097152) (D1) = tabW x.big E N v0 D) := by
                    show _ = _
                    rw [← hRW2.out]
                    rw [hbig, hw2.out, hM2.out]
                  have hvv2 : vv + 2097152 < 18446744073709551616 := by omega
                  go_wp2_with (go_at_call 56; refine (hr2.out _).mono ?_; rintro en w9 ⟨rfl, hb9'⟩
                               have hown9 := Lib.hid (own_below hownC.out hb9')
                               have hbel9 : Hid (Below w.heap.size w w9) := hbelC.out.trans (hb9'.mono hbelC.out.size)
                               clear hb9')
                  go_roundg (f' + 1)
                  case rel => exact ⟨f', _, _, rfl, rfl, by omega, by have := hv2'.out; omega, by omega, by omega, hown9, hbel9, hRW3⟩
                  case measure => omega
                | false =>
                  have hM : m21 vv ∉ D1 := of_decide_eq_false hbM2
                  have hM2 : Hid (addN D1 (m21 vv) = D1 ++ [(2, vv)]) := by show _ = _; rw [hm21]; exact addN_new hM
                  clear hM hbM2
                  go_wp2_with fail
                  refine (hcall2.out _ hownC.out).mono ?_
                  rintro en wc' ⟨rfl, hwc⟩
                  subst wc'
                  have hRW3 : Hid (tabW x.big E f' (vv + 2097152) (D1 ++ [(2, vv)]) = tabW x.big E N v0 D) := by
                    show _ = _
                    rw [← hRW2.out]
                    rw [hbig, hw2.out, hM2.out]
                  have hvv2 : vv + 2097152 < 18446744073709551616 := by omega
                  go_wp2_with (first
                    | (refine wpList_build_as rfl 109 _ rfl (newV (2, vv)).toArray (by rw [parts_two]; exact built_two _ _) ?_)
                    | (refine wpList_buildSlice rfl 106 109 1 _ rfl (newV (2, vv)).toArray iT (.agg Z) Try.underlying106 hiT hzT (by rw [hsT]; decide) (by rw [hsT]; decide) (by rw [parts_1, hsT]; exact fill_tab (2, vv) _) ?_)
                    | (at_builtin; refine wpList_append_lies _ rfl (.tmp 74) (.tmp 77) 106 rfl w.heap.size 109 iT (.agg Z) 514 4112 Try.underlying106 hiT hzT hsT hbT hZs.out (by decide) (.slice A3 D1.length q3) D1.length (tbV D1 (zeroG D1.length)) rfl (own_below hownC.out ((Below.refl _ _).alloc (Nat.le_refl _) _)) ⟨wc.heap.size, 0, none⟩ 1 1 (newV (2, vv)) rfl (newV_length (2, vv)) (new_lies wc (2, vv) 109) (newV_one (2, vv)) (by decide) (by unfold maxLen; omega) (by omega) (by have := hbelC.out.size; simp; omega) (wc.heap.size + 1) (by simp) ?_
                       intro g1 cap1 w4 hown' hgrow' hat' hltg1
                       have hown4 : Hid (w4.ownsRow w.heap.size 109 514 (.slice (some ⟨g1, 0, none⟩) (D1.length + 1) cap1) (D1 ++ [(2, vv)]).length (tbV (D1 ++ [(2, vv)]) (zeroG (D1 ++ [(2, vv)]).length))) := by
                         rw [← tbV_grow, List.length_append, List.length_singleton]; exact hown'
                       have hbel4 : Hid (Below w.heap.size w w4) := (hbelC.out.alloc hbelC.out.size _).grown hgrow' (by have := hbelC.out.size; simp; omega) (fun k e => (hownC.out.lt k e).1)
                       clear hown' hgrow' hat' hltg1)
                    | (go_at_call 56; refine (hr2.out _).mono ?_; rintro en w9 ⟨rfl, hb9'⟩
                       have hown9 := Lib.hid (own_below hown4.out hb9')
                       have hbel9 : Hid (Below w.heap.size w w9) := hbel4.out.trans (hb9'.mono hbel4.out.size)
                       clear hb9'))
                  go_roundg (f' + 1)
                  case rel => exact ⟨f', _, _, rfl, rfl, by omega, by have := hv2'.out; omega, by omega, by rw [List.length_append, List.length_singleton]; omega, hown9, hbel9, hRW3⟩
                  case measure => omega
          · have hD3I : ¬ (D2.length : Int) ≤ 1024 := by omega
            have hfin : Hid (tabR D2 (l.drop (i + 1)) = tabsP l) := by
              show _ = _
              rw [← hRt.out, ← hRW.out]
              congr 1
              exact (tabW_full _ _ _ _ (by omega)).symm
            go_wp2
            go_roundg (n - i)
            case rel => exact ⟨i + 1, D2, by omega, by omega, by simp, hD2, hown, hbel, hfin⟩
            case measure => omega
        · have hx9 : Hid (tabW x.big E f vv D2 = D2) := by
            show _ = _
            cases f with
            | zero => rfl
            | succ f => unfold tabW; rw [if_neg (fun h => hvE h.1)]
          have hfin : Hid (tabR D2 (l.drop (i + 1)) = tabsP l) := by
            show _ = _
            rw [← hRt.out, ← hRW.out]
            congr 1
            exact hx9.out.symm
          go_wp2
          go_roundg (n - i)
          case rel => exact ⟨i + 1, D2, by omega, by omega, by simp, hD2, hown, hbel, hfin⟩
          case measure => omega
    · obtain rfl : i = n := by omega
      have hfin : Hid (D = tabsP l) := by
        have := hR.out
        rwa [List.drop_of_length_le (by omega)] at this
      go_wp2
      go_returns
      rw [← hfin.out]
      exact ⟨_, rfl, hown.out, hbel.out⟩
end Go.Proofs.Ytaogndianciogaa.Mm
