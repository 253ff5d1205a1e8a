/- pages.build. -/
import Derived.Test.YtaogndianciogaaBuildP
namespace Go.Proofs.Ytaogndianciogaa.Mm
open Go.RowKit
set_option linter.unusedVariables false
set_option linter.unusedSimpArgs false
theorem made_tab {Z : Array Value} (hZ : Z = Array.replicate 512 (.int .u64 0)) : (madeCells (Value.agg Z).cells (1 * 512)).toList = u64V (List.replicate 512 0) := by
  subst hZ
  apply List.ext_getElem?
  intro i
  simp only [madeCells, Array.toList_map, List.getElem?_map, Array.toList_range, u64V, List.map_replicate, List.getElem?_replicate]
  by_cases h : i < 512
  · have h2 : i < 1 * 512 := by omega
    simp [h, h2, Value.cells, Nat.mod_eq_of_lt h]
  · have h2 : ¬ i < 1 * 512 := by omega
    simp [h, h2]
def BuildPost (B : Nat) (w' : World) (e : Ending) : Except Int Bp → Prop
  | .error c => e = .returned (.tuple #[.slice none 0 0, .int .i64 c])
  | .ok s => ∃ va, e = .returned (.tuple #[va, .int .i64 0]) ∧ w'.ownsRow B 24 512 va s.m (u64V s.F)
set_option maxHeartbeats 8000000 in
set_option maxRecDepth 100000 in
theorem build_any (v : Value) (n : Nat) (l : List Lf) (hok : ∀ x ∈ l, x.ok) (base : Int) (hb0 : 0 ≤ base) (hb1 : base < 4294967296) (w : World) (hv : RdX w 6 v n (lfV l)) :
    Calls Try.prog 35 #[v, .int .u64 base] w (fun e w' => BuildPost w.heap.size w' e (buildP base l) ∧ Below w.heap.size w w') := by
  have hln : l.length = n := by have := hv.1; rw [lfV_length] at this; omega
  obtain ⟨A, c, rfl, hcm⟩ : ∃ A c, v = .slice A n c ∧ c ≤ 9223372036854775807 := by
    obtain ⟨_, A, c, e, h1, hm, _⟩ := hv
    exact ⟨A, c, e, by unfold maxLen at hm; omega⟩
  have hright := Lib.hid (right_any _ n l hok w hv)
  have hv' := Lib.hid hv
  have hok' := Lib.hid hok
  clear hv hok
  by_cases hr : rightP 0 l = 0
  · obtain ⟨Z, hZ, hinf⟩ := infoTab
    obtain ⟨iT, hiT, hzT, hsT, hbT⟩ := info_parts hinf
    have hmade := Lib.hid (made_tab hZ)
    clear hinf hZ
    have hrows := Lib.hid (rightP_rows hr)
    have hbp : Hid (buildP base l = if (rowsP base l startP).2 then .ok (rowsP base l startP).1 else .error 4) := by
      show _ = _
      unfold buildP; rw [if_neg (fun h => h hr)]
    rw [hr] at hright
    clear hr
    go_enter Try.func35, Try.ntmps35
    go_wp2_with fail
    refine hright.out.mono ?_
    rintro en w1 ⟨rfl, hbel1'⟩
    have hbel1 := Lib.hid hbel1'
    have hsz1 : w.heap.size ≤ w1.heap.size := hbel1'.size
    clear hbel1' hright
    go_wp2_with (at_make; refine wpList_make_full _ rfl _ _ 42 rfl w.heap.size 24 iT (.agg Z) 512 Try.underlying42 hiT hzT hsT _ _ _ _ 1 rfl rfl (by omega) (by omega) (by rw [hbT]; omega) (by unfold maxLen; omega) hsz1 ?_; intro w2 hown2' hgrow2'
                 have hown2 := Lib.hid hown2'
                 have hbel2 : Hid (Below w.heap.size w w2) := hbel1.out.grown hgrow2' hsz1 (fun k e => by cases e)
                 clear hown2' hgrow2')
    have hb3 : Hid (BSp (w2.alloc (.cells #[.int .u64 base, .slice (some ⟨w1.heap.size, 0, none⟩) 1 1, .int .i64 0, .int .i64 0, .int .u64 0] 104)) w.heap.size w2.heap.size base startP) := by
      refine ⟨.slice (some ⟨w1.heap.size, 0, none⟩) 1 1, hbel2.out.size, heap_alloc_new _ _, ?_⟩
      have := own_below hown2.out ((Below.refl w2.heap.size w2).alloc (Nat.le_refl _) (.cells #[.int .u64 base, .slice (some ⟨w1.heap.size, 0, none⟩) 1 1, .int .i64 0, .int .i64 0, .int .u64 0] 104))
      rw [hmade.out] at this
      exact this
    have hbel3 : Hid (Below w.heap.size w (w2.alloc (.cells #[.int .u64 base, .slice (some ⟨w1.heap.size, 0, none⟩) 1 1, .int .i64 0, .int .i64 0, .int .u64 0] 104))) := hbel2.out.alloc hbel2.out.size _
    clear hown2 hbel2 hbel1 hmade
    generalize w2.alloc (.cells #[.int .u64 base, .slice (some ⟨w1.heap.size, 0, none⟩) 1 1, .int .i64 0, .int .i64 0, .int .u64 0] 104) = w3 at *
    generalize w2.heap.size = gb at *
    go_loopg [22] (n + 1) (fun g1 v22 wr => ∃ (i : Nat) (s : Bp), i + g1 = n + 1 ∧ i ≤ n ∧ v22 = .int .i64 i ∧ Hid (BOk s ∧ s.m ≤ 1024) ∧ Hid (BSp wr w.heap.size gb base s) ∧ Hid (Below w.heap.size w wr) ∧ Hid (rowsP base (l.drop i) s = rowsP base l startP))
    case atStart => exact ⟨0, startP, by omega, by omega, rfl, ⟨startP_ok, by decide⟩, hb3, hbel3, by show _ = _; simp⟩
    case round =>
      clear hb3 hbel3
      obtain ⟨i, s, hk, hi, rfl, hsok, hbs, hbel, hR⟩ := hrel
      by_cases hlt : i < n
      · have hx : l[i]? = some (l[i]'(by omega)) := List.getElem?_eq_getElem _
        have hd : l.drop i = l[i]'(by omega) :: l.drop (i + 1) := List.drop_eq_getElem_cons _
        have hxo := hok'.out _ (List.getElem_mem (show i < l.length by omega))
        have hxr := hrows.out _ (List.getElem_mem (show i < l.length by omega))
        generalize l[i]'(by omega) = x at hx hd hxo hxr
        rw [hd] at hR
        obtain ⟨g, off, c', hve, _, _, hgl, hL⟩ := RdX.leaf (hv'.out.below hbel.out) hx hlt
        cases hve
        obtain ⟨c0, c1, c2, c3, c4, c5⟩ := hL
        have hltI : (i : Int) < (n : Int) := by omega
        obtain ⟨⟨hp1, hp2⟩, ⟨hF1, hF2⟩, ⟨hG1, hG2⟩⟩ := hxr
        obtain ⟨o0, o1, o2, o3, o4, o5⟩ := hxo
        obtain ⟨u0, u1⟩ := unitP_pos x
        have hunit := Lib.hid (unit_any x)
        have hF3 : (549755813888 - x.virt) / 4096 * 4096 ≤ 549755813888 - x.virt := Int.ediv_mul_le _ (by omega)
        have hG3 : (4294967296 - x.phys) / 4096 * 4096 ≤ 4294967296 - x.phys := Int.ediv_mul_le _ (by omega)
        have hFb : x.virt + x.pages * 4096 ≤ 549755813888 := by omega
        have hGb : x.phys + x.pages * 4096 ≤ 4294967296 := by omega
        have hmul : x.pages * 4096 / unitP x * unitP x = x.pages * 4096 := by
          have h5 : x.pages * 4096 % 18446744073709551616 = x.pages * 4096 := Int.emod_eq_of_lt (by omega) (by omega)
          rw [h5] at hp2
          exact Int.ediv_mul_cancel_of_emod_eq_zero hp2
        have hc0 : 0 ≤ x.pages * 4096 / unitP x := Int.ediv_nonneg (by omega) (by omega)
        obtain ⟨cN, hcN⟩ : ∃ cN : Nat, (x.pages * 4096 / unitP x).toNat = cN := ⟨_, rfl⟩
        have hcu : (cN : Int) * unitP x = x.pages * 4096 := by rw [← hcN, Int.toNat_of_nonneg hc0]; exact hmul
        have hlf : Hid ((wr.alloc (.cells #[.int .u64 x.virt, .int .u64 x.phys, .int .i64 x.pages, .bool x.big, .bool x.write, .bool x.exec] 47)).heap[wr.heap.size]? = some (.cells #[.int .u64 x.virt, .int .u64 x.phys, .int .i64 x.pages, .bool x.big, .bool x.write, .bool x.exec] 47 (0, 0))) := heap_alloc_new _ _
        have hb4 : Hid (BSp (wr.alloc (.cells #[.int .u64 x.virt, .int .u64 x.phys, .int .i64 x.pages, .bool x.big, .bool x.write, .bool x.exec] 47)) w.heap.size gb base s) := by
          obtain ⟨va, hst⟩ := hbs.out
          exact ⟨va, hst.below ((Below.refl _ _).alloc (Nat.le_refl _) _)⟩
        have hbel4 : Hid (Below w.heap.size w (wr.alloc (.cells #[.int .u64 x.virt, .int .u64 x.phys, .int .i64 x.pages, .bool x.big, .bool x.write, .bool x.exec] 47))) := hbel.out.alloc hbel.out.size _
        have hnums := Lib.hid (And.intro (And.intro hp1 (And.intro hF1 hF2)) (And.intro (And.intro hG1 hG2) (And.intro hFb hGb)))
        have hcu' := Lib.hid hcu
        clear hp2 hF1 hF2 hG1 hG2 hF3 hG3 hFb hGb hmul hc0 hcu hbs hbel hx hd
        go_wp2
        generalize wr.alloc (.cells #[.int .u64 x.virt, .int .u64 x.phys, .int .i64 x.pages, .bool x.big, .bool x.write, .bool x.exec] 47) = w4 at *
        generalize wr.heap.size = gx at *
        go_loopg [10] (cN + 1) (fun g2 v10 wq => ∃ (j : Nat) (s' : Bp), j + g2 = cN + 1 ∧ j ≤ cN ∧ v10 = .int .u64 ((j : Int) * unitP x) ∧ Hid (BOk s' ∧ s'.m ≤ 1024) ∧ Hid (BSp wq w.heap.size gb base s') ∧ Hid (Below w.heap.size w wq) ∧
          Hid (wq.heap[gx]? = some (.cells #[.int .u64 x.virt, .int .u64 x.phys, .int .i64 x.pages, .bool x.big, .bool x.write, .bool x.exec] 47 (0, 0))) ∧ Hid (rowP base x (cN - j) j s' = rowP base x cN 0 s))
        case atStart => exact ⟨0, s, by omega, by omega, by simp, hsok, hb4, hbel4, hlf, rfl⟩
        case round =>
          clear hb4 hbel4 hlf c0 c1 c2 c3 c4 c5 hsok
          clear w4
          obtain ⟨j, s', hj, hjc, rfl, hsok', hbs, hbel, hlf, hR2⟩ := hrel
          have d0 : wr.cell? ⟨gx, 0, none⟩ = some (.int .u64 x.virt) := cell_of_row wr gx 0 _ _ _ hlf.out
          have d1 : wr.cell? ⟨gx, 1, none⟩ = some (.int .u64 x.phys) := cell_of_row wr gx 1 _ _ _ hlf.out
          have d2 : wr.cell? ⟨gx, 2, none⟩ = some (.int .i64 x.pages) := cell_of_row wr gx 2 _ _ _ hlf.out
          have d3 : wr.cell? ⟨gx, 3, none⟩ = some (.bool x.big) := cell_of_row wr gx 3 _ _ _ hlf.out
          have d4 : wr.cell? ⟨gx, 4, none⟩ = some (.bool x.write) := cell_of_row wr gx 4 _ _ _ hlf.out
          have d5 : wr.cell? ⟨gx, 5, none⟩ = some (.bool x.exec) := cell_of_row wr gx 5 _ _ _ hlf.out
          obtain ⟨⟨hp1, hF1, hF2⟩, ⟨hG1, hG2⟩, hFb, hGb⟩ := hnums.out
          have hpm : IntKind.u64.wrap (x.pages * 4096) = x.pages * 4096 := by
            have e : IntKind.u64.wrap (x.pages * 4096) = x.pages * 4096 % 18446744073709551616 := by simp [IntKind.wrap, IntKind.signed, IntKind.bits]
            rw [e, Int.emod_eq_of_lt (by omega) (by omega)]
          have hju0 : 0 ≤ (j : Int) * unitP x := Int.mul_nonneg (by omega) (by omega)
          by_cases hlt2 : j < cN
          · have hju : (j : Int) * unitP x + unitP x ≤ x.pages * 4096 := by
              rw [← hcu'.out]
              have : ((j : Int) + 1) * unitP x ≤ (cN : Int) * unitP x := Int.mul_le_mul_of_nonneg_right (by omega) (by omega)
              rw [Int.add_mul, Int.one_mul] at this
              exact this
            have hltK : (j : Int) * unitP x < x.pages * 4096 := by omega
            have hV : ((x.virt + (j : Int) * unitP x).toNat : Int) = x.virt + (j : Int) * unitP x := Int.toNat_of_nonneg (by omega)
            have hVlt : (x.virt + (j : Int) * unitP x).toNat < 549755813888 := by omega
            have hpok := Lib.hid (pageP_ok (base := base) (ph := x.phys + (j : Int) * unitP x) (x := x) hsok'.out.1 hVlt)
            have hpage := page_any w.heap.size gb base s' (x.virt + (j : Int) * unitP x).toNat (x.phys + (j : Int) * unitP x) x wr hbs.out hsok'.out.1.mid hsok'.out.1.low (by have := hsok'.out.2; omega) hsok'.out.1.virt0 hsok'.out.1.virt1 hVlt (by omega) (by omega) hb0 hb1 hbel.out.size
            rw [hV] at hpage
            simp only [Lf.val] at hpage
            have hpage' := Lib.hid hpage
            have hstep : Hid (rowP base x cN 0 s = if 1024 < (pageP base s' (x.virt + (j : Int) * unitP x).toNat (x.phys + (j : Int) * unitP x) x).m then (pageP base s' (x.virt + (j : Int) * unitP x).toNat (x.phys + (j : Int) * unitP x) x, false) else rowP base x (cN - (j + 1)) (j + 1) (pageP base s' (x.virt + (j : Int) * unitP x).toNat (x.phys + (j : Int) * unitP x) x)) := by
              show _ = _
              rw [← hR2.out, show cN - j = (cN - (j + 1)) + 1 from by omega]
              rfl
            have hju1 : Hid (((j + 1 : Nat) : Int) * unitP x = (j : Int) * unitP x + unitP x) := by
              show _ = _
              rw [Int.natCast_add, Int.add_mul]; simp
            clear hpage hV hVlt hR2 hsok' hbs
            generalize pageP base s' (x.virt + (j : Int) * unitP x).toNat (x.phys + (j : Int) * unitP x) x = p at *
            generalize (j : Int) * unitP x = ku at *
            clear hcu'
            go_wp2_with fail
            refine hpage'.out.mono ?_
            rintro en w5 ⟨rfl, hbs5, hbl5⟩
            have hlf5 : Hid (w5.heap[gx]? = some (.cells #[.int .u64 x.virt, .int .u64 x.phys, .int .i64 x.pages, .bool x.big, .bool x.write, .bool x.exec] 47 (0, 0))) := (hbl5.2 gx _ hlf.out).trans hlf.out
            have hbel5 : Hid (Below w.heap.size w w5) := hbel.out.trans hbl5.1
            have hbs5' := Lib.hid hbs5
            obtain ⟨va, hst5⟩ := hbs5
            obtain ⟨A5, c5, hva⟩ : ∃ A5 c5, va = .slice A5 p.m c5 := by
              obtain ⟨_, A, c, e, _⟩ := RdC.of_own hst5.own
              exact ⟨A, c, e⟩
            have q1 : w5.cell? ⟨gb, 1, none⟩ = some (.slice A5 p.m c5) := by rw [← hva]; exact cell_of_row w5 gb 1 _ _ _ hst5.cell
            have d0 : w5.cell? ⟨gx, 0, none⟩ = some (.int .u64 x.virt) := cell_of_row w5 gx 0 _ _ _ hlf5.out
            have d1 : w5.cell? ⟨gx, 1, none⟩ = some (.int .u64 x.phys) := cell_of_row w5 gx 1 _ _ _ hlf5.out
            have d2 : w5.cell? ⟨gx, 2, none⟩ = some (.int .i64 x.pages) := cell_of_row w5 gx 2 _ _ _ hlf5.out
            have d3 : w5.cell? ⟨gx, 3, none⟩ = some (.bool x.big) := cell_of_row w5 gx 3 _ _ _ hlf5.out
            have d4 : w5.cell? ⟨gx, 4, none⟩ = some (.bool x.write) := cell_of_row w5 gx 4 _ _ _ hlf5.out
            have d5 : w5.cell? ⟨gx, 5, none⟩ = some (.bool x.exec) := cell_of_row w5 gx 5 _ _ _ hlf5.out
            clear hst5 hva hbl5 hpage' hbel hlf
            by_cases hmany : 1024 < p.m
            · have hres : Hid (buildP base l = .error 4) := by
                show _ = _
                have h1 := hstep.out
                rw [if_pos hmany] at h1
                rw [hbp.out, ← hR.out, rowsP, hcN, h1]
                rfl
              have hmI : (1024 : Int) < (p.m : Int) := by omega
              go_wp2
              go_returns
              exact ⟨by rw [hres.out]; rfl, hbel5.out⟩
            · have hR3 : Hid (rowP base x (cN - (j + 1)) (j + 1) p = rowP base x cN 0 s) := by
                show _ = _
                rw [hstep.out, if_neg hmany]
              have hmI : (p.m : Int) ≤ 1024 := by omega
              have hm9 : p.m ≤ 1024 := by omega
              go_wp2_with fail
              refine (hunit.out w5).mono ?_
              rintro en w6 ⟨rfl, hb6⟩
              have hbs6 : Hid (BSp w6 w.heap.size gb base p) := by
                obtain ⟨va, hst⟩ := hbs5'.out
                exact ⟨va, hst.below hb6⟩
              have hbel6 : Hid (Below w.heap.size w w6) := hbel5.out.trans (hb6.mono hbel5.out.size)
              have hlf6 : Hid (w6.heap[gx]? = some (.cells #[.int .u64 x.virt, .int .u64 x.phys, .int .i64 x.pages, .bool x.big, .bool x.write, .bool x.exec] 47 (0, 0))) := (hb6.block gx (lt_of_block hlf5.out)).trans hlf5.out
              clear hb6
              go_wp2
              go_roundg (cN - j)
              case rel => exact ⟨j + 1, p, by omega, by omega, by rw [hju1.out], ⟨hpok.out.1, hm9⟩, hbs6, hbel6, hlf6, hR3⟩
              case measure => omega
          · obtain rfl : j = cN := by omega
            have hgeK : ¬ (j : Int) * unitP x < x.pages * 4096 := by rw [hcu'.out]; omega
            have hnextR : Hid (rowsP base (l.drop (i + 1)) s' = rowsP base l startP) := by
              show _ = _
              rw [← hR.out, rowsP, hcN, ← hR2.out, Nat.sub_self, rowP]
              rfl
            generalize (j : Int) * unitP x = ku at *
            go_wp2
            go_roundg (n - i)
            case rel => exact ⟨i + 1, s', by omega, by omega, by simp, hsok', hbs, hbel, hnextR⟩
            case measure => omega
      · obtain rfl : i = n := by omega
        obtain ⟨va, hst⟩ := hbs.out
        have d1 : wr.cell? ⟨gb, 1, none⟩ = some va := cell_of_row wr gb 1 _ _ _ hst.cell
        have hown := Lib.hid hst.own
        have hres : Hid (buildP base l = .ok s) := by
          show _ = _
          have h1 := hR.out
          rw [List.drop_of_length_le (by omega)] at h1
          rw [hbp.out, ← h1]; rfl
        clear hst hbs
        go_wp2
        go_returns
        rw [hres.out]
        exact ⟨⟨_, rfl, hown.out⟩, hbel.out⟩
  · have hne : (rightP 0 l != 0) = true := by simp [hr]
    have hbp : buildP base l = .error (rightP 0 l) := by unfold buildP; rw [if_pos hr]
    rw [hbp]
    clear hbp hr
    go_enter Try.func35, Try.ntmps35
    go_wp2_with fail
    refine hright.out.mono ?_
    rintro en w1 ⟨rfl, hbel1'⟩
    have hbel1 := Lib.hid hbel1'
    clear hbel1'
    go_wp2
    go_returns
    exact ⟨rfl, hbel1.out⟩
end Go.Proofs.Ytaogndianciogaa.Mm
