/- bulkheadref12.Build. -/
import Derived.Test.YtaogndianciogaaMref
import Derived.Deep.MidRow
import Derived.Deep.RegionHeld3
import Derived.Deep.DeepCutAuto
namespace Go.Proofs.Ytaogndianciogaa.Mm
open Go.RowKit
set_option linter.unusedVariables false
set_option linter.unusedSimpArgs false
/-- what the document's tables come to, in the builder's words -/
theorem tablesP_ref {base : Int} (hb0 : 0 ≤ base) {l : List Lf} (hok : ∀ x ∈ l, x.ok) :
    ((countR l).2 ≠ 0 → tablesP base l = .error (countR l).2) ∧
    ((countR l).2 = 0 → rightP 0 l = 0 ∧ (tabsP l).length ≤ 1024 ∧ tabsP l = namesP l ∧ (countR l).1 = (tabsP l).length ∧
      (base % 4096 ≠ 0 → tablesP base l = .error 33) ∧
      (base % 4096 = 0 → ¬ fitsP base (tabsP l).length 4294967296 → tablesP base l = .error 34) ∧
      (base % 4096 = 0 → fitsP base (tabsP l).length 4294967296 → ∃ s, tablesP base l = .ok s ∧ s.m = (tabsP l).length ∧ s.F = entP base (tabsP l) (l.flatMap eachR))) := by
  have hnn : ∀ x ∈ l, 0 ≤ x.virt ∧ 0 ≤ x.phys := fun x hx => ⟨(hok x hx).1, (hok x hx).2.2.1⟩
  by_cases hr : rightP 0 l = 0
  · have hg := okRows_all ((right_ok hnn).1 hr)
    obtain ⟨t1, t2⟩ := tabs_names hg
    by_cases hm : 1024 < (tabsP l).length
    · have hc : countR l = (0, 4) := by unfold countR; rw [if_neg (fun h => h hr), if_pos hm]
      rw [hc]
      have hn : 1024 < (namesP l).length := by
        by_cases h : 1024 < (namesP l).length
        · exact h
        · rw [t1 (by omega)] at hm; omega
      refine ⟨fun _ => ?_, fun h => absurd h (by decide)⟩
      unfold tablesP
      rw [(tables_names hnn hr).2 hn]
    · have hc : countR l = (((tabsP l).length : Int), 0) := by unfold countR; rw [if_neg (fun h => h hr), if_neg hm]
      rw [hc]
      have hn : (namesP l).length ≤ 1024 := by
        by_cases h : 1024 < (namesP l).length
        · exact absurd (t2 h) hm
        · omega
      have e := t1 hn
      refine ⟨fun h => absurd rfl h, fun _ => ⟨hr, by omega, e, rfl, fun h => ?_, fun h1 h2 => ?_, fun h1 h2 => ?_⟩⟩
      · obtain ⟨s, k1, k2, k3⟩ := entP_eq (base := base / 4096 * 4096 % 4294967296) hnn hr hn
        unfold tablesP
        rw [k1]
        show (if base % 4096 ≠ 0 then _ else _) = _
        rw [if_pos h]
      · obtain ⟨s, k1, k2, k3⟩ := entP_eq (base := base / 4096 * 4096 % 4294967296) hnn hr hn
        unfold tablesP
        rw [k1]
        show (if base % 4096 ≠ 0 then _ else if fitsP base s.m 4294967296 then _ else _) = _
        rw [if_neg (fun h => h h1), k2, ← e, if_neg h2]
      · have hbb : base / 4096 * 4096 % 4294967296 = base := by
          have := h2.1; omega
        obtain ⟨s, k1, k2, k3⟩ := entP_eq (base := base) hnn hr hn
        refine ⟨s, tablesP_ok.2 ⟨by rw [hbb]; exact k1, h1, by rw [k2, ← e]; exact h2⟩, by rw [k2, e], by rw [k3, e]⟩
  · have hc : countR l = (0, rightP 0 l) := by unfold countR; rw [if_pos hr]
    rw [hc]
    refine ⟨fun _ => ?_, fun h => absurd h hr⟩
    unfold tablesP buildP
    rw [if_pos hr]
theorem kidSlot_1 {D : Nm} {i : Nat} {e : Int × Int} (h : D[i]? = some e) (h1 : e.1 = 1) : kidSlot D i = (0, (e.2 / 1073741824).toNat) := by
  unfold kidSlot; rw [h]; dsimp only; rw [if_pos h1]
theorem kidSlot_2 {D : Nm} {i : Nat} {e : Int × Int} (h : D[i]? = some e) (h1 : e.1 ≠ 1) : kidSlot D i = (idxN D (m30 e.2), (e.2 / 2097152 % 512).toNat) := by
  unfold kidSlot; rw [h]; dsimp only; rw [if_neg h1]
/-- the cell of an entry in an owned row of tables -/
theorem ent_cell {w : World} {B g cap : Nat} {T : TypeId} {D : Nm} {G : List Int} (h : w.ownsRow B T 514 (.slice (some ⟨g, 0, none⟩) D.length cap) D.length (tbV D G)) {t k : Nat} (ht : t < D.length) (hk : k < 512) :
    w.cell? ⟨g, t * 514 + 2 + k, none⟩ = some (.int .u64 (tbl G t k)) ∧ w.frozen? ⟨g, t * 514 + 2 + k, none⟩ = false := by
  obtain ⟨g', cap', cur, e, hb, hg, hnc, hcm, hcs, hta⟩ := own_obj h (by omega)
  cases e
  have hx : (tbV D G)[t * 514 + 2 + k]? = some (.int .u64 (tbl G t k)) := tbV_ent ht hk
  refine ⟨(cell_of_row w g _ cur T (0, 0) hg).trans ?_, frozen_of_block hg⟩
  rw [← hta, List.getElem?_take] at hx
  split at hx
  · simpa using hx
  · cases hx
theorem ent_set {w : World} {B g cap : Nat} {T : TypeId} {D : Nm} {G : List Int} (h : w.ownsRow B T 514 (.slice (some ⟨g, 0, none⟩) D.length cap) D.length (tbV D G)) (hG : G.length = D.length * 512) {t k : Nat} (ht : t < D.length) (hk : k < 512) (x : Int) :
    (w.setCell ⟨g, t * 514 + 2 + k, none⟩ (.int .u64 x)).ownsRow B T 514 (.slice (some ⟨g, 0, none⟩) D.length cap) D.length (tbV D (setS G (t, k) x)) := by
  rw [← tbV_set hG rfl ht hk]
  exact ownsRow_set h (by omega) _
set_option maxHeartbeats 16000000 in
set_option maxRecDepth 100000 in
theorem rbuild_any (v : Value) (n : Nat) (l : List Lf) (hok : ∀ x ∈ l, x.ok) (base : Int) (hb0 : 0 ≤ base) (hb1 : base < 18446744073709551616) (w : World) (hv : RdX w 6 v n (lfV l)) :
    Calls Try.prog 39 #[v, .int .u64 base] w (fun e w' => BuildPost w.heap.size w' e (tablesP base l) ∧ Below w.heap.size w w') := by
  have hln : l.length = n := by have := hv.1; rw [lfV_length] at this; omega
  have h1 := Lib.hid (rcount_any v n l hok w hv)
  obtain ⟨hT1, hT2⟩ := tablesP_ref hb0 hok
  have hmod : base.tmod 4096 = base % 4096 := Int.tmod_eq_emod_of_nonneg hb0
  by_cases hc : (countR l).2 = 0
  · obtain ⟨hr0, hm1, htn, hc1, hT3, hT4, hT5⟩ := hT2 hc
    have hnn : ∀ x ∈ l, 0 ≤ x.virt ∧ 0 ≤ x.phys := fun x hx => ⟨(hok x hx).1, (hok x hx).2.2.1⟩
    have hor := (right_ok hnn).1 hr0
    have hgood := okRows_all hor
    have hgood' := Lib.hid hgood
    have hfacts := (tables_names (base := base) hnn hr0).1 (by rw [← htn]; exact hm1)
    have hbnd : Bnd (tabsP l) := by rw [htn]; exact names_bnd (okRows_all (okRows_each hor))
    have hnm : NmOk (tabsP l) := by rw [htn]; exact hfacts.choose_spec.2.2.2.1
    have hhomes : Homes (tabsP l) (l.flatMap eachR) := by rw [htn]; exact hfacts.choose_spec.2.2.2.2.1
    have htab := Lib.hid (fun w1 (hb : Below w.heap.size w w1) => tables_any v n l hgood w1 (hv.below hb))
    rw [hc, hc1] at h1
    have hv' := Lib.hid hv
    obtain ⟨A, c, rfl, hcm⟩ : ∃ A c, v = .slice A n c ∧ c ≤ 9223372036854775807 := by
      obtain ⟨_, A, c, e, h1, hm, _⟩ := hv
      exact ⟨A, c, e, by unfold maxLen at hm; omega⟩
    have hnm9 : n ≤ 9223372036854775807 := by
      obtain ⟨_, A9, c9, e, h1, hm, _⟩ := hv'.out
      cases e
      unfold maxLen at hm; omega
    clear hT1 hT2 hc hc1 hr0 htn hnn hor hgood hfacts hok hv
    generalize tabsP l = D at *
    by_cases hbm : base % 4096 = 0
    · have hbmI : ¬ (0 : Int) < base % 4096 := by omega
      by_cases hf : fitsP base D.length 4294967296
      · obtain ⟨s, hs1, hs2, hs3⟩ := hT5 hbm hf
        have hf1 := hf.1
        have hf2 := hf.2
        have hf4 : base + D.length * 4096 ≤ 4294967296 := by
          have := (Int.le_ediv_iff_mul_le (show (0 : Int) < 4096 by omega)).1 hf2
          omega
        have hf3 : ¬ (4294967296 - base) / 4096 < (D.length : Int) := by omega
        have hs1' := Lib.hid hs1
        have hs2' := Lib.hid hs2
        have hs3' := Lib.hid hs3
        clear hT3 hT4 hT5 hs1 hs2 hs3 hf hf2
        go_enter Try.func39, Try.ntmps39
        go_wp2_with fail
        refine h1.out.mono ?_
        rintro en w1 ⟨rfl, hb1'⟩
        have hbel1 := Lib.hid hb1'
        clear hb1' h1
        go_wp2_with fail
        refine (htab.out w1 hbel1.out).mono ?_
        rintro en w2 ⟨v2, rfl, hown', hb2'⟩
        have hm0 : 1 ≤ D.length := lt_of_get hnm.head
        obtain ⟨g, cap, cur, rfl, hBg, hgb, hnc, hcm2, _, _⟩ := own_obj hown' (by omega)
        have hcap9 : cap ≤ 9223372036854775807 := by unfold maxLen at hcm2; omega
        have hBg' : w.heap.size ≤ g := Nat.le_trans hbel1.out.size hBg
        have hown : Hid (w2.ownsRow w.heap.size 109 514 (.slice (some ⟨g, 0, none⟩) D.length cap) D.length (tbV D (fillK base D 1 (zeroG D.length)))) := own_weak hown' hbel1.out.size
        have hbel2 : Hid (Below w.heap.size w w2) := hbel1.out.trans (hb2'.mono hbel1.out.size)
        clear hown' hb2' htab hbel1 hgb hcm2
        have hr1 : Hid (∀ W, Calls Try.prog 56 #[.int .i64 1] W (fun e w' => e = .returned (.int .u64 1073741824) ∧ Below W.heap.size W w')) := fun W => reach_any 1 (.inr (.inl rfl)) W
        have hr2 : Hid (∀ W, Calls Try.prog 56 #[.int .i64 2] W (fun e w' => e = .returned (.int .u64 2097152) ∧ Below W.heap.size W w')) := fun W => reach_any 2 (.inr (.inr rfl)) W
        go_wp2_with fail
        go_loopg [9] D.length (fun g1 v9 wr => ∃ i : Nat, i + g1 = D.length + 1 ∧ 1 ≤ i ∧ i ≤ D.length ∧ v9 = .int .i64 i ∧ Hid (wr.ownsRow w.heap.size 109 514 (.slice (some ⟨g, 0, none⟩) D.length cap) D.length (tbV D (fillK base D i (zeroG D.length)))) ∧ Hid (Below w.heap.size w wr))
        case atStart => exact ⟨1, by omega, by omega, by omega, rfl, hown, hbel2⟩
        case round =>
          clear hown hbel2
          clear w2
          obtain ⟨i, hi, hi1, hin, rfl, hown, hbel⟩ := hrel
          by_cases hlt : i < D.length
          · have hx : D[i]? = some (D[i]'hlt) := List.getElem?_eq_getElem _
            have hks := kidSlot_lt hnm hbnd (i := i) hlt hi1
            have hbe := hbnd _ (List.getElem_mem hlt)
            generalize D[i]'hlt = x at hx hbe
            obtain ⟨lv, vt⟩ := x
            obtain ⟨hvt0, hvt1⟩ := hbe
            replace hvt0 : 0 ≤ vt := hvt0
            replace hvt1 : vt < 549755813888 := hvt1
            obtain ⟨_, _, hve, _, _, _, hgl, c0, c1⟩ := tab_cell hown.out hx
            cases hve
            have hiI : (i : Int) < (D.length : Int) := by omega
            have hGl : Hid ((fillK base D i (zeroG D.length)).length = D.length * 512) := by show _ = _; rw [fillK_length]; exact List.length_replicate
            have hkw : Hid (kidW base i = base + i * 4096 + 1) := by
              show _ = _
              rw [kidW_eq hbm, Int.emod_eq_of_lt (by omega) (by omega)]
            have hor : bits .or .u64 (base + (i : Int) * 4096) 1 = base + i * 4096 + 1 := or_low' (by omega) (by omega) (by omega) (by omega) (by omega)
            have hsucc : Hid (fillK base D (i + 1) (zeroG D.length) = setS (fillK base D i (zeroG D.length)) (kidSlot D i) (kidW base i)) := by show _ = _; rw [fillK_succ, if_pos hi1]
            by_cases hl1 : lv = 1
            · subst hl1
              rw [kidSlot_1 hx rfl] at hks hsucc
              obtain ⟨K, hK⟩ : ∃ K, (vt / 1073741824).toNat = K := ⟨_, rfl⟩
              have hKI : vt / 1073741824 = (K : Int) := by omega
              have hKt : vt.tdiv 1073741824 = (K : Int) := by rw [Int.tdiv_eq_ediv_of_nonneg hvt0]; exact hKI
              replace hks : 0 < D.length ∧ (vt / 1073741824).toNat < 512 := hks
              rw [hK] at hks
              have hsucc2 : Hid (fillK base D (i + 1) (zeroG D.length) = setS (fillK base D i (zeroG D.length)) (0, K) (base + i * 4096 + 1)) := by
                show _ = _; rw [hsucc.out, hkw.out]
                show setS _ (0, (vt / 1073741824).toNat) _ = _
                rw [hK]
              have hK512 : K < 512 := hks.2
              have hKI2 : (K : Int) < 512 := by omega
              obtain ⟨ct, ft⟩ := ent_cell hown.out (t := 0) (k := K) (by omega) hK512
              have ht2 : (0 : Nat) * 514 + 2 + K = 2 + K := by omega
              rw [ht2] at ct ft
              have hwr : IntKind.u64.wrap (base + (i : Int) * 4096) = base + i * 4096 := by simp [IntKind.wrap, IntKind.signed, IntKind.bits]; omega
              clear hks hK hsucc hkw
              have hm0I : (0 : Int) < (D.length : Int) := by omega
              have hm0N : 0 < D.length := by omega
              have hKnn : (0 : Int) ≤ (K : Int) := by omega
              have hKw : IntKind.u64.wrap (K : Int) = K := by simp [IntKind.wrap, IntKind.signed, IntKind.bits]; omega
              go_upto_region 14 with (fail)
              go_region_held3 (fun w' => w'.cell? ⟨g, i * 514 + 1, none⟩ = some (.int .u64 vt))
                (first
                  | exact c1
                  | exact e0
                  | exact e1 _)
                (first
                  | (go_at_call 56; refine (hr1.out _).mono ?_; rintro en w3 ⟨rfl, hb3'⟩
                     have hb3 : Below wr.heap.size wr w3 := (Below.drew (Below.refl wr.heap.size wr)).trans hb3'
                     have e0 : w3.cell? ⟨g, i * 514 + 1, none⟩ = some (.int .u64 vt) := (hb3.cell (p := ⟨g, i * 514 + 1, none⟩) hgl).trans c1
                     have e1 : ∀ x, (w3.setCell ⟨g, 2 + K, none⟩ x).cell? ⟨g, i * 514 + 1, none⟩ = some (.int .u64 vt) := fun x => (World.cell?_setCell_other w3 _ _ _ (fun e => by have h9 : 2 + K = i * 514 + 1 := congrArg Addr.off e; omega)).trans e0
                     have e2 : w3.cell? ⟨g, 2 + K, none⟩ = some (.int .u64 (tbl (fillK base D i (zeroG D.length)) 0 K)) := (hb3.cell (p := ⟨g, 2 + K, none⟩) hgl).trans ct
                     have e3 : w3.frozen? ⟨g, 2 + K, none⟩ = false := (hb3.frozen (p := ⟨g, 2 + K, none⟩) hgl).trans ft))
              all_goals
                have hown4 : Hid ((w3.setCell ⟨g, 2 + K, none⟩ (.int .u64 (base + i * 4096 + 1))).ownsRow w.heap.size 109 514 (.slice (some ⟨g, 0, none⟩) D.length cap) D.length (tbV D (fillK base D (i + 1) (zeroG D.length)))) := by
                  rw [hsucc2.out]
                  have h9 := ent_set (own_below hown.out hb3) hGl.out (t := 0) (k := K) (by omega) hK512 (base + i * 4096 + 1)
                  rw [show 0 * 514 + 2 + K = 2 + K from by omega] at h9
                  exact h9
                have hbel4 : Hid (Below w.heap.size w (w3.setCell ⟨g, 2 + K, none⟩ (.int .u64 (base + i * 4096 + 1)))) := (hbel.out.trans (hb3.mono hbel.out.size)).setCell hBg' _
                clear e0 e1 e2 e3 hb3 hb3'
                go_wp2
                go_roundg (D.length - i)
                case rel => exact ⟨i + 1, by omega, by omega, by omega, by simp, hown4, hbel4⟩
                case measure => omega
            · rw [kidSlot_2 hx hl1] at hks hsucc
              have hl2 : lv = 2 := (hnm.lv i _ hi1 hx).resolve_left hl1
              subst hl2
              have hmem := hnm.up vt (by have := mem_of_get hx; exact this)
              obtain ⟨K, hK⟩ : ∃ K, (vt / 2097152 % 512).toNat = K := ⟨_, rfl⟩
              replace hks : idxN D (m30 vt) < D.length ∧ (vt / 2097152 % 512).toNat < 512 := hks
              have hsucc2 : Hid (fillK base D (i + 1) (zeroG D.length) = setS (fillK base D i (zeroG D.length)) (idxN D (m30 vt), K) (base + i * 4096 + 1)) := by
                show _ = _; rw [hsucc.out, hkw.out]
                show setS _ (idxN D (m30 vt), (vt / 2097152 % 512).toNat) _ = _
                rw [hK]
              rw [hK] at hks
              have hKI : vt / 2097152 % 512 = (K : Int) := by omega
              have hKt : (vt.tdiv 2097152).tmod 512 = (K : Int) := by rw [Int.tdiv_eq_ediv_of_nonneg hvt0, Int.tmod_eq_emod_of_nonneg (by omega)]; exact hKI
              have hK512 : K < 512 := hks.2
              have hKI2 : (K : Int) < 512 := by omega
              have hUD := hks.1
              have h30 := andNot_30 (v := vt) (by omega) (by omega)
              have hm30 : ((1 : Int), vt / 1073741824 * 1073741824) = m30 vt := rfl
              have hfind : Hid (∀ W : World, W.ownsRow w.heap.size 109 514 (.slice (some ⟨g, 0, none⟩) D.length cap) D.length (tbV D (fillK base D i (zeroG D.length))) → Calls Try.prog 57 #[.slice (some ⟨g, 0, none⟩) D.length cap, .int .i64 1, .int .u64 (vt / 1073741824 * 1073741824)] W (fun e w' => e = .returned (.int .i64 (idxN D (m30 vt))) ∧ w' = W)) := by
                intro W hW
                exact find_any _ D _ w.heap.size 1 (vt / 1073741824 * 1073741824) W (by omega) hW hmem
              clear hks hK hsucc hkw hm30 hmem
              generalize idxN D (m30 vt) = U at *
              have hUI : (U : Int) < (D.length : Int) := by omega
              have hU0 : 1 ≤ U ∨ True := .inr trivial
              obtain ⟨ct, ft⟩ := ent_cell hown.out (t := U) (k := K) hUD hK512
              have q1 : ∀ s : BW wr, s.W.cell? ⟨g, i * 514 + 1, none⟩ = some (.int .u64 vt) := fun s => s.cell c1 hgl
              go_upto_region 15 with (fail)
              go_cut [11] (fun v11 wc => v11 = .int .i64 U ∧ Hid (Below wr.heap.size wr wc))
              case first =>
                refine wp_region_below (by kernel_rfl) (by kernel_rfl) ?_
                repeat (go_big_quiet_step (first
                  | (go_at_call 56; refine (hr1.out _).mono ?_; rintro e W' ⟨he, hb⟩; exact ⟨he, BW.next _ hb⟩)
                  | (go_at_call 57; refine (hfind.out _ (own_below hown.out (BW.h _))).mono ?_; rintro e W' ⟨he, hb⟩; exact ⟨he, _, hb⟩)))
                refine wpQuiet_nil ?_
                intro _ hwX
                obtain ⟨sX, rfl⟩ := hwX
                have hbX := sX.h
                go_wp2_with fail
                go_meet
                case rel => exact ⟨rfl, hbX⟩
              case rest =>
                rename World => wd
                obtain ⟨rfl, hbd⟩ := hcut
                have hkw1 : IntKind.u64.wrap (vt.tdiv 2097152) = vt.tdiv 2097152 := by rw [Int.tdiv_eq_ediv_of_nonneg hvt0]; simp [IntKind.wrap, IntKind.signed, IntKind.bits]; omega
                have hKw : IntKind.u64.wrap (K : Int) = K := by simp [IntKind.wrap, IntKind.signed, IntKind.bits]; omega
                have hd0 : vt.tdiv 2097152 = vt / 2097152 := Int.tdiv_eq_ediv_of_nonneg hvt0
                have hKnn : (0 : Int) ≤ (K : Int) := by omega
                have hUnn : (0 : Int) ≤ (U : Int) := by omega
                have hownd := Lib.hid (own_below hown.out hbd.out)
                have hbeld : Hid (Below w.heap.size w wd) := hbel.out.trans (hbd.out.mono hbel.out.size)
                have hgd : g < wd.heap.size := Nat.lt_of_lt_of_le hgl hbd.out.size
                have c1d : wd.cell? ⟨g, i * 514 + 1, none⟩ = some (.int .u64 vt) := (hbd.out.cell (p := ⟨g, i * 514 + 1, none⟩) hgl).trans c1
                have ctd : wd.cell? ⟨g, U * 514 + 2 + K, none⟩ = some (.int .u64 (tbl (fillK base D i (zeroG D.length)) U K)) := (hbd.out.cell (p := ⟨g, U * 514 + 2 + K, none⟩) hgl).trans ct
                have ftd : wd.frozen? ⟨g, U * 514 + 2 + K, none⟩ = false := (hbd.out.frozen (p := ⟨g, U * 514 + 2 + K, none⟩) hgl).trans ft
                clear q1 c0 c1 ct ft hbd hown hbel hfind h30 hgl
                obtain ⟨Q, hQ⟩ : ∃ Q : Int, vt / 2097152 = Q := ⟨_, rfl⟩
                rw [hQ] at hKI hd0
                rw [hd0] at hkw1 hKt
                clear hQ
                go_upto_region 16 with (fail)
                go_region_held3 (fun w' => w'.cell? ⟨g, i * 514 + 1, none⟩ = some (.int .u64 vt))
                  (first
                    | exact c1d
                    | exact e0
                    | exact e1 _)
                  (first
                    | (go_at_call 56; refine (hr2.out _).mono ?_; rintro en w3 ⟨rfl, hb3'⟩
                       have hb3 : Below wd.heap.size wd w3 := (Below.drew (Below.refl wd.heap.size wd)).trans hb3'
                       have e0 : w3.cell? ⟨g, i * 514 + 1, none⟩ = some (.int .u64 vt) := (hb3.cell (p := ⟨g, i * 514 + 1, none⟩) hgd).trans c1d
                       have e1 : ∀ x, (w3.setCell ⟨g, U * 514 + 2 + K, none⟩ x).cell? ⟨g, i * 514 + 1, none⟩ = some (.int .u64 vt) := fun x => (World.cell?_setCell_other w3 _ _ _ (fun e => by have h9 : U * 514 + 2 + K = i * 514 + 1 := congrArg Addr.off e; omega)).trans e0
                       have e2 : w3.cell? ⟨g, U * 514 + 2 + K, none⟩ = some (.int .u64 (tbl (fillK base D i (zeroG D.length)) U K)) := (hb3.cell (p := ⟨g, U * 514 + 2 + K, none⟩) hgd).trans ctd
                       have e3 : w3.frozen? ⟨g, U * 514 + 2 + K, none⟩ = false := (hb3.frozen (p := ⟨g, U * 514 + 2 + K, none⟩) hgd).trans ftd))
                all_goals
                  have hown4 : Hid ((w3.setCell ⟨g, U * 514 + 2 + K, none⟩ (.int .u64 (base + i * 4096 + 1))).ownsRow w.heap.size 109 514 (.slice (some ⟨g, 0, none⟩) D.length cap) D.length (tbV D (fillK base D (i + 1) (zeroG D.length)))) := by
                    rw [hsucc2.out]
                    exact ent_set (own_below hownd.out hb3) hGl.out hUD hK512 _
                  have hbel4 : Hid (Below w.heap.size w (w3.setCell ⟨g, U * 514 + 2 + K, none⟩ (.int .u64 (base + i * 4096 + 1)))) := (hbeld.out.trans (hb3.mono hbeld.out.size)).setCell hBg' _
                  clear e0 e1 e2 e3 hb3 hb3'
                  go_wp2
                  go_roundg (D.length - i)
                  case rel => exact ⟨i + 1, by omega, by omega, by omega, by simp, hown4, hbel4⟩
                  case measure => omega
          · obtain rfl : i = D.length := by omega
            have hG0l : Hid ((fillK base D D.length (zeroG D.length)).length = D.length * 512) := by show _ = _; rw [fillK_length]; exact List.length_replicate
            have hF0 : Hid (fillL D (l.flatMap eachR) (fillK base D D.length (zeroG D.length)) = s.F) := by show _ = _; rw [hs3'.out]; rfl
            have hsl : Hid (s.F.length = D.length * 512) := by show _ = _; rw [← hF0.out, fillL_length]; exact hG0l.out
            generalize fillK base D D.length (zeroG D.length) = G0 at hown hG0l hF0
            have hhome : Hid (∀ x ∈ l, ∀ k : Nat, k < cntP x → (x.big = true → m30 (x.virt + k * unitP x) ∈ D) ∧ (x.big = false → m21 (x.virt + k * unitP x) ∈ D)) := fun x hx k hk => hhomes _ (step_mem hx hk)
            have hgg : Hid (g < wr.heap.size) := (hown.out.lt g rfl).2
            clear hbnd hnm hhomes hbm hbmI hf3 hs3' hr1 hi hi1 hin hlt
            go_wp2_with fail
            go_loopg [12] (n + 1) (fun g1 v12 wr2 => ∃ (k : Nat) (G : List Int), k + g1 = n + 1 ∧ k ≤ n ∧ v12 = .int .i64 k ∧ Hid (G.length = D.length * 512) ∧ Hid (wr2.ownsRow w.heap.size 109 514 (.slice (some ⟨g, 0, none⟩) D.length cap) D.length (tbV D G)) ∧ Hid (Below w.heap.size w wr2) ∧ Hid (wr.heap.size ≤ wr2.heap.size) ∧ Hid (fillL D ((l.drop k).flatMap eachR) G = s.F))
            case atStart => exact ⟨0, G0, by omega, by omega, rfl, hG0l, hown, hbel, Nat.le_refl _, hF0⟩
            case round =>
              clear hown hbel hG0l hF0
              rename World => wr2
              obtain ⟨k, G, hk, hkn, rfl, hGl, hown, hbel, hbelr, hR⟩ := hrel
              by_cases hlt : k < n
              · have hx' : l[k]? = some (l[k]'(by omega)) := List.getElem?_eq_getElem _
                have hd : l.drop k = l[k]'(by omega) :: l.drop (k + 1) := List.drop_eq_getElem_cons _
                have hxg := hgood'.out _ (List.getElem_mem (show k < l.length by omega))
                have hxh := hhome.out _ (List.getElem_mem (show k < l.length by omega))
                generalize l[k]'(by omega) = x at hx' hd hxg hxh
                rw [hd] at hR
                obtain ⟨g4, off, c', hve, _, _, hgl, hL⟩ := RdX.leaf (hv'.out.below hbel.out) hx' hlt
                cases hve
                obtain ⟨c0, c1, c2, c3, c4, c5⟩ := hL
                have hltI : (k : Int) < (n : Int) := by omega
                have hR2 : Hid (∀ G2, G2 = fillL D (eachR x) G → fillL D ((l.drop (k + 1)).flatMap eachR) G2 = s.F) := by
                  intro G2 e
                  rw [e, ← hR.out, List.flatMap_cons, fillL_append]
                have hxg' := Lib.hid hxg
                have hxh' := Lib.hid hxh
                have hgx : Hid (g < wr2.heap.size) := Nat.lt_of_lt_of_le hgg.out hbelr.out
                clear hd hx' hR hxg hxh
                go_upto_region 21 with (fail)
                have hb4 : Hid (Below wr2.heap.size wr2 (wr2.alloc (.cells #[.int .u64 x.virt, .int .u64 x.phys, .int .i64 x.pages, .bool x.big, .bool x.write, .bool x.exec] 47))) := (Below.refl _ _).alloc (Nat.le_refl _) _
                have hX4 := heap_alloc_new wr2 (.cells #[.int .u64 x.virt, .int .u64 x.phys, .int .i64 x.pages, .bool x.big, .bool x.write, .bool x.exec] 47)
                have hxb : Hid (wr2.heap.size < (wr2.alloc (.cells #[.int .u64 x.virt, .int .u64 x.phys, .int .i64 x.pages, .bool x.big, .bool x.write, .bool x.exec] 47)).heap.size) := by rw [World.size_alloc]; exact Nat.lt_succ_self _
                generalize wr2.alloc (.cells #[.int .u64 x.virt, .int .u64 x.phys, .int .i64 x.pages, .bool x.big, .bool x.write, .bool x.exec] 47) = w4 at *
                have hown4 := Lib.hid (own_below hown.out hb4.out)
                have hbel4 : Hid (Below w.heap.size w w4) := hbel.out.trans (hb4.out.mono hbel.out.size)
                have hbelr4 : Hid (wr.heap.size ≤ w4.heap.size) := Nat.le_trans hbelr.out hb4.out.size
                clear hown hbel hbelr hb4 c0 c1 c2 c3 c4 c5 hgl
                generalize wr2.heap.size = xb at *
                clear wr2
                have d0 : w4.cell? ⟨xb, 0, none⟩ = some (.int .u64 x.virt) := cell_of_row w4 _ 0 _ _ _ hX4
                have d1 : w4.cell? ⟨xb, 1, none⟩ = some (.int .u64 x.phys) := cell_of_row w4 _ 1 _ _ _ hX4
                have d2 : w4.cell? ⟨xb, 2, none⟩ = some (.int .i64 x.pages) := cell_of_row w4 _ 2 _ _ _ hX4
                have d3 : w4.cell? ⟨xb, 3, none⟩ = some (.bool x.big) := cell_of_row w4 _ 3 _ _ _ hX4
                have d4 : w4.cell? ⟨xb, 4, none⟩ = some (.bool x.write) := cell_of_row w4 _ 4 _ _ _ hX4
                have d5 : w4.cell? ⟨xb, 5, none⟩ = some (.bool x.exec) := cell_of_row w4 _ 5 _ _ _ hX4
                clear hX4
                go_upto_if 108 with (fail)
                go_cut [14] (fun v14 wc => v14 = .int .u64 (1 + if x.write then 2 else 0) ∧ wc = w4)
                case first =>
                  cases hxw : x.write
                  all_goals
                    go_wp2_with fail
                    go_meet
                    case rel => exact ⟨by rw [hxw]; rfl, rfl⟩
                case rest =>
                rename World => wc1
                obtain ⟨rfl, hwc⟩ := hcut
                subst wc1
                obtain ⟨F1, hF1⟩ : ∃ F1 : Int, 1 + (if x.write = true then 2 else 0) = F1 := ⟨_, rfl⟩
                have hfl : Hid (flagP x = F1 + (if x.exec then 4 else 0)) := by show _ = _; rw [← hF1]; rfl
                have hF1b : 1 ≤ F1 ∧ F1 ≤ 3 := by rw [← hF1]; cases x.write <;> decide
                obtain ⟨hF1a, hF1b⟩ := hF1b
                rw [hF1]
                clear hF1
                go_upto_if 112 with (fail)
                go_cut [14] (fun v14 wc => v14 = .int .u64 (flagP x) ∧ wc = w4)
                case first =>
                  cases hxe : x.exec
                  all_goals
                    go_wp2_with fail
                    go_meet
                    case rel => exact ⟨by rw [hfl.out, hxe]; simp, rfl⟩
                case rest =>
                rename World => wc1
                obtain ⟨rfl, hwc⟩ := hcut
                subst wc1
                clear hfl hF1a hF1b
                clear F1
                have hflc := Lib.hid (flagP_cases x)
                have hfx : Hid (∀ k : Nat, k < cntP x → 0 ≤ (k : Int) * unitP x ∧ x.virt + k * unitP x < 549755813888 ∧ x.phys + k * unitP x < 4294967296 ∧ (x.phys + k * unitP x) % 4096 = 0 ∧ leafOf (stepP x k) = x.phys + k * unitP x + flagP x + (if x.big then 8 else 0)) := fun k hk => step_facts hxg'.out hk
                have hcu := (cnt_eq hxg'.out).1
                have hx0 := hxg'.out.pages
                have hx1 := hxg'.out.v0
                have hx2 := hxg'.out.p0
                have hx3 : x.virt + x.pages * 4096 ≤ 549755813888 := hxg'.out.v1
                have hx4 : x.phys + x.pages * 4096 ≤ 4294967296 := hxg'.out.p1
                have hpw : IntKind.u64.wrap x.pages = x.pages := by simp [IntKind.wrap, IntKind.signed, IntKind.bits]; omega
                have hgx' := hgx.out
                obtain ⟨Fl, hFl⟩ : ∃ Fl, flagP x = Fl := ⟨_, rfl⟩
                rw [hFl] at hfx hflc ⊢
                clear hFl
                cases hbig : x.big with
                | true =>
                  have hU : unitP x = 2097152 := by unfold unitP; rw [hbig]; rfl
                  rw [hU] at hcu hfx hxh'
                  have hunit : Hid (∀ W, Calls Try.prog 44 #[.agg #[.int .u64 x.virt, .int .u64 x.phys, .int .i64 x.pages, .bool true, .bool x.write, .bool x.exec]] W (fun e w' => e = .returned (.int .u64 2097152) ∧ Below W.heap.size W w')) := by
                    intro W
                    have h := runit_any x W
                    unfold Lf.val at h
                    rw [hbig, hU] at h
                    exact h
                  rw [hbig] at d3 hfx
                  have hrA : Hid (∀ W, Calls Try.prog 56 #[.int .i64 1] W (fun e w' => e = .returned (.int .u64 1073741824) ∧ Below W.heap.size W w')) := fun W => reach_any 1 (.inr (.inl rfl)) W
                  go_wp2_with fail
                  go_loopg [15] (cntP x + 1) (fun g2 v15 wq => ∃ (k2 : Nat) (J : Int) (G2 : List Int), k2 + g2 = cntP x + 1 ∧ k2 ≤ cntP x ∧ v15 = .int .u64 J ∧ J = k2 * 2097152 ∧ Hid (G2.length = D.length * 512) ∧ Hid (wq.ownsRow w.heap.size 109 514 (.slice (some ⟨g, 0, none⟩) D.length cap) D.length (tbV D G2)) ∧ Hid (Below w.heap.size w wq) ∧ Hid (wr.heap.size ≤ wq.heap.size) ∧ Hid (w4.heap.size ≤ wq.heap.size) ∧ Hid (∀ o, wq.cell? ⟨xb, o, none⟩ = w4.cell? ⟨xb, o, none⟩) ∧ Hid (fillL D ((eachR x).drop k2) G2 = fillL D (eachR x) G))
                  case atStart => exact ⟨0, 0, G, by omega, by omega, rfl, by simp, hGl, hown4, hbel4, hbelr4, Nat.le_refl _, fun _ => rfl, rfl⟩
                  case round =>
                    clear hown4 hbel4 hbelr4 hGl
                    rename World => wq
                    obtain ⟨k2, J, G2, hk2, hk2c, rfl, hJ, hGl, hown, hbel, hbelr, hszq, hxq, hR⟩ := hrel
                    have e0 := (hxq.out 0).trans d0
                    have e1 := (hxq.out 1).trans d1
                    have e2 := (hxq.out 2).trans d2
                    have e3 := (hxq.out 3).trans d3
                    have e4 := (hxq.out 4).trans d4
                    have e5 := (hxq.out 5).trans d5
                    by_cases hc2 : k2 < cntP x
                    · obtain ⟨a0, a1, a2, a3, a4⟩ := hfx.out k2 hc2
                      have hlt2 : J < x.pages * 4096 := by rw [← hcu, hJ]; omega
                      have hbd := (hxh'.out k2 hc2).1 hbig
                      have hsl2 := slot_big (D := D) (x := x) (j := k2) hbig
                      rw [hU] at hsl2
                      rw [← hJ] at a0 a1 a2 a3 a4 hbd hsl2
                      have hR2' : Hid (fillL D ((eachR x).drop (k2 + 1)) (setS G2 (slotOf D (stepP x k2)) (leafOf (stepP x k2))) = fillL D (eachR x) G) := by
                        show _ = _; rw [← hR.out, each_at hc2]; rfl
                      rw [hsl2, a4] at hR2'
                      simp only [↓reduceIte, Bool.false_eq_true, if_false, if_true, Int.add_zero] at hR2'
                      obtain ⟨hfl1, hfl2⟩ := hflc.out
                      have hJ' := Lib.hid hJ
                      clear hJ
                      have ha1' : x.virt + J < 549755813888 := a1
                      have ha2' : x.phys + J < 4294967296 := a2
                      go_upto_region 31 with (fail)
                      have hv0 : 0 ≤ x.virt + J := by omega
                      obtain ⟨V, hV⟩ : ∃ V, x.virt + J = V := ⟨_, rfl⟩
                      rw [hV] at a1 hbd hsl2 hR2' hv0 ⊢
                      clear hV
                      obtain ⟨K, hK⟩ : ∃ K, (V / 2097152 % 512).toNat = K := ⟨_, rfl⟩
                      rw [hK] at hsl2 hR2'
                      have hKI : V / 2097152 % 512 = (K : Int) := by omega
                      have hK512 : K < 512 := by omega
                      have hKI2 : (K : Int) < 512 := by omega
                      have hKw : IntKind.u64.wrap (K : Int) = K := by simp [IntKind.wrap, IntKind.signed, IntKind.bits]; omega
                      have hKnn : (0 : Int) ≤ (K : Int) := by omega
                      have hd0 : V.tdiv 2097152 = V / 2097152 := Int.tdiv_eq_ediv_of_nonneg hv0
                      have hkw1 : IntKind.u64.wrap (V.tdiv 2097152) = V.tdiv 2097152 := by rw [hd0]; simp [IntKind.wrap, IntKind.signed, IntKind.bits]; omega
                      have hKt : (V.tdiv 2097152).tmod 512 = (K : Int) := by rw [hd0, Int.tmod_eq_emod_of_nonneg (by omega)]; exact hKI
                      have hand := andNot_30 (v := V) hv0 (by omega)
                      have hmm : ((1 : Int), V / 1073741824 * 1073741824) = m30 V := rfl
                      have hPw : IntKind.u64.wrap (x.phys + J) = x.phys + J := by simp [IntKind.wrap, IntKind.signed, IntKind.bits]; omega
                      have hor1 : bits .or .u64 (x.phys + J) Fl = x.phys + J + Fl := or_low' (by omega) (by omega) (by omega) (by omega) (by omega)
                      have hor2 : bits .or .u64 (x.phys + J + Fl) 8 = x.phys + J + Fl + 8 := or_eight (by omega) (by omega) (by omega) (by omega) (by omega)
                      have hfind : Hid (∀ W : World, W.ownsRow w.heap.size 109 514 (.slice (some ⟨g, 0, none⟩) D.length cap) D.length (tbV D G2) → Calls Try.prog 57 #[.slice (some ⟨g, 0, none⟩) D.length cap, .int .i64 1, .int .u64 (bits .andNot .u64 V (IntKind.u64.wrap 1073741823))] W (fun e w' => e = .returned (.int .i64 (idxN D (m30 V))) ∧ w' = W)) := by
                        intro W hW
                        rw [show IntKind.u64.wrap 1073741823 = 1073741823 from by decide, hand]
                        exact find_any _ D _ w.heap.size 1 (V / 1073741824 * 1073741824) W (by omega) hW hbd
                      have hUD : idxN D (m30 V) < D.length := idx_lt hbd
                      clear hmm hbd hK hsl2 a4 hand
                      generalize idxN D (m30 V) = U at *
                      obtain ⟨Q, hQ⟩ : ∃ Q : Int, V / 2097152 = Q := ⟨_, rfl⟩
                      rw [hQ] at hKI hd0
                      rw [hd0] at hkw1 hKt
                      clear hQ
                      have hUI : (U : Int) < (D.length : Int) := by omega
                      have hUnn : (0 : Int) ≤ (U : Int) := by omega
                      obtain ⟨ct, ft⟩ := ent_cell hown.out (t := U) (k := K) hUD hK512
                      have hgq : g < wq.heap.size := Nat.lt_of_lt_of_le hgg.out hbelr.out
                      have hxq9 : xb < wq.heap.size := Nat.lt_of_lt_of_le hxb.out hszq.out
                      go_region_held3 (fun w' => w'.cell? ⟨xb, 1, none⟩ = some (.int .u64 x.phys))
                        (first
                          | exact e1
                          | exact f0
                          | exact f1 _)
                        (first
                          | (go_at_call 56; refine (hrA.out _).mono ?_; rintro en w3 ⟨rfl, hb3'⟩
                             have hb3 : Below wq.heap.size wq w3 := (Below.drew (Below.refl wq.heap.size wq)).trans hb3'
                             have f0 : w3.cell? ⟨xb, 1, none⟩ = some (.int .u64 x.phys) := (hb3.cell (p := ⟨xb, 1, none⟩) hxq9).trans e1
                             have f1 : ∀ v, (w3.setCell ⟨g, U * 514 + 2 + K, none⟩ v).cell? ⟨xb, 1, none⟩ = some (.int .u64 x.phys) := fun v => (World.cell?_setCell_other w3 _ _ _ (fun e => by have h9 : g = xb := congrArg Addr.block e; omega)).trans f0
                             have f2 : w3.cell? ⟨g, U * 514 + 2 + K, none⟩ = some (.int .u64 (tbl G2 U K)) := (hb3.cell (p := ⟨g, U * 514 + 2 + K, none⟩) hgq).trans ct
                             have f3 : w3.frozen? ⟨g, U * 514 + 2 + K, none⟩ = false := (hb3.frozen (p := ⟨g, U * 514 + 2 + K, none⟩) hgq).trans ft)
                          | (go_at_call 57; refine (hfind.out _ (own_below hown.out hb3)).mono ?_; rintro en w3b ⟨rfl, hw3b⟩; subst w3b))
                      all_goals
                        try simp only [hPw, hor1, hor2]
                        have hown5 : Hid ((w3.setCell ⟨g, U * 514 + 2 + K, none⟩ (.int .u64 (x.phys + J + Fl + 8))).ownsRow w.heap.size 109 514 (.slice (some ⟨g, 0, none⟩) D.length cap) D.length (tbV D (setS G2 (U, K) (x.phys + J + Fl + 8)))) := ent_set (own_below hown.out hb3) hGl.out hUD hK512 _
                        have hbel5 : Hid (Below w.heap.size w (w3.setCell ⟨g, U * 514 + 2 + K, none⟩ (.int .u64 (x.phys + J + Fl + 8)))) := (hbel.out.trans (hb3.mono hbel.out.size)).setCell hBg' _
                        have hsz5 : Hid (wq.heap.size ≤ (w3.setCell ⟨g, U * 514 + 2 + K, none⟩ (.int .u64 (x.phys + J + Fl + 8))).heap.size) := by rw [World.size_setCell]; exact hb3.size
                        have hx5 : Hid (∀ o, (w3.setCell ⟨g, U * 514 + 2 + K, none⟩ (.int .u64 (x.phys + J + Fl + 8))).cell? ⟨xb, o, none⟩ = w4.cell? ⟨xb, o, none⟩) := fun o => (World.cell?_setCell_other w3 _ _ _ (fun e => by have h9 : g = xb := congrArg Addr.block e; omega)).trans ((hb3.cell (p := ⟨xb, o, none⟩) hxq9).trans (hxq.out o))
                        have hG5 : Hid ((setS G2 (U, K) (x.phys + J + Fl + 8)).length = D.length * 512) := by show _ = _; rw [setS_length]; exact hGl.out
                        generalize w3.setCell ⟨g, U * 514 + 2 + K, none⟩ (.int .u64 (x.phys + J + Fl + 8)) = w5 at *
                        clear f0 f1 f2 f3 hb3 hb3' hown hbel ct ft e0 e1 e2 e3 e4 e5 hfind hKI hKI2 hKw hKnn hd0 hkw1 hKt hor1 hor2
                        have e0 := (hx5.out 0).trans d0
                        have e1 := (hx5.out 1).trans d1
                        have e2 := (hx5.out 2).trans d2
                        have e3 := (hx5.out 3).trans d3
                        have e4 := (hx5.out 4).trans d4
                        have e5 := (hx5.out 5).trans d5
                        go_wp2_with (go_at_call 44; refine (hunit.out _).mono ?_; rintro en w6 ⟨rfl, hb6'⟩
                                     have hown6 := Lib.hid (own_below hown5.out hb6')
                                     have hbel6 : Hid (Below w.heap.size w w6) := hbel5.out.trans (hb6'.mono hbel5.out.size)
                                     have hsz6 : Hid (w5.heap.size ≤ w6.heap.size) := hb6'.size
                                     have hx6 : Hid (∀ o, w6.cell? ⟨xb, o, none⟩ = w4.cell? ⟨xb, o, none⟩) := fun o => (hb6'.cell (p := ⟨xb, o, none⟩) (Nat.lt_of_lt_of_le hxq9 hsz5.out)).trans (hx5.out o)
                                     clear hb6')
                        go_roundg (cntP x - k2)
                        case rel => exact ⟨k2 + 1, J + 2097152, _, by omega, by omega, rfl, by have := hJ'.out; omega, hG5, hown6, hbel6, Nat.le_trans hbelr.out (Nat.le_trans hsz5.out hsz6.out), Nat.le_trans hszq.out (Nat.le_trans hsz5.out hsz6.out), hx6, hR2'⟩
                        case measure => omega
                    · obtain rfl : k2 = cntP x := by omega
                      have hge : ¬ J < x.pages * 4096 := by rw [← hcu, hJ]; omega
                      clear hJ
                      have hR9 : Hid (fillL D ((l.drop (k + 1)).flatMap eachR) G2 = s.F) := hR2.out G2 (by rw [← hR.out, each_all]; rfl)
                      go_wp2
                      go_roundg (n - k)
                      case rel => exact ⟨k + 1, G2, by omega, by omega, by simp, hGl, hown, hbel, hbelr, hR9⟩
                      case measure => omega
                | false =>
                  have hU : unitP x = 4096 := by unfold unitP; rw [hbig]; rfl
                  rw [hU] at hcu hfx hxh'
                  have hunit : Hid (∀ W, Calls Try.prog 44 #[.agg #[.int .u64 x.virt, .int .u64 x.phys, .int .i64 x.pages, .bool false, .bool x.write, .bool x.exec]] W (fun e w' => e = .returned (.int .u64 4096) ∧ Below W.heap.size W w')) := by
                    intro W
                    have h := runit_any x W
                    unfold Lf.val at h
                    rw [hbig, hU] at h
                    exact h
                  rw [hbig] at d3 hfx
                  have hrA : Hid (∀ W, Calls Try.prog 56 #[.int .i64 2] W (fun e w' => e = .returned (.int .u64 2097152) ∧ Below W.heap.size W w')) := fun W => reach_any 2 (.inr (.inr rfl)) W
                  go_wp2_with fail
                  go_loopg [15] (cntP x + 1) (fun g2 v15 wq => ∃ (k2 : Nat) (J : Int) (G2 : List Int), k2 + g2 = cntP x + 1 ∧ k2 ≤ cntP x ∧ v15 = .int .u64 J ∧ J = k2 * 4096 ∧ Hid (G2.length = D.length * 512) ∧ Hid (wq.ownsRow w.heap.size 109 514 (.slice (some ⟨g, 0, none⟩) D.length cap) D.length (tbV D G2)) ∧ Hid (Below w.heap.size w wq) ∧ Hid (wr.heap.size ≤ wq.heap.size) ∧ Hid (w4.heap.size ≤ wq.heap.size) ∧ Hid (∀ o, wq.cell? ⟨xb, o, none⟩ = w4.cell? ⟨xb, o, none⟩) ∧ Hid (fillL D ((eachR x).drop k2) G2 = fillL D (eachR x) G))
                  case atStart => exact ⟨0, 0, G, by omega, by omega, rfl, by simp, hGl, hown4, hbel4, hbelr4, Nat.le_refl _, fun _ => rfl, rfl⟩
                  case round =>
                    clear hown4 hbel4 hbelr4 hGl
                    rename World => wq
                    obtain ⟨k2, J, G2, hk2, hk2c, rfl, hJ, hGl, hown, hbel, hbelr, hszq, hxq, hR⟩ := hrel
                    have e0 := (hxq.out 0).trans d0
                    have e1 := (hxq.out 1).trans d1
                    have e2 := (hxq.out 2).trans d2
                    have e3 := (hxq.out 3).trans d3
                    have e4 := (hxq.out 4).trans d4
                    have e5 := (hxq.out 5).trans d5
                    by_cases hc2 : k2 < cntP x
                    · obtain ⟨a0, a1, a2, a3, a4⟩ := hfx.out k2 hc2
                      have hlt2 : J < x.pages * 4096 := by rw [← hcu, hJ]; omega
                      have hbd := (hxh'.out k2 hc2).2 hbig
                      have hsl2 := slot_small (D := D) (x := x) (j := k2) hbig
                      rw [hU] at hsl2
                      rw [← hJ] at a0 a1 a2 a3 a4 hbd hsl2
                      have hR2' : Hid (fillL D ((eachR x).drop (k2 + 1)) (setS G2 (slotOf D (stepP x k2)) (leafOf (stepP x k2))) = fillL D (eachR x) G) := by
                        show _ = _; rw [← hR.out, each_at hc2]; rfl
                      rw [hsl2, a4] at hR2'
                      simp only [↓reduceIte, Bool.false_eq_true, if_false, if_true, Int.add_zero] at hR2'
                      obtain ⟨hfl1, hfl2⟩ := hflc.out
                      have hJ' := Lib.hid hJ
                      clear hJ
                      have ha1' : x.virt + J < 549755813888 := a1
                      have ha2' : x.phys + J < 4294967296 := a2
                      go_upto_region 32 with (fail)
                      have hv0 : 0 ≤ x.virt + J := by omega
                      obtain ⟨V, hV⟩ : ∃ V, x.virt + J = V := ⟨_, rfl⟩
                      rw [hV] at a1 hbd hsl2 hR2' hv0 ⊢
                      clear hV
                      obtain ⟨K, hK⟩ : ∃ K, (V / 4096 % 512).toNat = K := ⟨_, rfl⟩
                      rw [hK] at hsl2 hR2'
                      have hKI : V / 4096 % 512 = (K : Int) := by omega
                      have hK512 : K < 512 := by omega
                      have hKI2 : (K : Int) < 512 := by omega
                      have hKw : IntKind.u64.wrap (K : Int) = K := by simp [IntKind.wrap, IntKind.signed, IntKind.bits]; omega
                      have hKnn : (0 : Int) ≤ (K : Int) := by omega
                      have hd0 : V.tdiv 4096 = V / 4096 := Int.tdiv_eq_ediv_of_nonneg hv0
                      have hkw1 : IntKind.u64.wrap (V.tdiv 4096) = V.tdiv 4096 := by rw [hd0]; simp [IntKind.wrap, IntKind.signed, IntKind.bits]; omega
                      have hKt : (V.tdiv 4096).tmod 512 = (K : Int) := by rw [hd0, Int.tmod_eq_emod_of_nonneg (by omega)]; exact hKI
                      have hand := andNot_21 (v := V) hv0 (by omega)
                      have hmm : ((2 : Int), V / 2097152 * 2097152) = m21 V := rfl
                      have hPw : IntKind.u64.wrap (x.phys + J) = x.phys + J := by simp [IntKind.wrap, IntKind.signed, IntKind.bits]; omega
                      have hor1 : bits .or .u64 (x.phys + J) Fl = x.phys + J + Fl := or_low' (by omega) (by omega) (by omega) (by omega) (by omega)
                      have hor2 : bits .or .u64 (x.phys + J + Fl) 8 = x.phys + J + Fl + 8 := or_eight (by omega) (by omega) (by omega) (by omega) (by omega)
                      have hfind : Hid (∀ W : World, W.ownsRow w.heap.size 109 514 (.slice (some ⟨g, 0, none⟩) D.length cap) D.length (tbV D G2) → Calls Try.prog 57 #[.slice (some ⟨g, 0, none⟩) D.length cap, .int .i64 2, .int .u64 (bits .andNot .u64 V (IntKind.u64.wrap 2097151))] W (fun e w' => e = .returned (.int .i64 (idxN D (m21 V))) ∧ w' = W)) := by
                        intro W hW
                        rw [show IntKind.u64.wrap 2097151 = 2097151 from by decide, hand]
                        exact find_any _ D _ w.heap.size 2 (V / 2097152 * 2097152) W (by omega) hW hbd
                      have hUD : idxN D (m21 V) < D.length := idx_lt hbd
                      clear hmm hbd hK hsl2 a4 hand
                      generalize idxN D (m21 V) = U at *
                      obtain ⟨Q, hQ⟩ : ∃ Q : Int, V / 4096 = Q := ⟨_, rfl⟩
                      rw [hQ] at hKI hd0
                      rw [hd0] at hkw1 hKt
                      clear hQ
                      have hUI : (U : Int) < (D.length : Int) := by omega
                      have hUnn : (0 : Int) ≤ (U : Int) := by omega
                      obtain ⟨ct, ft⟩ := ent_cell hown.out (t := U) (k := K) hUD hK512
                      have hgq : g < wq.heap.size := Nat.lt_of_lt_of_le hgg.out hbelr.out
                      have hxq9 : xb < wq.heap.size := Nat.lt_of_lt_of_le hxb.out hszq.out
                      go_region_held3 (fun w' => w'.cell? ⟨xb, 1, none⟩ = some (.int .u64 x.phys))
                        (first
                          | exact e1
                          | exact f0
                          | exact f1 _)
                        (first
                          | (go_at_call 56; refine (hrA.out _).mono ?_; rintro en w3 ⟨rfl, hb3'⟩
                             have hb3 : Below wq.heap.size wq w3 := (Below.drew (Below.refl wq.heap.size wq)).trans hb3'
                             have f0 : w3.cell? ⟨xb, 1, none⟩ = some (.int .u64 x.phys) := (hb3.cell (p := ⟨xb, 1, none⟩) hxq9).trans e1
                             have f1 : ∀ v, (w3.setCell ⟨g, U * 514 + 2 + K, none⟩ v).cell? ⟨xb, 1, none⟩ = some (.int .u64 x.phys) := fun v => (World.cell?_setCell_other w3 _ _ _ (fun e => by have h9 : g = xb := congrArg Addr.block e; omega)).trans f0
                             have f2 : w3.cell? ⟨g, U * 514 + 2 + K, none⟩ = some (.int .u64 (tbl G2 U K)) := (hb3.cell (p := ⟨g, U * 514 + 2 + K, none⟩) hgq).trans ct
                             have f3 : w3.frozen? ⟨g, U * 514 + 2 + K, none⟩ = false := (hb3.frozen (p := ⟨g, U * 514 + 2 + K, none⟩) hgq).trans ft)
                          | (go_at_call 57; refine (hfind.out _ (own_below hown.out hb3)).mono ?_; rintro en w3b ⟨rfl, hw3b⟩; subst w3b))
                      all_goals
                        try simp only [hPw, hor1]
                        have hown5 : Hid ((w3.setCell ⟨g, U * 514 + 2 + K, none⟩ (.int .u64 (x.phys + J + Fl))).ownsRow w.heap.size 109 514 (.slice (some ⟨g, 0, none⟩) D.length cap) D.length (tbV D (setS G2 (U, K) (x.phys + J + Fl)))) := ent_set (own_below hown.out hb3) hGl.out hUD hK512 _
                        have hbel5 : Hid (Below w.heap.size w (w3.setCell ⟨g, U * 514 + 2 + K, none⟩ (.int .u64 (x.phys + J + Fl)))) := (hbel.out.trans (hb3.mono hbel.out.size)).setCell hBg' _
                        have hsz5 : Hid (wq.heap.size ≤ (w3.setCell ⟨g, U * 514 + 2 + K, none⟩ (.int .u64 (x.phys + J + Fl))).heap.size) := by rw [World.size_setCell]; exact hb3.size
                        have hx5 : Hid (∀ o, (w3.setCell ⟨g, U * 514 + 2 + K, none⟩ (.int .u64 (x.phys + J + Fl))).cell? ⟨xb, o, none⟩ = w4.cell? ⟨xb, o, none⟩) := fun o => (World.cell?_setCell_other w3 _ _ _ (fun e => by have h9 : g = xb := congrArg Addr.block e; omega)).trans ((hb3.cell (p := ⟨xb, o, none⟩) hxq9).trans (hxq.out o))
                        have hG5 : Hid ((setS G2 (U, K) (x.phys + J + Fl)).length = D.length * 512) := by show _ = _; rw [setS_length]; exact hGl.out
                        generalize w3.setCell ⟨g, U * 514 + 2 + K, none⟩ (.int .u64 (x.phys + J + Fl)) = w5 at *
                        clear f0 f1 f2 f3 hb3 hb3' hown hbel ct ft e0 e1 e2 e3 e4 e5 hfind hKI hKI2 hKw hKnn hd0 hkw1 hKt hor1 hor2
                        have e0 := (hx5.out 0).trans d0
                        have e1 := (hx5.out 1).trans d1
                        have e2 := (hx5.out 2).trans d2
                        have e3 := (hx5.out 3).trans d3
                        have e4 := (hx5.out 4).trans d4
                        have e5 := (hx5.out 5).trans d5
                        go_wp2_with (go_at_call 44; refine (hunit.out _).mono ?_; rintro en w6 ⟨rfl, hb6'⟩
                                     have hown6 := Lib.hid (own_below hown5.out hb6')
                                     have hbel6 : Hid (Below w.heap.size w w6) := hbel5.out.trans (hb6'.mono hbel5.out.size)
                                     have hsz6 : Hid (w5.heap.size ≤ w6.heap.size) := hb6'.size
                                     have hx6 : Hid (∀ o, w6.cell? ⟨xb, o, none⟩ = w4.cell? ⟨xb, o, none⟩) := fun o => (hb6'.cell (p := ⟨xb, o, none⟩) (Nat.lt_of_lt_of_le hxq9 hsz5.out)).trans (hx5.out o)
                                     clear hb6')
                        go_roundg (cntP x - k2)
                        case rel => exact ⟨k2 + 1, J + 4096, _, by omega, by omega, rfl, by have := hJ'.out; omega, hG5, hown6, hbel6, Nat.le_trans hbelr.out (Nat.le_trans hsz5.out hsz6.out), Nat.le_trans hszq.out (Nat.le_trans hsz5.out hsz6.out), hx6, hR2'⟩
                        case measure => omega
                    · obtain rfl : k2 = cntP x := by omega
                      have hge : ¬ J < x.pages * 4096 := by rw [← hcu, hJ]; omega
                      clear hJ
                      have hR9 : Hid (fillL D ((l.drop (k + 1)).flatMap eachR) G2 = s.F) := hR2.out G2 (by rw [← hR.out, each_all]; rfl)
                      go_wp2
                      go_roundg (n - k)
                      case rel => exact ⟨k + 1, G2, by omega, by omega, by simp, hGl, hown, hbel, hbelr, hR9⟩
                      case measure => omega
              · obtain rfl : k = n := by omega
                have hGs : G = s.F := by
                  have := hR.out
                  rwa [List.drop_of_length_le (by omega)] at this
                subst hGs
                obtain ⟨Z, hZ, hinf⟩ := infoTab
                obtain ⟨iT, hiT, hzT, hsT, hbT⟩ := info_parts hinf
                have hZs : Hid (Z.size = 512) := by show _ = _; rw [hZ, Array.size_replicate]
                have hrange : Hid (∀ i : Nat, i < D.length → ∀ W, Below wr2.heap.size wr2 W → W.rangeAt g (i * 514 + 2) ((chunk s.F i).map (Value.int .u64))) := fun i hi W hb => chunk_range (own_below hown.out hb) hsl.out hi
                have hcl : Hid (∀ i : Nat, i < D.length → ((chunk s.F i).map (Value.int .u64)).length = 512) := fun i hi => by rw [List.length_map]; exact chunk_len hsl.out hi
                have hi512 : Hid (∀ cs : List Value, cs.length = 512 → (Try.prog.info? 23).map (·.size) = some cs.length) := fun cs h => by rw [h]; kernel_rfl
                clear hown hGl hR hZ hinf hgood' hhome
                go_wp2_with fail
                go_loopg [17, 18] (D.length + 1) (fun g3 v17 v18 wq => ∃ i : Nat, i + g3 = D.length + 1 ∧ i ≤ D.length ∧ v18 = .int .i64 i ∧ Hid (wq.ownsRow wr2.heap.size 24 512 v17 i (u64V (s.F.take (i * 512)))) ∧ Hid (Below wr2.heap.size wr2 wq))
                case atStart => exact ⟨0, by omega, by omega, rfl, by have h := World.ownsRow_nil (w := wr2) wr2.heap.size 24 512; exact h, Below.refl _ _⟩
                case round =>
                  rename World => wq
                  obtain ⟨i, hi, hiD, rfl, hown, hbq⟩ := hrel
                  obtain ⟨A3, q3, hve3⟩ := own_sl hown.out
                  subst hve3
                  by_cases hlt3 : i < D.length
                  · have hiI : (i : Int) < (D.length : Int) := by omega
                    have hrg := hrange.out i hlt3 wq hbq.out
                    have hlen := hcl.out i hlt3
                    have hgrow5 := Lib.hid (chunk_grow s.F i)
                    have hone : ∀ u ∈ (chunk s.F i).map (Value.int .u64), u.oneCell' = true := u64_one
                    generalize (chunk s.F i).map (Value.int .u64) = cs at *
                    have hi512' := Lib.hid (hi512.out cs hlen)
                    have hrg' := Lib.hid hrg
                    have hlen' := Lib.hid hlen
                    clear hrg hlen
                    go_wp2_with (first
                      | (refine wpList_load_mid rfl 23 (.tmp 180) rfl g (i * 514 + 2) rfl cs _ hrg'.out Try.underlying23 rfl hi512'.out ?_)
                      | (refine wpList_buildSlice rfl 42 24 1 _ rfl cs.toArray iT (.agg Z) Try.underlying42 hiT hzT (by rw [hsT]; decide) (by rw [hsT]; decide) (by rw [parts_1, hsT]; exact fill_512 hlen'.out _) ?_)
                      | (at_builtin; refine wpList_append_lies _ rfl (.tmp 176) (.tmp 182) 42 rfl wr2.heap.size 24 iT (.agg Z) 512 4096 Try.underlying42 hiT hzT hsT hbT hZs.out (by decide) (.slice A3 i q3) i (u64V (s.F.take (i * 512))) rfl (own_below hown.out ((Below.refl _ _).alloc (Nat.le_refl _) _)) ⟨wq.heap.size, 0, none⟩ 1 1 cs rfl hlen'.out (cells_lie wq cs 24) hone (by decide) (by unfold maxLen; omega) (by omega) (by have := hbq.out.size; simp; omega) (wq.heap.size + 1) (by simp) ?_
                         intro g1 cap1 w6 hown' hgrow' hat' hltg1
                         have hown6 : Hid (w6.ownsRow wr2.heap.size 24 512 (.slice (some ⟨g1, 0, none⟩) (i + 1) cap1) (i + 1) (u64V (s.F.take ((i + 1) * 512)))) := by
                           rw [← hgrow5.out]; exact hown'
                         have hbq6 : Hid (Below wr2.heap.size wr2 w6) := (hbq.out.alloc hbq.out.size _).grown hgrow' (by have := hbq.out.size; simp; omega) (fun k e => (hown.out.lt k e).1)
                         clear hown' hgrow' hat' hltg1))
                    go_roundg (D.length - i)
                    case rel => exact ⟨i + 1, by omega, by omega, by simp, hown6, hbq6⟩
                    case measure => omega
                  · obtain rfl : i = D.length := by omega
                    have hfin : Hid (wq.ownsRow w.heap.size 24 512 (.slice A3 D.length q3) s.m (u64V s.F)) := by
                      show World.ownsRow _ _ _ _ _ _ _
                      rw [hs2'.out]
                      have h := own_weak hown.out hbel.out.size
                      rwa [chunk_all hsl.out] at h
                    have hbfin : Hid (Below w.heap.size w wq) := hbel.out.trans (hbq.out.mono hbel.out.size)
                    clear hown hbq hbel
                    go_wp2
                    go_returns
                    rw [hs1'.out]
                    exact ⟨⟨_, rfl, hfin.out⟩, hbfin.out⟩
      · have hT := Lib.hid (hT4 hbm hf)
        clear hT3 hT4 hT5 hbm
        by_cases hb2 : base < 4294967296
        · have hq : (4294967296 - base) / 4096 < (D.length : Int) := by
            have : ¬ (D.length : Int) ≤ (4294967296 - base) / 4096 := fun h => hf ⟨hb2, h⟩
            omega
          clear hf
          go_enter Try.func39, Try.ntmps39
          go_wp2_with fail
          refine h1.out.mono ?_
          rintro en w1 ⟨rfl, hb1'⟩
          have hbel1 := Lib.hid hb1'
          clear hb1' h1
          go_wp2
          go_returns
          rw [hT.out]
          exact ⟨rfl, hbel1.out⟩
        · have hge : 4294967296 ≤ base := by omega
          clear hf
          go_enter Try.func39, Try.ntmps39
          go_wp2_with fail
          refine h1.out.mono ?_
          rintro en w1 ⟨rfl, hb1'⟩
          have hbel1 := Lib.hid hb1'
          clear hb1' h1
          go_wp2
          go_returns
          rw [hT.out]
          exact ⟨rfl, hbel1.out⟩
    · have hbmI : (0 : Int) < base % 4096 := by omega
      have hT := Lib.hid (hT3 hbm)
      clear hT3 hT4 hT5 hbm
      go_enter Try.func39, Try.ntmps39
      go_wp2_with fail
      refine h1.out.mono ?_
      rintro en w1 ⟨rfl, hb1'⟩
      have hbel1 := Lib.hid hb1'
      clear hb1' h1
      go_wp2
      go_returns
      rw [hT.out]
      exact ⟨rfl, hbel1.out⟩
  · have hT := Lib.hid (hT1 hc)
    have hne : ((countR l).2 != 0) = true := by simpa using hc
    clear hT1 hT2 hc hv
    generalize countR l = C at *
    go_enter Try.func39, Try.ntmps39
    go_wp2_with fail
    refine h1.out.mono ?_
    rintro en w1 ⟨rfl, hb1'⟩
    have hbel1 := Lib.hid hb1'
    clear hb1' h1
    go_wp2
    go_returns
    rw [hT.out]
    exact ⟨rfl, hbel1.out⟩
end Go.Proofs.Ytaogndianciogaa.Mm
