/- pages.right. -/
import Derived.Test.YtaogndianciogaaLeafs
namespace Go.Proofs.Ytaogndianciogaa.Mm
open Go.RowKit
set_option linter.unusedVariables false
set_option linter.unusedSimpArgs false
def lfV (l : List Lf) : List Value := l.flatMap Lf.cells
def sizeP (x : Lf) : Prop := ¬ x.pages < 1 ∧ x.pages * 4096 % 18446744073709551616 % unitP x = 0
instance (x : Lf) : Decidable (sizeP x) := by unfold sizeP; infer_instance
def alignP (x : Lf) : Prop := x.virt % unitP x = 0 ∧ x.phys % unitP x = 0
instance (x : Lf) : Decidable (alignP x) := by unfold alignP; infer_instance
/-- why rows are not right; 0: they are -/
def rightP : Int → List Lf → Int
  | _, [] => 0
  | b, x :: r =>
    if ¬ sizeP x then 32 else if ¬ alignP x then 33 else if ¬ fitsP x.virt x.pages 549755813888 then 40
    else if ¬ fitsP x.phys x.pages 4294967296 then 34 else if x.virt < b then 120 else rightP (x.virt + x.pages * 4096) r
theorem unitP_pos (x : Lf) : 4096 ≤ unitP x ∧ unitP x ≤ 2097152 := by unfold unitP; split <;> omega
theorem lfV_get {l : List Lf} : ∀ {i : Nat} {x : Lf}, l[i]? = some x → ∀ j, j < 6 → (lfV l)[i * 6 + j]? = x.cells[j]? := by
  induction l with
  | nil => intro i x h; simp at h
  | cons y r ih =>
    intro i x h j hj
    have e : lfV (y :: r) = y.cells ++ lfV r := by simp [lfV]
    have hl : y.cells.length = 6 := rfl
    rw [e]
    cases i with
    | zero =>
      have : y = x := by simpa using h
      subst this
      rw [List.getElem?_append_left (by omega), Nat.zero_mul, Nat.zero_add]
    | succ i =>
      rw [List.getElem?_append_right (by omega), hl, show (i + 1) * 6 + j - 6 = i * 6 + j from by omega]
      exact ih (by simpa using h) j hj
/-- the six cells of a leaf in memory -/
structure LeafAt (w : World) (g off : Nat) (x : Lf) : Prop where
  c0 : w.cell? ⟨g, off, none⟩ = some (.int .u64 x.virt)
  c1 : w.cell? ⟨g, off + 1, none⟩ = some (.int .u64 x.phys)
  c2 : w.cell? ⟨g, off + 2, none⟩ = some (.int .i64 x.pages)
  c3 : w.cell? ⟨g, off + 3, none⟩ = some (.bool x.big)
  c4 : w.cell? ⟨g, off + 4, none⟩ = some (.bool x.write)
  c5 : w.cell? ⟨g, off + 5, none⟩ = some (.bool x.exec)
theorem RdX.leaf {w : World} {v : Value} {n : Nat} {l : List Lf} (h : RdX w 6 v n (lfV l)) {i : Nat} {x : Lf} (hi : l[i]? = some x) (hn : i < n) : ∃ g off c, v = .slice (some ⟨g, off, none⟩) n c ∧ n ≤ c ∧ c ≤ maxLen ∧ g < w.heap.size ∧ LeafAt w g (off + i * 6) x := by
  obtain ⟨hl, A, c, rfl, hc, hm, hr⟩ := h
  obtain ⟨g, off, rfl, hlt, hx⟩ := hr (by omega)
  refine ⟨g, off, c, rfl, hc, hm, hlt, ?_, ?_, ?_, ?_, ?_, ?_⟩
  · exact hx _ _ (lfV_get hi 0 (by omega))
  · exact hx _ _ (lfV_get hi 1 (by omega))
  · exact hx _ _ (lfV_get hi 2 (by omega))
  · exact hx _ _ (lfV_get hi 3 (by omega))
  · exact hx _ _ (lfV_get hi 4 (by omega))
  · exact hx _ _ (lfV_get hi 5 (by omega))
theorem lfV_length (l : List Lf) : (lfV l).length = l.length * 6 := by
  induction l with
  | nil => rfl
  | cons x r ih =>
    have e : lfV (x :: r) = x.cells ++ lfV r := by simp [lfV]
    rw [e, List.length_append, ih, List.length_cons]
    show 6 + _ = _
    omega
set_option maxHeartbeats 8000000 in
set_option maxRecDepth 100000 in
theorem right_any (v : Value) (n : Nat) (l : List Lf) (hok : ∀ x ∈ l, x.ok) (w : World) (hv : RdX w 6 v n (lfV l)) :
    Calls Try.prog 48 #[v] w (fun e w' => e = .returned (.int .i64 (rightP 0 l)) ∧ Below w.heap.size w w') := by
  have hln : l.length = n := by have := hv.1; rw [lfV_length] at this; omega
  obtain ⟨A, c, rfl, hcm⟩ : ∃ A c, v = .slice A n c ∧ c ≤ 9223372036854775807 := by
    obtain ⟨_, A, c, e, h1, hm, _⟩ := hv
    exact ⟨A, c, e, by unfold maxLen at hm; omega⟩
  have hnm : n ≤ 9223372036854775807 := by
    obtain ⟨_, A, c, e, h1, hm, _⟩ := hv
    unfold maxLen at hm; omega
  have hv' := Lib.hid hv
  have hok' := Lib.hid hok
  clear hv hok
  go_enter Try.func48, Try.ntmps48
  go_wp2
  go_loopg [3, 13] (n + 1) (fun g1 v3 v13 wr => ∃ (k : Nat) (b : Int), k + g1 = n + 1 ∧ k ≤ n ∧ v13 = .int .i64 k ∧ v3 = .int .u64 b ∧ 0 ≤ b ∧ b ≤ 549755813888 ∧ Hid (Below w.heap.size w wr) ∧ Hid (rightP b (l.drop k) = rightP 0 l))
  case atStart => exact ⟨0, 0, by omega, by omega, rfl, rfl, by omega, by omega, Below.refl _ _, by show _ = _; simp⟩
  case round =>
    obtain ⟨k, b, hk, hkn, rfl, rfl, hb0, hb1, hbel, hR⟩ := hrel
    by_cases hlt : k < n
    · have hx : l[k]? = some (l[k]'(by omega)) := List.getElem?_eq_getElem _
      have hd : l.drop k = l[k]'(by omega) :: l.drop (k + 1) := List.drop_eq_getElem_cons _
      have hxo := hok'.out _ (List.getElem_mem (show k < l.length by omega))
      generalize l[k]'(by omega) = x at hx hd hxo
      rw [hd] at hR
      obtain ⟨g, off, c', hve, _, _, hgl, hL⟩ := RdX.leaf (hv'.out.below hbel.out) hx hlt
      cases hve
      obtain ⟨c0, c1, c2, c3, c4, c5⟩ := hL
      have hltI : (k : Int) < (n : Int) := by omega
      obtain ⟨o0, o1, o2, o3, o4, o5⟩ := hxo
      obtain ⟨u0, u1⟩ := unitP_pos x
      have hunit := Lib.hid (unit_any x)
      have hsx : sizeP x ↔ ¬ x.pages < 1 ∧ x.pages * 4096 % 18446744073709551616 % unitP x = 0 := Iff.rfl
      have hax : alignP x ↔ x.virt % unitP x = 0 ∧ x.phys % unitP x = 0 := Iff.rfl
      generalize unitP x = u at *
      clear hd hx
      go_wp2_with fail
      refine (hunit.out _).mono ?_
      rintro en w2 ⟨rfl, hb2'⟩
      have hbx : w2.heap[wr.heap.size]? = some (.cells #[.int .u64 x.virt, .int .u64 x.phys, .int .i64 x.pages, .bool x.big, .bool x.write, .bool x.exec] 47 (0, 0)) := (hb2'.block _ (by simp)).trans (heap_alloc_new _ _)
      have hbel2 : Hid (Below w.heap.size w w2) := (hbel.out.alloc hbel.out.size _).trans (hb2'.mono (by have := hbel.out.size; simp; omega))
      have d0 : w2.cell? ⟨wr.heap.size, 0, none⟩ = some (.int .u64 x.virt) := cell_of_row w2 _ 0 _ _ _ hbx
      have d1 : w2.cell? ⟨wr.heap.size, 1, none⟩ = some (.int .u64 x.phys) := cell_of_row w2 _ 1 _ _ _ hbx
      have d2 : w2.cell? ⟨wr.heap.size, 2, none⟩ = some (.int .i64 x.pages) := cell_of_row w2 _ 2 _ _ _ hbx
      have hres : Hid (rightP 0 l = rightP b (x :: l.drop (k + 1))) := hR.out.symm
      clear hbx hb2' hR c0 c1 c2 c3 c4 c5 hbel hunit
      have hwr : (IntKind.u64.wrap (x.pages * 4096)).tmod u = x.pages * 4096 % 18446744073709551616 % u := by
        have e : IntKind.u64.wrap (x.pages * 4096) = x.pages * 4096 % 18446744073709551616 := by simp [IntKind.wrap, IntKind.signed, IntKind.bits]
        rw [e, Int.tmod_eq_emod_of_nonneg (by omega)]
      have hu0 : ¬ u = 0 := by omega
      have hbelF := hbel2
      by_cases hS : sizeP x
      · obtain ⟨hs1, hs2⟩ := hsx.1 hS
        have h1 : ¬ x.pages < 1 := by omega
        have hrem : (IntKind.u64.wrap (x.pages * 4096)).tmod u = 0 := hwr.trans hs2
        have hp0 : 0 ≤ x.pages := by omega
        by_cases hA : alignP x
        · obtain ⟨ha1, ha2⟩ := hax.1 hA
          have hend := Lib.hid (ends_any x.virt x.pages 549755813888 o0 o1 hp0 o5 (by omega) (by omega) w2)
          by_cases hF : fitsP x.virt x.pages 549755813888
          · rw [if_pos hF] at hend
            have hend2 := Lib.hid (ends_any x.phys x.pages 4294967296 o2 o3 hp0 o5 (by omega) (by omega) w2)
            by_cases hG : fitsP x.phys x.pages 4294967296
            · rw [if_pos hG] at hend2
              by_cases hb : x.virt < b
              · have hr0 : Hid (rightP 0 l = 120) := by
                  rw [hres.out, rightP, if_neg (fun h => h hS), if_neg (fun h => h hA), if_neg (fun h => h hF), if_neg (fun h => h hG), if_pos hb]; rfl
                clear hres hsx hax hwr hS hA hF hG hs2 hs1
                go_wp2_with fail
                refine hend.out.mono ?_
                rintro en w3 ⟨rfl, rfl⟩
                go_wp2_with fail
                refine hend2.out.mono ?_
                rintro en w4 ⟨rfl, rfl⟩
                go_wp2
                go_returns
                exact ⟨by rw [hr0.out]; rfl, hbel2.out⟩
              · have hr0 : Hid (rightP (x.virt + x.pages * 4096) (l.drop (k + 1)) = rightP 0 l) := by
                  rw [hres.out, rightP, if_neg (fun h => h hS), if_neg (fun h => h hA), if_neg (fun h => h hF), if_neg (fun h => h hG), if_neg hb]; rfl
                have hq : (549755813888 - x.virt) / 4096 * 4096 ≤ 549755813888 - x.virt := Int.ediv_mul_le _ (by omega)
                have hF2 := hF.2
                have hbb : Hid (0 ≤ x.virt + x.pages * 4096 ∧ x.virt + x.pages * 4096 ≤ 549755813888) := by show _ ∧ _; omega
                clear hres hsx hax hwr hS hA hF hG hs2 hs1 hq hF2
                go_wp2_with fail
                refine hend.out.mono ?_
                rintro en w3 ⟨rfl, rfl⟩
                go_wp2_with fail
                refine hend2.out.mono ?_
                rintro en w4 ⟨rfl, rfl⟩
                go_wp2
                go_roundg (n - k)
                case rel => exact ⟨k + 1, _, by omega, by omega, by simp, rfl, hbb.out.1, hbb.out.2, hbel2, hr0⟩
                case measure => omega
            · rw [if_neg hG] at hend2
              have hr0 : Hid (rightP 0 l = 34) := by
                rw [hres.out, rightP, if_neg (fun h => h hS), if_neg (fun h => h hA), if_neg (fun h => h hF), if_pos hG]; rfl
              clear hres hsx hax hwr hS hA hF hG hs2 hs1
              go_wp2_with fail
              refine hend.out.mono ?_
              rintro en w3 ⟨rfl, rfl⟩
              go_wp2_with fail
              refine hend2.out.mono ?_
              rintro en w4 ⟨rfl, rfl⟩
              go_wp2
              go_returns
              exact ⟨by rw [hr0.out]; rfl, hbel2.out⟩
          · rw [if_neg hF] at hend
            have hr0 : Hid (rightP 0 l = 40) := by
              rw [hres.out, rightP, if_neg (fun h => h hS), if_neg (fun h => h hA), if_pos hF]; rfl
            clear hres hsx hax hwr hS hA hF hs2 hs1
            go_wp2_with fail
            refine hend.out.mono ?_
            rintro en w3 ⟨rfl, rfl⟩
            go_wp2
            go_returns
            exact ⟨by rw [hr0.out]; rfl, hbel2.out⟩
        · have hr0 : Hid (rightP 0 l = 33) := by
            rw [hres.out, rightP, if_neg (fun h => h hS), if_pos hA]; rfl
          have hor : ¬ x.virt % u = 0 ∨ (x.virt % u = 0 ∧ ¬ x.phys % u = 0) := by
            by_cases h : x.virt % u = 0
            · exact .inr ⟨h, fun h2 => hA (hax.2 ⟨h, h2⟩)⟩
            · exact .inl h
          clear hres hsx hax hwr hS hA hs2 hs1
          rcases hor with hv1 | ⟨hv1, hv2⟩
          · go_wp2
            go_returns
            exact ⟨by rw [hr0.out]; rfl, hbel2.out⟩
          · have hv3 : (x.phys % u != 0) = true := by simp [hv2]
            go_wp2
            go_returns
            exact ⟨by rw [hr0.out]; rfl, hbel2.out⟩
      · have hr0 : Hid (rightP 0 l = 32) := by
          rw [hres.out, rightP, if_pos hS]; rfl
        have hor : x.pages < 1 ∨ (¬ x.pages < 1 ∧ ¬ (IntKind.u64.wrap (x.pages * 4096)).tmod u = 0) := by
          by_cases h : x.pages < 1
          · exact .inl h
          · exact .inr ⟨h, fun h2 => hS (hsx.2 ⟨by omega, hwr.symm.trans h2⟩)⟩
        clear hres hsx hax hwr hS
        rcases hor with hv1 | ⟨hv1, hv2⟩
        · go_wp2
          go_returns
          exact ⟨by rw [hr0.out]; rfl, hbel2.out⟩
        · have hv3 : ((IntKind.u64.wrap (x.pages * 4096)).tmod u != 0) = true := by simp [hv2]
          have hp0 : 0 ≤ x.pages := by omega
          go_wp2
          go_returns
          exact ⟨by rw [hr0.out]; rfl, hbel2.out⟩
    · obtain rfl : k = n := by omega
      have hr0 : Hid (rightP 0 l = 0) := by
        rw [← hR.out, List.drop_of_length_le (by omega)]; rfl
      go_wp2
      go_returns
      exact ⟨by rw [hr0.out]; rfl, hbel.out⟩
end Go.Proofs.Ytaogndianciogaa.Mm
