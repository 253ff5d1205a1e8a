/- The statement PagesNames' own function answers true. -/
import Derived.Test.YtaogndianciogaaNamesP
import Derived.Test.YtaogndianciogaaTabEq
namespace Go.Proofs.Ytaogndianciogaa.Mm
open Go.RowKit
set_option linter.unusedVariables false
set_option linter.unusedSimpArgs false
theorem row_cell {w : World} {B g cap n sz : Nat} {T : TypeId} {xs : List Value} (h : w.ownsRow B T sz (.slice (some ⟨g, 0, none⟩) n cap) n xs) {i : Nat} {x : Value} (hi : xs[i]? = some x) : w.cell? ⟨g, i, none⟩ = some x := by
  obtain ⟨h1, h2⟩ := h
  rcases h2 with ⟨e, _⟩ | ⟨g', cap', cur, e, hb, hg, hnc, hcm, hcs, htake⟩
  · cases e
  · cases e
    refine (cell_of_row w g i cur T (0, 0) hg).trans ?_
    rw [← htake, List.getElem?_take] at hi
    split at hi
    · simpa using hi
    · cases hi
theorem u64V_get {l : List Int} {i : Nat} {x : Int} (h : l[i]? = some x) : (u64V l)[i]? = some (.int .u64 x) := by simp [u64V, h]
theorem one_ok : ∀ x ∈ [oneLf], x.ok := by
  intro x hx
  simp at hx; subst hx
  unfold Lf.ok oneLf
  decide
set_option maxHeartbeats 8000000 in
set_option maxRecDepth 100000 in
theorem pagesNames_any (w : World) :
    Calls Try.prog 4 #[] w (fun e w' => e = .returned (.bool true) ∧ Below w.heap.size w w') := by
  have h1 := Lib.hid (Build_any (.slice none 0 0) 0 [] (by simp) 4096 (by omega) (by omega) w ⟨rfl, none, 0, rfl, Nat.le_refl _, Nat.zero_le _, fun h => absurd h (by omega)⟩)
  rw [none_tables] at h1
  obtain ⟨Z, hZ, hzv⟩ : ∃ Z : Array Value, Z = Array.replicate 512 (.int .u64 0) ∧ ∀ w, (zeroValue 24).run Try.prog w = .ok (.agg Z) w := ⟨_, rfl, fun w => by kernel_rfl⟩
  have hZl : Hid (Z = ((List.replicate 512 (0 : Int)).map (Value.int .u64)).toArray) := by rw [hZ]; show _ = _; simp only [List.map_replicate, List.toArray_replicate]
  have hZs : Hid (Z.size = 512) := by rw [hZ]; show _ = _; simp
  clear hZ
  have hequal := fun w => tab_equal (List.replicate 512 0) (List.replicate 512 0) (by simp) (by simp) w
  rw [decide_eq_true rfl, ← hZl.out] at hequal
  have hguard := tab_guard
  have hin : Hid ((Try.prog.info? 24).map (·.size) = some Z.toList.length) := by rw [Array.length_toList, hZs.out]; show (Try.prog.info? 24).map (·.size) = some 512; kernel_rfl
  go_enter Try.func4, Try.ntmps4
  go_wp2_with fail
  refine h1.out.mono ?_
  rintro en w1 ⟨⟨va, rfl, hown'⟩, hbel'⟩
  obtain ⟨g, cap, rfl, hBg, hltg⟩ := hown'.form (by decide)
  have hown : Hid (w1.ownsRow w.heap.size 24 512 (.slice (some ⟨g, 0, none⟩) 1 cap) 1 (u64V (List.replicate 512 0))) := hown'
  have hbel := Lib.hid hbel'
  have hrg : Hid (w1.rangeAt g 0 Z.toList) := by
    intro j v hv
    rw [Nat.zero_add]
    refine row_cell hown.out ?_
    rw [hZl.out] at hv
    exact hv
  clear hown' hbel' h1
  go_wp2_with fail
  refine wp_load_mid 24 (.tmp 19) rfl g 0 rfl Z.toList (.array 512 22) hrg.out Try.underlying24 rfl hin.out ?_
  rename_i hK
  refine hK _ _ ?_
  clear hK
  go_wp2_with fail
  have hlf : ∀ W : World, RdX (W.alloc (.cells #[.int .u64 12288, .int .u64 32768, .int .i64 1, .bool false, .bool true, .bool false] 47)) 6 (.slice (some ⟨W.heap.size, 0, none⟩) 1 1) 1 (lfV [oneLf]) := fun W =>
    ⟨rfl, _, 1, rfl, Nat.le_refl _, by decide, fun _ => ⟨W.heap.size, 0, rfl, by simp, fun i x hi => (cell_of_row _ _ _ _ _ _ (heap_alloc_new W _)).trans (by rw [Nat.zero_add]; simpa [lfV, Lf.cells, oneLf] using hi)⟩⟩
  have h2 := Lib.hid (Build_any _ 1 [oneLf] one_ok 65536 (by omega) (by omega) _ (hlf w1))
  rw [one_tables] at h2
  refine h2.out.mono ?_
  rintro en w2 ⟨⟨va, rfl, hown2'⟩, hbel2'⟩
  obtain ⟨g2, cap2, rfl, hBg2, hltg2⟩ := hown2'.form (by decide)
  have hcap2 : 3 ≤ cap2 := by
    obtain ⟨_, A', c', e', hc1, _⟩ := RdC.of_own hown2'
    cases e'; exact hc1
  have hbel2 : Hid (Below w.heap.size w w2) := (hbel.out.alloc hbel.out.size _).trans (hbel2'.mono (by have := hbel.out.size; simp; omega))
  obtain ⟨sC, hsC, hmC⟩ : ∃ s, buildP 0 [oneLf] = .ok s ∧ s.m = 3 := by
    have h := one_count
    cases hb : buildP 0 [oneLf] with
    | error c => rw [hb] at h; cases h
    | ok s => rw [hb] at h; exact ⟨s, rfl, h⟩
  have h3 := Lib.hid (count_any _ 1 [oneLf] one_ok _ (hlf w2))
  have hk : Hid (∀ w3, Below (w2.alloc (.cells #[.int .u64 12288, .int .u64 32768, .int .i64 1, .bool false, .bool true, .bool false] 47)).heap.size (w2.alloc (.cells #[.int .u64 12288, .int .u64 32768, .int .i64 1, .bool false, .bool true, .bool false] 47)) w3 →
      (w3.cell? ⟨g2, 0, none⟩ = some (.int .u64 69633) ∧ w3.cell? ⟨g2, 512, none⟩ = some (.int .u64 73729) ∧ w3.cell? ⟨g2, 1027, none⟩ = some (.int .u64 32771) ∧ w3.cell? ⟨g2, 1024, none⟩ = some (.int .u64 0)) ∧ Below w.heap.size w w3) := by
    intro w3 hb
    have h := own_below (own_below hown2' ((Below.refl w2.heap.size w2).alloc (Nat.le_refl _) _)) hb
    refine ⟨⟨row_cell h (u64V_get oneF_0), row_cell h (u64V_get oneF_512), row_cell h (u64V_get oneF_1027), row_cell h (u64V_get oneF_1024)⟩, (hbel2.out.alloc hbel2.out.size _).trans (hb.mono (by have := hbel2.out.size; simp; omega))⟩
  clear hown2' hbel2' h2 hrg hown hbel
  go_wp2_with fail
  refine h3.out.mono ?_
  rintro en w3 ⟨_, hen, hb3⟩
  have he := hen sC hsC
  rw [hmC] at he
  subst he
  obtain ⟨⟨k0, k1, k2, k3⟩, hbf'⟩ := hk.out w3 hb3
  have hbf := Lib.hid hbf'
  clear hen hb3 hbf' hk h3 hequal hzv hguard
  go_wp2
  go_returns
  exact ⟨rfl, hbf.out⟩
end Go.Proofs.Ytaogndianciogaa.Mm
