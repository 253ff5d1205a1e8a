/- == on api.Leaf; a leaf in an owned row. -/
import Derived.Test.YtaogndianciogaaRight
import Derived.Laws.StructEq
namespace Go.Proofs.Ytaogndianciogaa.Mm
open Go.RowKit
set_option linter.unusedVariables false
set_option linter.unusedSimpArgs false
theorem eqLf (x y : Lf) (w : World) : (binOp .eql 47 x.val y.val).run Try.prog w = .ok (.bool (decide (x = y))) w := by
  have u1 := Try.underlying22
  have u2 := Try.underlying4
  have u3 := Try.underlying3
  have a1 := Try.isAgg22
  have a2 := Try.isAgg4
  have a3 := Try.isAgg3
  have z1 := Try.sizeOf22
  have z2 := Try.sizeOf4
  have z3 := Try.sizeOf3
  have hS : Try.prog.underlying 47 = some (.struct (Try.prog.fieldsOf 47)) := by kernel_rfl
  have hp : Try.prog.stoodInHeld 47 = false := by kernel_rfl
  obtain ⟨f, t, b, r, e, g⟩ := x
  obtain ⟨f', t', b', r', e', g'⟩ := y
  simp only [Lf.val]
  rw [run_eql_struct, show (10000 : Nat) = 9999 + 1 from rfl, run_equalIn_agg w 9999 47 _ _ hS hp]
  simp only [Program.fieldsOf, Try.underlying47]
  go_simp
  by_cases h1 : f = f' <;> by_cases h2 : t = t' <;> by_cases h3 : b = b' <;> cases r <;> cases r' <;> cases e <;> cases e' <;> cases g <;> cases g' <;> simp [h1, h2, h3]
theorem neqLf (x y : Lf) (w : World) : (binOp .neq 47 x.val y.val).run Try.prog w = .ok (.bool (!decide (x = y))) w := by
  have h := eqLf x y w
  simp only [Lf.val] at h ⊢
  rw [run_eql_struct] at h
  rw [run_neq_struct]
  generalize Sem.run Try.prog (Op.equalIn 10000 47 _ _) w = r at h ⊢
  cases r with
  | ok b w' => simp only [Result.andThen_ok, Result.ok.injEq, Value.bool.injEq] at h ⊢; obtain ⟨rfl, rfl⟩ := h; exact ⟨rfl, rfl⟩
  | halt h' w' => simp [Result.andThen] at h
theorem guardLf : Try.prog.eqGuardType Try.prog.depth 47 = false := by kernel_rfl
/-- the block of an owned row -/
theorem own_obj {w : World} {B : Nat} {T : TypeId} {v : Value} {n sz : Nat} {xs : List Value} (h : w.ownsRow B T sz v n xs) (hn : 0 < n) : ∃ g cap cur, v = .slice (some ⟨g, 0, none⟩) n cap ∧ B ≤ g ∧ w.heap[g]? = some (.cells cur T (0, 0)) ∧ n ≤ cap ∧ cap ≤ maxLen ∧ cur.size = cap * sz ∧ cur.toList.take (n * sz) = xs := by
  obtain ⟨h1, h2⟩ := h
  rcases h2 with ⟨_, rfl⟩ | ⟨g, cap, cur, e, hb, hg, hnc, hcm, hcs, ht⟩
  · exact absurd hn (by omega)
  · exact ⟨g, cap, cur, e, hb, hg, hnc, hcm, hcs, ht⟩
theorem own_leaf {w : World} {B : Nat} {T : TypeId} {v : Value} {l : List Lf} (h : w.ownsRow B T 6 v l.length (lfV l)) {i : Nat} {x : Lf} (hi : l[i]? = some x) :
    ∃ g cap, v = .slice (some ⟨g, 0, none⟩) l.length cap ∧ l.length ≤ cap ∧ cap ≤ maxLen ∧ B ≤ g ∧ g < w.heap.size ∧ LeafAt w g (i * 6) x ∧ w.frozen? ⟨g, i * 6 + 2, none⟩ = false := by
  have hlt := (List.getElem?_eq_some_iff.1 hi).1
  obtain ⟨g, cap, cur, rfl, hb, hg, hnc, hcm, hcs, ht⟩ := own_obj h (by omega)
  have hx : ∀ j y, (lfV l)[j]? = some y → w.cell? ⟨g, j, none⟩ = some y := by
    intro j y hy
    refine (cell_of_row w g j cur T (0, 0) hg).trans ?_
    rw [← ht, List.getElem?_take] at hy
    split at hy
    · simpa using hy
    · cases hy
  exact ⟨g, cap, rfl, hnc, hcm, hb, lt_of_block hg, ⟨hx _ _ (lfV_get hi 0 (by omega)), hx _ _ (lfV_get hi 1 (by omega)), hx _ _ (lfV_get hi 2 (by omega)), hx _ _ (lfV_get hi 3 (by omega)), hx _ _ (lfV_get hi 4 (by omega)), hx _ _ (lfV_get hi 5 (by omega))⟩, frozen_of_block hg⟩
end Go.Proofs.Ytaogndianciogaa.Mm
