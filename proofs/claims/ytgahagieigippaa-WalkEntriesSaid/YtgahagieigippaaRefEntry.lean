/- The reference's Entry returns entryB, for every uint64 and level. -/
import Derived.Test.YtgahagieigippaaEntry
namespace Go.Proofs.Ytgahagieigippaa
open Go.RowKit
set_option linter.unusedSimpArgs false
set_option linter.unusedVariables false
/-- what the reference's Entry computes -/
def entryB (e level : Int) : Ent × Int :=
  if level < 0 ∨ 2 < level then (Ent.zero, 1)
  else if e % 2 = 0 then (Ent.zero, 41)
  else if e ≠ e / 4096 % 1048576 * 4096 + e % 16 then (Ent.zero, 42)
  else if level = 0 ∨ (level = 1 ∧ ¬ e / 8 % 2 = 1) then
    if e / 2 % 2 = 1 ∨ e / 4 % 2 = 1 ∨ e / 8 % 2 = 1 then (Ent.zero, 42) else (⟨e / 4096 % 1048576 * 4096, true, false, false, false⟩, 0)
  else if (level = 1 ∧ e / 8 % 2 = 1 ∧ 0 < e / 4096 % 1048576 * 4096 % 2097152) ∨ (level = 2 ∧ e / 8 % 2 = 1) then (Ent.zero, 42)
  else (⟨e / 4096 % 1048576 * 4096, false, e / 8 % 2 == 1, e / 2 % 2 == 1, e / 4 % 2 == 1⟩, 0)
set_option maxHeartbeats 2000000 in
/-- bulkheadref4.Entry -/
theorem refEntry_any (e level : Int) (h0 : 0 ≤ e) (h1 : e ≤ 18446744073709551615) (w : World) :
    Calls Try.prog 6 #[.int .u64 e, .int .i64 level] w fun en w' => en = .returned (.tuple #[(entryB e level).1.val, .int .i64 (entryB e level).2]) ∧ Below w.heap.size w w' := by
  go_enter Try.func6, Try.ntmps6
  go_wp2
  all_goals go_tidy
  all_goals
    refine ⟨rfl, _, by simp [results, Try.results6, go_sem]; rfl, ?_⟩
    refine ⟨?_, ?_⟩
    rotate_left
    · repeat (first | exact Below.refl _ _ | refine Below.setCell ?_ (by simp) _ | refine Below.alloc ?_ (by simp) _)
    · (try simp only [beq_iff_eq, beq_eq_false_iff_ne, bne_iff_ne, ne_eq, bne_eq_false_iff_eq, Bool.not_eq_true', Bool.not_eq_false', decide_eq_true_eq, decide_eq_false_iff_not] at *)
      unfold entryB
      (repeat' split) <;> first | (exfalso; omega) | rfl | (clear h1; simp [Ent.val, Ent.zero, beq_iff_eq]; done) | (clear h1; simp [Ent.val, Ent.zero]; omega)
end Go.Proofs.Ytgahagieigippaa
