/- walk.Entry returns entryA (its own operations), for every entry and level. -/
import Derived.Test.YtaogndianciogaaProg
import Derived.WalkKit
import Derived.WalkLawsBesides
import Derived.BigQuiet
import Derived.Outline
namespace Go.Proofs.Ytaogndianciogaa
open Go.RowKit
set_option linter.unusedSimpArgs false
set_option linter.unusedVariables false
structure Ent where
  frame : Int
  table : Bool
  big : Bool
  write : Bool
  exec : Bool
def Ent.val (x : Ent) : Value := .agg #[.int .u64 x.frame, .bool x.table, .bool x.big, .bool x.write, .bool x.exec]
def Ent.zero : Ent := ⟨0, false, false, false, false⟩
/-- what walk.Entry computes, in its own operations -/
def entryA (e level : Int) : Ent × Int :=
  if level < 0 ∨ 3 ≤ level then (Ent.zero, 1)
  else if bits .and .u64 e 1 = 0 then (Ent.zero, 41)
  else if bits .andNot .u64 e 4294963215 ≠ 0 then (Ent.zero, 42)
  else if bits .and .u64 e 8 ≠ 0 then
    if level ≠ 1 ∨ (bits .and .u64 e 4294963200).tmod 2097152 ≠ 0 then (Ent.zero, 42)
    else (⟨bits .and .u64 e 4294963200, false, true, bits .and .u64 e 2 != 0, bits .and .u64 e 4 != 0⟩, 0)
  else if level < 2 then
    if bits .and .u64 e 2 ≠ 0 ∨ bits .and .u64 e 4 ≠ 0 then (Ent.zero, 42) else (⟨bits .and .u64 e 4294963200, true, false, false, false⟩, 0)
  else (⟨bits .and .u64 e 4294963200, false, false, bits .and .u64 e 2 != 0, bits .and .u64 e 4 != 0⟩, 0)
set_option maxHeartbeats 1000000 in
/-- walk.Entry -/
theorem entry_any (e level : Int) (w : World) :
    Calls Try.prog 49 #[.int .u64 e, .int .i64 level] w fun en w' => en = .returned (.tuple #[(entryA e level).1.val, .int .i64 (entryA e level).2]) ∧ Below w.heap.size w w' := by
  go_enter Try.func49, Try.ntmps49
  go_wp2
  all_goals go_tidy
  all_goals
    refine ⟨rfl, _, by simp [results, Try.results49, go_sem]; rfl, ?_⟩
    refine ⟨?_, ?_⟩
    rotate_left
    · repeat (first | exact Below.refl _ _ | refine Below.setCell ?_ (by simp) _ | refine Below.alloc ?_ (by simp) _)
    · (try simp only [beq_iff_eq, beq_eq_false_iff_ne, bne_iff_ne, ne_eq, bne_eq_false_iff_eq] at *)
      unfold entryA
      (repeat' split) <;> first | (exfalso; omega) | (simp_all [Ent.val, Ent.zero]; done)
end Go.Proofs.Ytaogndianciogaa
