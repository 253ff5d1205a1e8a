/- The reference's Entry returns entryB, for every uint64 and level. -/
import Derived.Test.YtaogndianciogaaEntry
namespace Go.Proofs.Ytaogndianciogaa
open Go.RowKit
set_option linter.unusedSimpArgs false
set_option linter.unusedVariables false
/-- what the reference's Entry computes -/
def entryB (e level : Int) : Ent × Int :=
  if level < 0 ∨ 2 < level then (Ent.zero, 1)
  else if e % 2 = 0 then (Ent.zero, 41)
  else if e ≠ e / 4096 % 1048576 * 4096 + e % 16 then (Ent.zero, 42)
  else if level = 0 ∨ (level = 1 ∧ ¬ e / 8 % 2 = 1) then
    if e / 2 % 2 = 1 ∨ e / 4 % 2 = 1 ∨ e / 8 % 2 = 1 then (Ent.zero, 42) else (⟨e / 4096 % 1048576 * 4096, true, false, false, false⟩, 0)
  else if (level = 1 ∧ e / 8 % 2 = 1 ∧ 0 < e / 4096 % 1048576 * 4096 % 2097152) ∨ (level = 2 ∧ e / 8 % 2 = 1) then (Ent.zero, 42)
  else (⟨e / 4096 % 1048576 * 4096, false, e / 8 % 2 == 1, e / 2 % 2 == 1, e / 4 % 2 == 1⟩, 0)
end Go.Proofs.Ytaogndianciogaa
