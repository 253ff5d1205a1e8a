/- A slice literal of one empty table. -/
import Derived.Test.YtaogndianciogaaProg
import Derived.WalkKit
import Derived.Great.BuildSlice
namespace Go.Proofs.Ytaogndianciogaa.Mm
open Go.RowKit
set_option maxRecDepth 100000 in
theorem fill_zero : Instr.fill (fun i => some (i * 512, 512)) ((Array.range (1 * 512)).map fun j => (Array.replicate 512 (Value.int .u64 0))[j % (Array.replicate 512 (Value.int .u64 0)).size]!) [(0, .agg (Array.replicate 512 (.int .u64 0)))] = some (Array.replicate 512 (.int .u64 0)) := by kernel_rfl
theorem parts_one (a : Act) (i : Nat) (x : Operand) : ((#[(i, x)] : Array (Nat × Operand)).map fun (i, x) => (i, a.eval x)).toList = [(i, a.eval x)] := by simp
end Go.Proofs.Ytaogndianciogaa.Mm
