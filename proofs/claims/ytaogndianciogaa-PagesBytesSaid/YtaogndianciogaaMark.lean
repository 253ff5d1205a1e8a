/- bulkheadbook.Bytes, the marks for lists of bytes. -/
import Derived.Test.YtaogndianciogaaWidth
import Derived.Handy
namespace Go.Proofs.Ytaogndianciogaa.Mm
open Go.RowKit
set_option linter.unusedVariables false
set_option linter.unusedSimpArgs false
def markB (i j : Nat) : Int := ((i : Int) + 1) / 2 ^ (8 * (j % 3)) % 256
set_option maxHeartbeats 1000000 in
theorem mark_any (i j : Nat) (hi : i < 9223372036854775807) (hj : j ≤ 9223372036854775807) (w : World) :
    Calls Try.prog 15 #[.int .i64 i, .int .i64 j] w (fun e w' => e = .returned (.int .u8 (markB i j)) ∧ w' = w) := by
  have hm : Int.tmod (j : Int) 3 = ((j % 3 : Nat) : Int) := by simp [Int.tmod]
  have hm3 : j % 3 < 3 := by omega
  generalize hq : j % 3 = q at *
  go_enter Try.func15, Try.ntmps15
  go_wp2
  go_returns
  exact ⟨by unfold markB; rw [hq]; rfl, rfl⟩
end Go.Proofs.Ytaogndianciogaa.Mm
