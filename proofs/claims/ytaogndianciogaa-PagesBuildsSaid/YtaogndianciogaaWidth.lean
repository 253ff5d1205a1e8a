/- word.width of uint64 answers 8. -/
import Derived.Test.YtaogndianciogaaMem
import Derived.Test.YtaogndianciogaaProg
namespace Go.Proofs.Ytaogndianciogaa.Mm
open Go.RowKit
set_option linter.unusedVariables false
set_option linter.unusedSimpArgs false
def wideOf (k : Nat) : Int := [18446744073709551615, 72057594037927935, 281474976710655, 1099511627775, 4294967295, 16777215, 65535, 255, 0].getD k 0
theorem compl0 : (Go.bits BinOp.xor IntKind.u64 IntKind.u64.max 0) = 18446744073709551615 := by decide
set_option maxHeartbeats 1000000 in
set_option maxRecDepth 100000 in
theorem width_any (w : World) : Calls Try.prog 52 #[] w (fun e w' => e = .returned (.int .i64 8) ∧ w' = w) := by
  go_enter Try.func52, Try.ntmps52
  go_wp2
  go_loopg [1, 2] 9 (fun g1 v1 v2 wr => ∃ k : Nat, k + g1 = 9 ∧ k ≤ 8 ∧ wr = w ∧ v1 = .int .i64 k ∧ v2 = .int .u64 (wideOf k))
  case atStart => exact ⟨0, rfl, by omega, rfl, rfl, by simp [compl0, wideOf]⟩
  case round =>
    obtain ⟨k, hk, hk8, rfl, rfl, rfl⟩ := hrel
    have hcases : k = 0 ∨ k = 1 ∨ k = 2 ∨ k = 3 ∨ k = 4 ∨ k = 5 ∨ k = 6 ∨ k = 7 ∨ k = 8 := by omega
    rcases hcases with rfl | rfl | rfl | rfl | rfl | rfl | rfl | rfl | rfl
    · simp only [wideOf, List.getD_cons_zero, List.getD_cons_succ]
      go_wp2
      go_roundg (8)
      case rel => exact ⟨1, by omega, by omega, rfl, rfl, rfl⟩
      case measure => omega
    · simp only [wideOf, List.getD_cons_zero, List.getD_cons_succ]
      go_wp2
      go_roundg (7)
      case rel => exact ⟨2, by omega, by omega, rfl, rfl, rfl⟩
      case measure => omega
    · simp only [wideOf, List.getD_cons_zero, List.getD_cons_succ]
      go_wp2
      go_roundg (6)
      case rel => exact ⟨3, by omega, by omega, rfl, rfl, rfl⟩
      case measure => omega
    · simp only [wideOf, List.getD_cons_zero, List.getD_cons_succ]
      go_wp2
      go_roundg (5)
      case rel => exact ⟨4, by omega, by omega, rfl, rfl, rfl⟩
      case measure => omega
    · simp only [wideOf, List.getD_cons_zero, List.getD_cons_succ]
      go_wp2
      go_roundg (4)
      case rel => exact ⟨5, by omega, by omega, rfl, rfl, rfl⟩
      case measure => omega
    · simp only [wideOf, List.getD_cons_zero, List.getD_cons_succ]
      go_wp2
      go_roundg (3)
      case rel => exact ⟨6, by omega, by omega, rfl, rfl, rfl⟩
      case measure => omega
    · simp only [wideOf, List.getD_cons_zero, List.getD_cons_succ]
      go_wp2
      go_roundg (2)
      case rel => exact ⟨7, by omega, by omega, rfl, rfl, rfl⟩
      case measure => omega
    · simp only [wideOf, List.getD_cons_zero, List.getD_cons_succ]
      go_wp2
      go_roundg (1)
      case rel => exact ⟨8, by omega, by omega, rfl, rfl, rfl⟩
      case measure => omega
    · simp only [wideOf, List.getD_cons_zero, List.getD_cons_succ]
      go_wp2
      go_ret
      exact ⟨rfl, rfl⟩
end Go.Proofs.Ytaogndianciogaa.Mm
