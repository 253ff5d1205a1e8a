/- entryA is entryB for every uint64; so walk.Entry returns entryB. -/
import Derived.Test.YtaogndianciogaaEntry
import Derived.Test.YtaogndianciogaaEntB
import Derived.Test.YtaogndianciogaaPure
namespace Go.Proofs.Ytaogndianciogaa
open Go.RowKit
set_option linter.unusedSimpArgs false
instance : DecidableEq Ent := fun a b => decidable_of_iff (a.frame = b.frame ∧ a.table = b.table ∧ a.big = b.big ∧ a.write = b.write ∧ a.exec = b.exec) (by cases a; cases b; simp)
theorem mod2_bne (n : Int) (k : Int) (hk : 0 < k) : (n % 2 * k != 0) = (n % 2 == 1) := by
  rcases Int.emod_two_eq n with h | h
  · rw [h]; simp
  · rw [h]; simp; omega
theorem entryA_eq {e : Int} (h0 : 0 ≤ e) (h1 : e < 18446744073709551616) (level : Int) : entryA e level = entryB e level := by
  unfold entryA entryB
  rw [and_1 h0 h1, and_2 h0 h1, and_4 h0 h1, and_8 h0 h1, and_frames h0 h1, mod2_bne _ 2 (by omega), mod2_bne _ 4 (by omega)]
  have hn := andNot_rest h0 h1
  rw [Int.tmod_eq_emod_of_nonneg (by omega)]
  generalize bits .andNot .u64 e 4294963215 = q at *
  by_cases hl : level < 0 ∨ 3 ≤ level
  · have hl' : level < 0 ∨ 2 < level := by omega
    rw [if_pos hl, if_pos hl']
  have hl' : ¬ (level < 0 ∨ 2 < level) := by omega
  rw [if_neg hl, if_neg hl']
  by_cases h2 : e % 2 = 0
  · rw [if_pos h2, if_pos h2]
  rw [if_neg h2, if_neg h2]
  by_cases h3 : q ≠ 0
  · have h3' : e ≠ e / 4096 % 1048576 * 4096 + e % 16 := by omega
    rw [if_pos h3, if_pos h3']
  have h3' : ¬ (e ≠ e / 4096 % 1048576 * 4096 + e % 16) := by omega
  rw [if_neg h3, if_neg h3']
  clear h3'
  clear hn h0 h1 h2 h3
  generalize e / 4096 % 1048576 * 4096 = f
  have h8 := Int.emod_two_eq (e / 8)
  have h2 := Int.emod_two_eq (e / 2)
  have h4 := Int.emod_two_eq (e / 4)
  (repeat' split) <;> first | rfl | (exfalso; omega) | (simp only [Prod.mk.injEq, Ent.mk.injEq, beq_iff_eq, true_and, and_true, and_self]; simp; omega)
/-- walk.Entry, in the document's words -/
theorem entry_calls (e level : Int) (h0 : 0 ≤ e) (h1 : e < 18446744073709551616) (w : World) :
    Calls Try.prog 49 #[.int .u64 e, .int .i64 level] w fun en w' => en = .returned (.tuple #[(entryB e level).1.val, .int .i64 (entryB e level).2]) ∧ Below w.heap.size w w' := by
  rw [← entryA_eq h0 h1]; exact entry_any e level w
end Go.Proofs.Ytaogndianciogaa
