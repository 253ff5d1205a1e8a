/- word.Put of uint64 onto no bytes: the eight bytes of the number, in a new row. -/
import Derived.Test.YtaogndianciogaaWidth
import Derived.OwnWalk
import Derived.Maps.AppendAt
import Derived.WalkSmall
import Derived.Laws.CopyOwn
namespace Go.Proofs.Ytaogndianciogaa.Mm
open Go.RowKit
set_option linter.unusedVariables false
set_option linter.unusedSimpArgs false
/-- byte i of a number -/
def byteAt (n : Int) (i : Nat) : Int := n / 2 ^ (8 * i) % 256
/-- its bytes, as many as k -/
def bytesN (n : Int) (k : Nat) : List Value := (List.range k).map fun i => .int .u8 (byteAt n i)
theorem bytesN_succ (n : Int) (k : Nat) : bytesN n (k + 1) = bytesN n k ++ [.int .u8 (byteAt n k)] := by simp [bytesN, List.range_succ]
theorem bytesN_length (n : Int) (k : Nat) : (bytesN n k).length = k := by simp [bytesN]
theorem infoByte : (Try.prog.info? 5).map (fun i => (i.zero, i.size, i.bytes)) = some (some (.int .u8 0), 1, 1) := by kernel_rfl
theorem info_parts {P : Program} {t : TypeId} {z : Option Value} {s b : Nat} (h : (P.info? t).map (fun i => (i.zero, i.size, i.bytes)) = some (z, s, b)) : ∃ i, P.info? t = some i ∧ i.zero = z ∧ i.size = s ∧ i.bytes = b := by
  cases hi : P.info? t with
  | none => rw [hi] at h; simp at h
  | some i => rw [hi] at h; simp at h; exact ⟨i, rfl, h.1, h.2.1, h.2.2⟩
set_option maxHeartbeats 1000000 in
set_option maxRecDepth 100000 in
theorem put_any (n : Int) (h0 : 0 ≤ n) (h1 : n < 18446744073709551616) (w : World) : Calls Try.prog 58 #[.slice none 0 0, .int .u64 n] w
    (fun e w' => ∃ v, e = .returned v ∧ w'.ownsRow w.heap.size 5 1 v 8 (bytesN n 8) ∧ Below w.heap.size w w') := by
  obtain ⟨i0, hi0, hz0, hz1, hz2⟩ := info_parts infoByte
  have hmk : ∀ w, (Instr.makeSlice 25 (.int .i64 0) (.int .i64 8)).run Try.prog w = .ok (.slice (some ⟨w.heap.size, 0, none⟩) 0 8) (w.alloc (.cells #[.int .u8 0, .int .u8 0, .int .u8 0, .int .u8 0, .int .u8 0, .int .u8 0, .int .u8 0, .int .u8 0] 5)) := by
    intro w; kernel_rfl
  have hcp : ∀ (p : Option Addr) (w1 : World), (Builtin.copy_ #[25, 25] 3 #[.slice p 0 8, .slice none 0 0]).run Try.prog w1 = .ok (goInt 0) w1 := fun p w1 => run_copy_none (P := Try.prog) w1 25 25 3 5 p none 0 8 0 0 Try.underlying25 (by kernel_rfl) rfl
  go_enter Try.func58, Try.ntmps58
  go_wp2_with fail
  refine (width_any _).mono ?_
  rintro en w1 ⟨rfl, rfl⟩
  have hown0 : Hid ((w.alloc (.cells #[.int .u8 0, .int .u8 0, .int .u8 0, .int .u8 0, .int .u8 0, .int .u8 0, .int .u8 0, .int .u8 0] 5)).ownsRow w.heap.size 5 1 (.slice (some ⟨w.heap.size, 0, none⟩) 0 8) 0 (bytesN n 0)) :=
    World.ownsRow_made w _ 8 (Nat.le_refl _) (by decide) rfl
  have hb0 : Hid (Below w.heap.size w (w.alloc (.cells #[.int .u8 0, .int .u8 0, .int .u8 0, .int .u8 0, .int .u8 0, .int .u8 0, .int .u8 0, .int .u8 0] 5))) := (Below.refl _ _).alloc (Nat.le_refl _) _
  generalize hW : w.alloc (.cells #[.int .u8 0, .int .u8 0, .int .u8 0, .int .u8 0, .int .u8 0, .int .u8 0, .int .u8 0, .int .u8 0] 5) = w1 at hown0 hb0 ⊢
  clear hW
  go_wp2
  go_loopg [5, 17] 9 (fun g1 v5 v17 wr => ∃ k : Nat, k + g1 = 9 ∧ k ≤ 8 ∧ v17 = .int .i64 k ∧ Hid (wr.ownsRow w.heap.size 5 1 v5 k (bytesN n k)) ∧ Hid (Below w.heap.size w wr))
  case atStart => exact ⟨0, rfl, by omega, rfl, hown0, hb0⟩
  case round =>
    obtain ⟨k, hk, hk8, rfl, hown, hb⟩ := hrel
    by_cases hlt : k < 8
    · have hsz : w.heap.size ≤ wr.heap.size := hb.out.size
      have hbyte : (n / 2 ^ (8 * k)) % 256 = byteAt n k := rfl
      go_wp2_with (at_builtin; refine wpList_append_own _ rfl (.tmp 20) (.tmp 26) 25 rfl w.heap.size 5 i0 (.int .u8 0) 1 1 Try.underlying25 hi0 hz0 hz1 hz2 rfl (by decide) _ k _ rfl (hown.out.alloc _) ⟨wr.heap.size, 0, none⟩ 1 1 [.int .u8 (byteAt n k)] rfl rfl (cell_one_new _ _ _) (by simp [Value.oneCell']) (by unfold maxLen; omega) (by omega) (by simp; omega) ?_; intro v' w' hown' hgrow' _)
      go_roundg (8 - k)
      case rel => exact ⟨k + 1, by omega, by omega, by simp, by rw [bytesN_succ]; exact hown', (hb.out.alloc hsz _).grown hgrow' (by simp; omega) (fun j e => (hown.out.lt j e).1)⟩
      case measure => omega
    · obtain rfl : k = 8 := by omega
      go_wp2
      go_ret
      exact ⟨_, rfl, hown.out, hb.out⟩
end Go.Proofs.Ytaogndianciogaa.Mm
