/- word.Get of uint64: the number that the first eight bytes are. -/
import Derived.Test.YtaogndianciogaaWidth
import Derived.Handy
namespace Go.Proofs.Ytaogndianciogaa.Mm
open Go.RowKit
set_option linter.unusedVariables false
set_option linter.unusedSimpArgs false
/-- the number that bytes are, the lowest first -/
def valB : List Int → Int
  | [] => 0
  | b :: r => b + 256 * valB r
def U8s (l : List Int) : Prop := ∀ x ∈ l, 0 ≤ x ∧ x < 256
def u8V (l : List Int) : List Value := l.map fun x => .int .u8 x
theorem u8V_get {l : List Int} {i : Nat} {x : Int} (h : l[i]? = some x) : (u8V l)[i]? = some (.int .u8 x) := by simp [u8V, h]
theorem valB_nonneg {l : List Int} (h : U8s l) : 0 ≤ valB l := by
  induction l with
  | nil => simp [valB]
  | cons b r ih =>
    have h1 := h b (by simp)
    have h2 := ih (fun x hx => h x (by simp [hx]))
    simp only [valB]; omega
theorem valB_lt {l : List Int} (h : U8s l) : valB l < 2 ^ (8 * l.length) := by
  induction l with
  | nil => simp [valB]
  | cons b r ih =>
    have h1 := h b (by simp)
    have h2 := ih (fun x hx => h x (by simp [hx]))
    simp only [valB, List.length_cons, Nat.mul_add, Int.pow_add]
    generalize (2 : Int) ^ (8 * r.length) = p at *
    simp only [show (2 : Int) ^ (8 * 1) = 256 from rfl]
    omega
theorem valB_snoc (l : List Int) (b : Int) : valB (l ++ [b]) = valB l + b * 2 ^ (8 * l.length) := by
  induction l with
  | nil => simp [valB]
  | cons a r ih =>
    simp only [List.cons_append, valB, ih, List.length_cons, Nat.mul_add, Int.pow_add, show (2 : Int) ^ (8 * 1) = 256 from rfl]
    generalize (2 : Int) ^ (8 * r.length) = p at *
    have : b * (p * 256) = 256 * (b * p) := by rw [← Int.mul_assoc, Int.mul_comm]
    rw [this]
    generalize b * p = q
    omega
theorem or_step {l : List Int} {k : Nat} {b : Int} (hl : U8s l) (hb : l[k]? = some b) (hk : k < 8) : bits BinOp.or IntKind.u64 (valB (l.take k)) (IntKind.u64.wrap (b * 2 ^ (8 * k))) = valB (l.take (k + 1)) := by
  have hlen : k < l.length := (List.getElem?_eq_some_iff.1 hb).1
  have hbu := hl b (List.mem_of_getElem? hb)
  have ht : U8s (l.take k) := fun x hx => hl x (List.mem_of_mem_take hx)
  have e : l.take (k + 1) = l.take k ++ [b] := by rw [List.take_add_one, hb]; rfl
  have hlt := valB_lt ht
  have hnn := valB_nonneg ht
  rw [e, valB_snoc]
  rw [show (l.take k).length = k from by simp; omega] at hlt ⊢
  generalize valB (l.take k) = v at *
  obtain ⟨v, rfl⟩ : ∃ n : Nat, v = n := ⟨v.toNat, by omega⟩
  obtain ⟨b, rfl⟩ : ∃ n : Nat, b = n := ⟨b.toNat, by omega⟩
  have hp : ((2 : Int) ^ (8 * k)) = ((2 ^ (8 * k) : Nat) : Int) := by simp
  rw [hp] at hlt ⊢
  have hlt' : v < 2 ^ (8 * k) := by exact_mod_cast hlt
  have hb' : b < 256 := by omega
  have hpow : (2 : Nat) ^ (8 * k) * 256 ≤ 18446744073709551616 := by
    have : (2 : Nat) ^ (8 * k) * 256 = 2 ^ (8 * (k + 1)) := by rw [Nat.mul_add, Nat.pow_add]
    rw [this]
    exact Nat.pow_le_pow_right (n := 2) (by decide) (show 8 * (k + 1) ≤ 64 by omega)
  have hmul : b * 2 ^ (8 * k) < 18446744073709551616 := by
    have := Nat.mul_le_mul_right (2 ^ (8 * k)) (show b ≤ 255 by omega)
    have h2 : 255 * 2 ^ (8 * k) < 2 ^ (8 * k) * 256 := by have := Nat.pow_pos (n := 8 * k) (show 0 < 2 by decide); omega
    omega
  have hw : IntKind.u64.wrap ((b : Int) * ((2 ^ (8 * k) : Nat) : Int)) = ((b * 2 ^ (8 * k) : Nat) : Int) := by
    rw [← Int.natCast_mul]
    generalize b * 2 ^ (8 * k) = m at *
    simp [IntKind.wrap, IntKind.bits, IntKind.signed]
    omega
  rw [hw]
  have hv64 : v < 18446744073709551616 := by omega
  rw [u64_or _ _ (by omega) (by omega) (by omega) (by omega)]
  simp only [Int.toNat_natCast]
  have := Nat.two_pow_add_eq_or_of_lt hlt' b
  rw [Nat.or_comm, Nat.mul_comm b, ← this]
  simp only [Int.natCast_add, Int.natCast_mul]
  rw [Int.mul_comm]
  omega
set_option maxHeartbeats 1000000 in
set_option maxRecDepth 100000 in
theorem get_any (v : Value) (n : Nat) (l : List Int) (hl : U8s l) (hn : 8 ≤ n) (w : World) (hv : RdC w 5 1 v n (u8V l)) :
    Calls Try.prog 33 #[v] w (fun e w' => e = .returned (.tuple #[.int .u64 (valB (l.take 8)), .bool true]) ∧ w' = w) := by
  obtain ⟨hlen, A, c, rfl, hc, hm, hr⟩ := hv
  obtain ⟨gb, off, cs, rfl, hg, hx⟩ := hr (by omega)
  have hln : l.length = n := by simpa [u8V] using hlen
  have hx' := Lib.hid hx
  have hg' := Lib.hid hg
  have hl' := Lib.hid hl
  clear hr hx hg hl
  have hcap : 8 ≤ c := by omega
  have hcI : (8 : Int) ≤ (c : Int) := by omega
  have hnI : ¬ (n : Int) < 8 := by omega
  go_enter Try.func33, Try.ntmps33
  go_wp2_with fail
  refine (width_any _).mono ?_
  rintro en w1 ⟨rfl, rfl⟩
  go_wp2
  go_loopg [5, 6, 7, 17] 9 (fun g1 v5 v6 v7 v17 wr => ∃ k : Nat, k + g1 = 9 ∧ k ≤ 8 ∧ v17 = .int .i64 k ∧ wr = w1 ∧ v5 = .int .u64 (valB (l.take k)))
  case atStart => exact ⟨0, rfl, by omega, rfl, rfl, rfl⟩
  case round =>
    obtain ⟨k, hk, hk8, rfl, rfl, rfl⟩ := hrel
    by_cases hlt : k < 8
    · have hb : l[k]? = some (l[k]'(by omega)) := List.getElem?_eq_getElem _
      have hbu := hl'.out _ (List.getElem_mem (show k < l.length by omega))
      generalize l[k]'(by omega) = b at hb hbu
      have cb : wr.cell? ⟨gb, off + k, none⟩ = some (.int .u8 b) := (cell_of_row wr gb (off + k) cs _ _ hg'.out).trans (hx'.out k _ (u8V_get hb))
      have hltI : (k : Int) < 8 := by omega
      have hb' := Lib.hid hb
      clear hb
      go_wp2
      rw [or_step hl'.out hb'.out hlt]
      go_roundg (8 - k)
      case rel => exact ⟨k + 1, by omega, by omega, by simp, rfl, rfl⟩
      case measure => omega
    · obtain rfl : k = 8 := by omega
      go_wp2
      go_returns
      exact ⟨rfl, rfl⟩
end Go.Proofs.Ytaogndianciogaa.Mm
