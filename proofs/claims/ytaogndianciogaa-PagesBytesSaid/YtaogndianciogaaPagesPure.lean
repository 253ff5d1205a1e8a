/- A table's bytes and back, as plain lists. -/
import Derived.Test.YtaogndianciogaaRead
namespace Go.Proofs.Ytaogndianciogaa.Mm
open Go.RowKit
set_option linter.unusedVariables false
set_option linter.unusedSimpArgs false
def byteInts (es : List Int) : List Int := es.flatMap fun x => (List.range 8).map (byteAt x)
theorem bytesOf_ints (es : List Int) : bytesOf es = u8V (byteInts es) := by
  simp only [bytesOf, byteInts, u8V, bytesN, List.map_flatMap, List.map_map]
  rfl
theorem byteInts_length (es : List Int) : (byteInts es).length = es.length * 8 := by
  have := bytesOf_length es
  rw [bytesOf_ints] at this
  simpa [u8V] using this
theorem byteInts_u8 (es : List Int) : U8s (byteInts es) := by
  intro x hx
  simp only [byteInts, List.mem_flatMap, List.mem_map] at hx
  obtain ⟨y, _, i, _, rfl⟩ := hx
  unfold byteAt
  omega
theorem byteInts_cons (x : Int) (r : List Int) : byteInts (x :: r) = (List.range 8).map (byteAt x) ++ byteInts r := by simp [byteInts]
theorem byteInts_snoc (es : List Int) (x : Int) : byteInts (es ++ [x]) = byteInts es ++ (List.range 8).map (byteAt x) := by simp [byteInts]
theorem byteInts_drop (i : Nat) : ∀ es : List Int, (byteInts es).drop (8 * i) = byteInts (es.drop i) := by
  induction i with
  | zero => intro es; simp
  | succ i ih =>
    intro es
    cases es with
    | nil => simp [byteInts]
    | cons x r =>
      rw [byteInts_cons, List.drop_succ_cons, ← ih r, show 8 * (i + 1) = 8 + 8 * i from by omega, ← List.drop_drop]
      congr 1
theorem mod_step (x : Int) (h : 0 ≤ x) (k : Nat) : x % 2 ^ (8 * k) + byteAt x k * 2 ^ (8 * k) = x % 2 ^ (8 * (k + 1)) := by
  obtain ⟨n, rfl⟩ := Int.eq_ofNat_of_zero_le h
  unfold byteAt
  have e1 : (2 : Int) ^ (8 * k) = ((2 ^ (8 * k) : Nat) : Int) := by simp
  have e2 : (2 : Int) ^ (8 * (k + 1)) = ((2 ^ (8 * k) * 256 : Nat) : Int) := by
    rw [show 8 * (k + 1) = 8 * k + 8 from by omega, Int.pow_add]; simp
  rw [e1, e2]
  generalize 2 ^ (8 * k) = A
  have := congrArg (fun y : Nat => (y : Int)) (Nat.mod_mul (x := n) (a := A) (b := 256))
  simp only [Int.natCast_add, Int.natCast_mul, Int.natCast_emod, Int.natCast_ediv] at this
  rw [Int.natCast_mul]
  refine Eq.trans ?_ this.symm
  rw [Int.mul_comm]
  rfl
theorem valB_bytes (x : Int) (h : 0 ≤ x) (k : Nat) : valB ((List.range k).map (byteAt x)) = x % 2 ^ (8 * k) := by
  induction k with
  | zero => simp [valB]
  | succ k ih => rw [List.range_succ, List.map_append, List.map_singleton, valB_snoc, ih, List.length_map, List.length_range, mod_step x h]
theorem entries_bytes {es : List Int} (he : es.length = 512) (hu : U64s es) : entriesOf (byteInts es) = es := by
  apply List.ext_getElem?
  intro i
  by_cases hi : i < 512
  · have hx : es[i]? = some (es[i]'(by omega)) := List.getElem?_eq_getElem _
    have hm := hu _ (List.getElem_mem (show i < es.length by omega))
    generalize es[i]'(by omega) = x at hx hm
    have hd : es.drop i = x :: es.drop (i + 1) := by
      have h1 := List.drop_eq_getElem_cons (show i < es.length by omega)
      rw [List.getElem?_eq_getElem (by omega)] at hx
      rw [h1, Option.some.inj hx]
    have : (entriesOf (byteInts es))[i]? = some (valB (((byteInts es).drop (8 * i)).take 8)) := by simp [entriesOf, hi]
    rw [this, hx, byteInts_drop, hd, byteInts_cons, List.take_append_of_le_length (by simp), List.take_of_length_le (by simp), valB_bytes x hm.1 8, Int.emod_eq_of_lt hm.1 (by rw [show (2 : Int) ^ (8 * 8) = 18446744073709551616 from by decide]; exact hm.2)]
  · rw [List.getElem?_eq_none (by simp [entriesOf]; omega), List.getElem?_eq_none (by omega)]
theorem bytes_val : ∀ (c : List Int), U8s c → (List.range c.length).map (byteAt (valB c)) = c := by
  intro c
  induction c with
  | nil => intro _; rfl
  | cons b r ih =>
    intro hu
    have hb := hu b (by simp)
    have hr := ih (fun x hx => hu x (by simp [hx]))
    rw [List.length_cons, List.range_succ_eq_map, List.map_cons, List.map_map]
    congr 1
    · unfold byteAt valB; simp; omega
    · refine Eq.trans (List.map_congr_left fun i _ => ?_) hr
      show byteAt (valB (b :: r)) (i + 1) = byteAt (valB r) i
      unfold byteAt
      rw [show valB (b :: r) = b + 256 * valB r from rfl, show (2 : Int) ^ (8 * (i + 1)) = 256 * 2 ^ (8 * i) from by rw [show 8 * (i + 1) = 8 + 8 * i from by omega, Int.pow_add]; rfl, ← Int.ediv_ediv_of_nonneg (by omega)]
      congr 2
      omega
theorem bytes_entries_take {l : List Int} (hu : U8s l) : ∀ m, 8 * m ≤ l.length → byteInts ((List.range m).map fun i => valB ((l.drop (8 * i)).take 8)) = l.take (8 * m) := by
  intro m
  induction m with
  | zero => intro _; simp [byteInts]
  | succ m ih =>
    intro hm
    rw [List.range_succ, List.map_append, List.map_singleton, byteInts_snoc, ih (by omega)]
    have hl : ((l.drop (8 * m)).take 8).length = 8 := by simp; omega
    have hc := bytes_val ((l.drop (8 * m)).take 8) (fun x hx => hu x (List.mem_of_mem_drop (List.mem_of_mem_take hx)))
    rw [hl] at hc
    rw [hc, show 8 * (m + 1) = 8 * m + 8 from by omega, List.take_add]
theorem bytes_entries {l : List Int} (hu : U8s l) (hl : l.length = 4096) : byteInts (entriesOf l) = l := by
  have := bytes_entries_take hu 512 (by omega)
  rw [show 8 * 512 = l.length from by omega, List.take_length] at this
  exact this
theorem entries_u64 {l : List Int} (hu : U8s l) : U64s (entriesOf l) := by
  intro x hx
  simp only [entriesOf, List.mem_map] at hx
  obtain ⟨i, _, rfl⟩ := hx
  have h8 : U8s ((l.drop (8 * i)).take 8) := fun x hx => hu x (List.mem_of_mem_drop (List.mem_of_mem_take hx))
  refine ⟨valB_nonneg h8, ?_⟩
  have h1 := valB_lt h8
  have h2 : ((l.drop (8 * i)).take 8).length ≤ 8 := by simp; omega
  have h3 : (2 : Int) ^ (8 * ((l.drop (8 * i)).take 8).length) ≤ 2 ^ (8 * 8) := by
    have : (2 : Nat) ^ (8 * ((l.drop (8 * i)).take 8).length) ≤ 2 ^ (8 * 8) := Nat.pow_le_pow_right (by omega) (by omega)
    exact_mod_cast this
  have : (2 : Int) ^ (8 * 8) = 18446744073709551616 := by decide
  omega
end Go.Proofs.Ytaogndianciogaa.Mm
