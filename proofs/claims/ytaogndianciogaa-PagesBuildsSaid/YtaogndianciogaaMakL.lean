/- Plain laws on an entry's bits; == on api.Entry. -/
import Derived.Test.YtaogndianciogaaEqL
import Derived.Maps.RangeWalk
import Derived.Maps.OwnOps
import Derived.Laws.StructEq
namespace Go.Proofs.Ytaogndianciogaa
open Go.RowKit Go.Maps
set_option linter.unusedSimpArgs false
set_option linter.unusedVariables false
/-- the number that an entry's bits are -/
def flags (f : Int) (a b c : Bool) : Int := ((f.toNat ||| 1 ||| (if a then 2 else 0) ||| (if b then 4 else 0) ||| (if c then 8 else 0) : Nat) : Int)
theorem flags_lt {f : Int} (h0 : 0 ≤ f) (h1 : f < 18446744073709551616) (a b c : Bool) : 0 ≤ flags f a b c ∧ flags f a b c < 18446744073709551616 := by
  unfold flags
  have h := Nat.or_lt_two_pow (n := 64) (Nat.or_lt_two_pow (n := 64) (Nat.or_lt_two_pow (n := 64) (Nat.or_lt_two_pow (n := 64) (x := f.toNat) (y := 1) (by omega) (by decide)) (y := if a then 2 else 0) (by split <;> decide)) (y := if b then 4 else 0) (by split <;> decide)) (y := if c then 8 else 0) (by split <;> decide)
  omega
theorem or_1 {f : Int} (h0 : 0 ≤ f) (h1 : f < 18446744073709551616) : bits .or .u64 f 1 = flags f false false false := by
  rw [u64_or f 1 h0 h1 (by omega) (by omega)]; simp [flags]
theorem or_2 {f : Int} (h0 : 0 ≤ f) (h1 : f < 18446744073709551616) (b c : Bool) : bits .or .u64 (flags f false b c) 2 = flags f true b c := by
  have h := flags_lt h0 h1 false b c
  rw [u64_or _ 2 h.1 h.2 (by omega) (by omega)]
  simp only [flags, Int.toNat_natCast, show (2 : Int).toNat = 2 from rfl, Bool.false_eq_true, if_false, Nat.or_zero, if_true]
  rw [Nat.or_assoc _ _ 2, Nat.or_comm _ 2, ← Nat.or_assoc, Nat.or_assoc _ _ 2, Nat.or_comm _ 2, ← Nat.or_assoc]
theorem or_4 {f : Int} (h0 : 0 ≤ f) (h1 : f < 18446744073709551616) (a c : Bool) : bits .or .u64 (flags f a false c) 4 = flags f a true c := by
  have h := flags_lt h0 h1 a false c
  rw [u64_or _ 4 h.1 h.2 (by omega) (by omega)]
  simp only [flags, Int.toNat_natCast, show (4 : Int).toNat = 4 from rfl, Bool.false_eq_true, if_false, Nat.or_zero, if_true]
  rw [Nat.or_assoc _ _ 4, Nat.or_comm _ 4, ← Nat.or_assoc]
theorem or_8 {f : Int} (h0 : 0 ≤ f) (h1 : f < 18446744073709551616) (a b : Bool) : bits .or .u64 (flags f a b false) 8 = flags f a b true := by
  have h := flags_lt h0 h1 a b false
  rw [u64_or _ 8 h.1 h.2 (by omega) (by omega)]
  simp [flags]
theorem eqEnt (x y : Ent) (w : World) : (binOp .eql 94 x.val y.val).run Try.prog w = .ok (.bool (decide (x = y))) w := by
  have u1 := Try.underlying22
  have u2 := Try.underlying4
  have a1 := Try.isAgg22
  have a2 := Try.isAgg4
  have z1 := Try.sizeOf22
  have z2 := Try.sizeOf4
  have hS : Try.prog.underlying 94 = some (.struct (Try.prog.fieldsOf 94)) := by kernel_rfl
  have hp : Try.prog.stoodInHeld 94 = false := by kernel_rfl
  obtain ⟨f, t, b, r, e⟩ := x
  obtain ⟨f', t', b', r', e'⟩ := y
  simp only [Ent.val]
  rw [run_eql_struct, show (10000 : Nat) = 9999 + 1 from rfl, run_equalIn_agg w 9999 94 _ _ hS hp]
  simp only [Program.fieldsOf, Try.underlying94]
  go_simp
  by_cases h1 : f = f' <;> cases t <;> cases t' <;> cases b <;> cases b' <;> cases r <;> cases r' <;> cases e <;> cases e' <;> simp [h1]
theorem neqEnt (x y : Ent) (w : World) : (binOp .neq 94 x.val y.val).run Try.prog w = .ok (.bool (!decide (x = y))) w := by
  have h := eqEnt x y w
  simp only [Ent.val] at h ⊢
  rw [run_eql_struct] at h
  rw [run_neq_struct]
  generalize Sem.run Try.prog (Op.equalIn 10000 94 _ _) w = r at h ⊢
  cases r with
  | ok b w' => simp only [Result.andThen_ok, Result.ok.injEq, Value.bool.injEq] at h ⊢; obtain ⟨rfl, rfl⟩ := h; exact ⟨rfl, rfl⟩
  | halt h' w' => simp [Result.andThen] at h
end Go.Proofs.Ytaogndianciogaa
