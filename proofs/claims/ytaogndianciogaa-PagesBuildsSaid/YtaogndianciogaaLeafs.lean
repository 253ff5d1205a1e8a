/- pages.unit, pages.ends. -/
import Derived.Test.YtaogndianciogaaWidth
import Derived.Handy
namespace Go.Proofs.Ytaogndianciogaa.Mm
open Go.RowKit
set_option linter.unusedVariables false
set_option linter.unusedSimpArgs false
structure Lf where
  virt : Int
  phys : Int
  pages : Int
  big : Bool
  write : Bool
  exec : Bool
deriving DecidableEq
def Lf.cells (x : Lf) : List Value := [.int .u64 x.virt, .int .u64 x.phys, .int .i64 x.pages, .bool x.big, .bool x.write, .bool x.exec]
def Lf.val (x : Lf) : Value := .agg #[.int .u64 x.virt, .int .u64 x.phys, .int .i64 x.pages, .bool x.big, .bool x.write, .bool x.exec]
def Lf.ok (x : Lf) : Prop := 0 ≤ x.virt ∧ x.virt < 18446744073709551616 ∧ 0 ≤ x.phys ∧ x.phys < 18446744073709551616 ∧ -9223372036854775808 ≤ x.pages ∧ x.pages < 9223372036854775808
def unitP (x : Lf) : Int := if x.big then 2097152 else 4096
theorem unit_any (x : Lf) (w : World) : Calls Try.prog 53 #[x.val] w (fun e w' => e = .returned (.int .u64 (unitP x)) ∧ Below w.heap.size w w') := by
  have hb : Hid (∀ cs, Below w.heap.size w (w.alloc cs)) := fun cs => (Below.refl _ _).alloc (Nat.le_refl _) _
  obtain ⟨a, b, c, d, e, f⟩ := x
  unfold Lf.val unitP
  dsimp only
  cases d
  all_goals
    go_enter Try.func53, Try.ntmps53
    go_wp2
    go_returns
    exact ⟨rfl, hb.out _⟩
def fitsP (at_ n most : Int) : Prop := at_ < most ∧ n ≤ (most - at_) / 4096
instance (a n m : Int) : Decidable (fitsP a n m) := by unfold fitsP; infer_instance
set_option maxHeartbeats 1000000 in
theorem ends_any (a n m : Int) (h0 : 0 ≤ a) (h1 : a < 18446744073709551616) (hn0 : 0 ≤ n) (hn1 : n < 9223372036854775808) (hm0 : 0 ≤ m) (hm1 : m ≤ 549755813888) (w : World) :
    Calls Try.prog 36 #[.int .u64 a, .int .i64 n, .int .u64 m] w
      (fun e w' => e = .returned (if fitsP a n m then .tuple #[.int .u64 (a + n * 4096), .bool true] else .tuple #[.int .u64 0, .bool false]) ∧ w' = w) := by
  by_cases h : fitsP a n m
  · rw [if_pos h]
    obtain ⟨ha, hb⟩ := h
    have hma : 0 ≤ m - a := by omega
    have hq : (m - a) / 4096 * 4096 ≤ m - a := Int.ediv_mul_le _ (by omega)
    have ha2 : ¬ m ≤ a := by omega
    have hb2 : ¬ (m - a) / 4096 < n := by omega
    go_enter Try.func36, Try.ntmps36
    go_wp2
    trace_state
    go_returns
    exact ⟨rfl, rfl⟩
  · rw [if_neg h]
    by_cases ha : m ≤ a
    · go_enter Try.func36, Try.ntmps36
      go_wp2
      go_returns
      exact ⟨rfl, rfl⟩
    · have hma : 0 ≤ m - a := by omega
      have hb2 : (m - a) / 4096 < n := by
        apply Int.not_le.1
        intro hc
        exact h ⟨by omega, hc⟩
      go_enter Try.func36, Try.ntmps36
      go_wp2
      trace_state
      go_returns
      exact ⟨rfl, rfl⟩
end Go.Proofs.Ytaogndianciogaa.Mm
