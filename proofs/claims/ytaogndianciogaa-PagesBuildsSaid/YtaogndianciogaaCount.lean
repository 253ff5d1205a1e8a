/- pages.Count, pages.Build. -/
import Derived.Test.YtaogndianciogaaBuild
namespace Go.Proofs.Ytaogndianciogaa.Mm
open Go.RowKit
set_option linter.unusedVariables false
set_option linter.unusedSimpArgs false
set_option maxHeartbeats 4000000 in
set_option maxRecDepth 100000 in
theorem count_any (v : Value) (n : Nat) (l : List Lf) (hok : ∀ x ∈ l, x.ok) (w : World) (hv : RdX w 6 v n (lfV l)) :
    Calls Try.prog 17 #[v] w (fun e w' => (∀ c, buildP 0 l = .error c → e = .returned (.tuple #[.int .i64 0, .int .i64 c])) ∧ (∀ s, buildP 0 l = .ok s → e = .returned (.tuple #[.int .i64 s.m, .int .i64 0])) ∧ Below w.heap.size w w') := by
  have hb := Lib.hid (build_any v n l hok 0 (by omega) (by omega) w hv)
  clear hv
  generalize buildP 0 l = r at *
  cases r with
  | error c =>
    go_enter Try.func17, Try.ntmps17
    go_wp2_with fail
    refine hb.out.mono ?_
    rintro en w1 ⟨hp, hbel'⟩
    have he : en = .returned (.tuple #[.slice none 0 0, .int .i64 c]) := hp
    subst he
    have hbel := Lib.hid hbel'
    clear hp hbel'
    go_wp2
    go_returns
    exact ⟨fun c' h => by cases h; rfl, fun s h => (by cases h), hbel.out⟩
  | ok s =>
    go_enter Try.func17, Try.ntmps17
    go_wp2_with fail
    refine hb.out.mono ?_
    rintro en w1 ⟨⟨va, rfl, hown⟩, hbel'⟩
    obtain ⟨A5, c5, rfl⟩ : ∃ A5 c5, va = .slice A5 s.m c5 := by
      obtain ⟨_, A, c, e, _⟩ := RdC.of_own hown
      exact ⟨A, c, e⟩
    have hbel := Lib.hid hbel'
    clear hown hbel'
    go_wp2
    go_returns
    exact ⟨fun c' h => (by cases h), fun s' h => by cases h; rfl, hbel.out⟩
end Go.Proofs.Ytaogndianciogaa.Mm
