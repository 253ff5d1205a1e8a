/- bulkheadbook.Beyond; bulkheadbook.Same of bytes. -/
import Derived.Test.YtaogndianciogaaGet
namespace Go.Proofs.Ytaogndianciogaa.Mm
open Go.RowKit
set_option linter.unusedVariables false
set_option linter.unusedSimpArgs false
def sumI : List Int → Int
  | [] => 0
  | x :: r => x + sumI r
theorem sumI_snoc (l : List Int) (x : Int) : sumI (l ++ [x]) = sumI l + x := by
  induction l with
  | nil => simp [sumI]
  | cons a r ih => simp only [List.cons_append, sumI, ih]; omega
theorem sumI_nonneg {l : List Int} (h : ∀ x ∈ l, 0 ≤ x) : 0 ≤ sumI l := by
  induction l with
  | nil => simp [sumI]
  | cons a r ih =>
    have := h a (by simp); have := ih (fun x hx => h x (by simp [hx])); simp only [sumI]; omega
theorem sumI_take_le {l : List Int} (h : ∀ x ∈ l, 0 ≤ x) (k : Nat) : sumI (l.take k) ≤ sumI l := by
  have e : l = l.take k ++ l.drop k := (List.take_append_drop k l).symm
  have : ∀ a b : List Int, sumI (a ++ b) = sumI a + sumI b := by
    intro a b
    induction a with
    | nil => simp [sumI]
    | cons x r ih => simp only [List.cons_append, sumI, ih]; omega
  have h2 := sumI_nonneg (l := l.drop k) (fun x hx => h x (List.mem_of_mem_drop hx))
  have := this (l.take k) (l.drop k)
  rw [← e] at this
  omega
set_option maxHeartbeats 1000000 in
set_option maxRecDepth 100000 in
theorem beyond_any (v : Value) (n : Nat) (l : List Int) (hl : ∀ x ∈ l, 0 ≤ x) (hl2 : ∀ x ∈ l, x ≤ 9223372036854775807) (w : World) (hv : RdC w 3 1 v n (l.map fun x => Value.int .i64 x)) :
    Calls Try.prog 7 #[v] w (fun e w' => e = .returned (.bool (decide (2147483647 < sumI l))) ∧ w' = w) := by
  obtain ⟨hlen, A, c, rfl, hc, hm, hr⟩ := hv
  have hln : l.length = n := by simpa using hlen
  have hm' : n ≤ 9223372036854775807 := by unfold maxLen at hm; omega
  have hl' := Lib.hid hl
  have hl2' := Lib.hid hl2
  have hr' := Lib.hid hr
  clear hr hl hl2 hm
  go_enter Try.func7, Try.ntmps7
  go_wp2
  go_loopg [3, 4] (n + 1) (fun g1 v3 v4 wr => ∃ k : Nat, k + g1 = n + 1 ∧ k ≤ n ∧ v4 = .int .i64 k ∧ wr = w ∧ v3 = .int .i64 (2147483647 - sumI (l.take k)) ∧ Hid (sumI (l.take k) ≤ 2147483647))
  case atStart => exact ⟨0, by omega, by omega, rfl, rfl, rfl, by show sumI (l.take 0) ≤ _; simp [sumI]⟩
  case round =>
    obtain ⟨k, hk, hkn, rfl, rfl, rfl, hs⟩ := hrel
    by_cases hlt : k < n
    · have hb : l[k]? = some (l[k]'(by omega)) := List.getElem?_eq_getElem _
      have hb0 := hl'.out _ (List.getElem_mem (show k < l.length by omega))
      have hb1 := hl2'.out _ (List.getElem_mem (show k < l.length by omega))
      generalize l[k]'(by omega) = x at hb hb0 hb1
      obtain ⟨gb, off, cs, rfl, hg, hx⟩ := hr'.out (by omega)
      have cb : wr.cell? ⟨gb, off + k, none⟩ = some (.int .i64 x) := (cell_of_row wr gb (off + k) cs _ _ hg).trans (hx k _ (by simp [hb]))
      have hltI : (k : Int) < (n : Int) := by omega
      have e : l.take (k + 1) = l.take k ++ [x] := by rw [List.take_add_one, hb]; rfl
      have e2 : Hid (sumI (l.take (k + 1)) = sumI (l.take k) + x) := by rw [e]; exact sumI_snoc _ _
      have hle := Lib.hid (sumI_take_le hl'.out (k + 1))
      have hs0 := sumI_nonneg (l := l.take k) (fun x hx => hl'.out x (List.mem_of_mem_take hx))
      have hs1 := hs.out
      clear hb hg hx e
      generalize hS : sumI (l.take k) = S at *
      clear hS
      by_cases hgt : 2147483647 - S < x
      · have hres : (2147483647 < sumI l) := by have := e2.out; have := hle.out; omega
        have hres' := Lib.hid hres
        clear hres
        go_wp2
        go_returns
        exact ⟨by rw [decide_eq_true hres'.out]; rfl, rfl⟩
      · go_wp2
        go_roundg (n - k)
        case rel => exact ⟨k + 1, by omega, by omega, by simp, rfl, by rw [e2.out]; congr 1; omega, by have := e2.out; show _ ≤ _; omega⟩
        case measure => omega
    · obtain rfl : k = n := by omega
      have hres : sumI l ≤ 2147483647 := by have := hs.out; rw [List.take_of_length_le (by omega)] at this; omega
      have hres' := Lib.hid hres
      clear hres
      go_wp2
      go_returns
      exact ⟨by rw [decide_eq_false (Int.not_lt.2 hres'.out)]; rfl, rfl⟩
/-- do two lists agree in their first k things? -/
theorem take_eq_step {l m : List Int} {k : Nat} {x y : Int} (h : l.take k = m.take k) (hx : l[k]? = some x) (hy : m[k]? = some y) (e : x = y) : l.take (k + 1) = m.take (k + 1) := by
  rw [List.take_add_one, List.take_add_one, h, hx, hy, e]
set_option maxHeartbeats 1000000 in
set_option maxRecDepth 100000 in
theorem same_any (v1 v2 : Value) (n m : Nat) (l1 l2 : List Int) (w : World) (h1 : RdX w 1 v1 n (u8V l1)) (h2 : RdX w 1 v2 m (u8V l2)) :
    Calls Try.prog 9 #[v1, v2] w (fun e w' => e = .returned (.bool (decide (l1 = l2))) ∧ ∃ j, w' = w.drewN j) := by
  obtain ⟨hlen1, A1, c1, rfl, hc1, hm1, hr1⟩ := h1
  obtain ⟨hlen2, A2, c2, rfl, hc2, hm2, hr2⟩ := h2
  have hln1 : l1.length = n := by simpa [u8V] using hlen1
  have hln2 : l2.length = m := by simpa [u8V] using hlen2
  have hm1' : n ≤ 9223372036854775807 := by unfold maxLen at hm1; omega
  have hr1' := Lib.hid hr1
  have hr2' := Lib.hid hr2
  clear hr1 hr2 hm1 hm2
  by_cases hnm : n = m
  · subst hnm
    go_enter Try.func9, Try.ntmps9
    go_wp2
    go_loopg [5] (n + 1) (fun g1 v5 wr => ∃ k : Nat, k + g1 = n + 1 ∧ k ≤ n ∧ v5 = .int .i64 k ∧ (∃ j, wr = w.drewN j) ∧ Hid (l1.take k = l2.take k))
    case atStart => exact ⟨0, by omega, by omega, rfl, ⟨0, rfl⟩, rfl⟩
    case round =>
      obtain ⟨k, hk, hkn, rfl, ⟨j, rfl⟩, hs⟩ := hrel
      by_cases hlt : k < n
      · have hb : l1[k]? = some (l1[k]'(by omega)) := List.getElem?_eq_getElem _
        have hb2 : l2[k]? = some (l2[k]'(by omega)) := List.getElem?_eq_getElem _
        generalize l1[k]'(by omega) = x at hb
        generalize l2[k]'(by omega) = y at hb2
        obtain ⟨gb, off, rfl, hg, hx⟩ := hr1'.out (by omega)
        obtain ⟨gb2, off2, rfl, hg2, hx2⟩ := hr2'.out (by omega)
        have cb : (w.drewN j).cell? ⟨gb, off + k, none⟩ = some (.int .u8 x) := hx k _ (u8V_get hb)
        have cb2 : (w.drewN j).cell? ⟨gb2, off2 + k, none⟩ = some (.int .u8 y) := hx2 k _ (u8V_get hb2)
        have hltI : (k : Int) < (n : Int) := by omega
        have hbs := Lib.hid (And.intro hb hb2)
        clear hb hb2 hg hx hg2 hx2
        generalize hW : w.drewN j = wr at *
        have hW' := Lib.hid hW
        clear hW
        by_cases hxy : x = y
        · have hxy1 : (x != y) = false := by simp [hxy]
          have hxy' := Lib.hid hxy
          clear hxy
          go_wp2
          go_quiet (fail)
          go_wp2
          go_roundg (n - k)
          case rel => exact ⟨k + 1, by omega, by omega, by simp, by rw [← hW'.out]; exact ⟨_, World.drewN_drewN _ _ _⟩, take_eq_step hs.out hbs.out.1 hbs.out.2 hxy'.out⟩
          case measure => omega
        · have hxy1 : (x != y) = true := by simp [hxy]
          have hne : Hid (l1 ≠ l2) := by
            rintro rfl
            have := hbs.out
            rw [this.1] at this
            exact hxy (Option.some.inj this.2)
          clear hxy
          go_wp2
          go_quiet (fail)
          go_wp2
          go_returns
          exact ⟨by rw [decide_eq_false hne.out]; rfl, by rw [← hW'.out]; exact ⟨_, World.drewN_drewN _ _ _⟩⟩
      · obtain rfl : k = n := by omega
        have heq : Hid (l1 = l2) := by
          have := hs.out
          rwa [List.take_of_length_le (by omega), List.take_of_length_le (by omega)] at this
        go_wp2
        go_returns
        exact ⟨by rw [decide_eq_true heq.out]; rfl, ⟨_, rfl⟩⟩
  · have hnmI : ((n : Int) != (m : Int)) = true := by simp; omega
    have hne : Hid (l1 ≠ l2) := by rintro rfl; omega
    clear hnm
    go_enter Try.func9, Try.ntmps9
    go_wp2
    go_returns
    exact ⟨by rw [decide_eq_false hne.out]; rfl, ⟨0, rfl⟩⟩
end Go.Proofs.Ytaogndianciogaa.Mm
