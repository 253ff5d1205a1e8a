/- bulkheadbook.Intact of bytes. -/
import Derived.Test.YtaogndianciogaaSameB
namespace Go.Proofs.Ytaogndianciogaa.Mm
open Go.RowKit
set_option linter.unusedVariables false
set_option linter.unusedSimpArgs false
theorem take_rel {l1 : List Int} {n k : Nat} {m x : Int} (hx : l1[n + k]? = some x) (e : x = m) (h : (l1.drop n).take k = List.replicate k m) : (l1.drop n).take (k + 1) = List.replicate (k + 1) m := by
  rw [List.take_add_one, h, List.getElem?_drop, hx, e, List.replicate_succ']
  rfl
set_option maxHeartbeats 1000000 in
set_option maxRecDepth 100000 in
theorem intact_any (v1 v2 : Value) (n n2 : Nat) (l1 l2 : List Int) (m : Int) (hn : n ≤ 2147483647) (w : World) (h1 : RdC w 5 1 v1 n2 (u8V l1)) (h2 : RdX w 1 v2 n (u8V l2)) :
    Calls Try.prog 13 #[v1, v2, .int .u8 m] w (fun e w' => e = .returned (.bool (decide (l1 = l2 ++ List.replicate 80 m))) ∧ ∃ j, w' = w.drewN j) := by
  have hv2 := h2
  obtain ⟨hlen1, A1, c1, rfl, hc1, hm1, hr1⟩ := h1
  obtain ⟨hlen2, A2, c2, rfl, hc2, hm2, hr2⟩ := h2
  have hln1 : l1.length = n2 := by simpa [u8V] using hlen1
  have hln2 : l2.length = n := by simpa [u8V] using hlen2
  have hm1' : c1 ≤ 9223372036854775807 := by unfold maxLen at hm1; omega
  have hm2' : c2 ≤ 9223372036854775807 := by unfold maxLen at hm2; omega
  by_cases hnn : n2 = n + 80
  · subst hnn
    obtain ⟨gb, off, cs, rfl, hg, hx⟩ := hr1 (by omega)
    have hpre : RdC w 5 1 (.slice (some ⟨gb, off, none⟩) n c1) n (u8V (l1.take n)) :=
      ⟨by simp [u8V]; omega, _, c1, rfl, by omega, hm1, fun _ => ⟨gb, off, cs, rfl, hg, fun i x hi => hx i x (by
        unfold u8V at hi ⊢
        rw [List.map_take, List.getElem?_take] at hi
        split at hi
        · exact hi
        · cases hi)⟩⟩
    have H := Lib.hid (same_any _ _ n n (l1.take n) l2 w hpre.weak hv2)
    have hgx := Lib.hid (And.intro hg hx)
    clear hpre hv2 hr1 hr2 hm1 hm2 hg hx
    by_cases he : l1.take n = l2
    · have he' := Lib.hid he
      have hd : decide (l1.take n = l2) = true := decide_eq_true he
      rw [hd] at H
      clear he hd
      go_enter Try.func13, Try.ntmps13
      go_wp2_with fail
      refine H.out.mono ?_
      rintro en w2 ⟨rfl, j, rfl⟩
      go_wp2
      go_loopg [7] 81 (fun g1 v7 wr => ∃ k : Nat, k + g1 = 81 ∧ k ≤ 80 ∧ v7 = .int .i64 ((n + k : Nat) : Int) ∧ wr = w.drewN j ∧ Hid ((l1.drop n).take k = List.replicate k m))
      case atStart => exact ⟨0, rfl, by omega, rfl, rfl, by show (l1.drop n).take 0 = _; simp⟩
      case round =>
        obtain ⟨k, hk, hk8, rfl, rfl, hs⟩ := hrel
        by_cases hlt : k < 80
        · have hb : l1[n + k]? = some (l1[n + k]'(by omega)) := List.getElem?_eq_getElem _
          generalize l1[n + k]'(by omega) = x at hb
          have cb : (w.drewN j).cell? ⟨gb, off + (n + k), none⟩ = some (.int .u8 x) := (cell_of_row w gb (off + (n + k)) cs _ _ hgx.out.1).trans (hgx.out.2 (n + k) _ (u8V_get hb))
          have hltI : (n : Int) + (k : Int) < (n : Int) + 80 := by omega
          have hltN : n + k < n + 80 := by omega
          have hb' := Lib.hid hb
          clear hb
          generalize hW : w.drewN j = wr at *
          have hW' := Lib.hid hW
          clear hW
          by_cases hxm : x = m
          · have hxm1 : (x != m) = false := by simp [hxm]
            have hxm' := Lib.hid hxm
            clear hxm
            go_wp2
            go_roundg (80 - k)
            case rel => exact ⟨k + 1, by omega, by omega, by simp; omega, rfl, take_rel hb'.out hxm'.out hs.out⟩
            case measure => omega
          · have hxm1 : (x != m) = true := by simp [hxm]
            have hne : Hid (l1 ≠ l2 ++ List.replicate 80 m) := by
              intro e
              have := hb'.out
              rw [e, List.getElem?_append_right (by omega), List.getElem?_replicate, if_pos (by omega)] at this
              exact hxm (Option.some.inj this).symm
            clear hxm
            go_wp2
            go_returns
            exact ⟨by rw [decide_eq_false hne.out]; rfl, j, hW'.out.symm⟩
        · obtain rfl : k = 80 := by omega
          have heq : Hid (l1 = l2 ++ List.replicate 80 m) := by
            have := hs.out
            rw [List.take_of_length_le (by simp; omega)] at this
            have e : l1 = l1.take n ++ l1.drop n := (List.take_append_drop n l1).symm
            show l1 = _
            rw [e, this, he'.out]
          go_wp2
          go_returns
          exact ⟨by rw [decide_eq_true heq.out]; rfl, ⟨_, rfl⟩⟩
    · have hne : Hid (l1 ≠ l2 ++ List.replicate 80 m) := by
        rintro rfl
        exact he (by rw [List.take_append_of_le_length (by omega), List.take_of_length_le (by omega)])
      have hd : decide (l1.take n = l2) = false := decide_eq_false he
      rw [hd] at H
      clear he hd
      go_enter Try.func13, Try.ntmps13
      go_wp2_with fail
      refine H.out.mono ?_
      rintro en w2 ⟨rfl, j, rfl⟩
      go_wp2
      go_returns
      exact ⟨by rw [decide_eq_false hne.out]; rfl, ⟨_, rfl⟩⟩
  · have hnnI : ((n2 : Int) != (n : Int) + 80) = true := by simp; omega
    have hne : Hid (l1 ≠ l2 ++ List.replicate 80 m) := by
      intro e
      have := congrArg List.length e
      simp at this; omega
    clear hnn hr1 hr2 hm1 hm2 hv2
    go_enter Try.func13, Try.ntmps13
    go_wp2
    go_returns
    exact ⟨by rw [decide_eq_false hne.out]; rfl, ⟨0, rfl⟩⟩
end Go.Proofs.Ytaogndianciogaa.Mm
