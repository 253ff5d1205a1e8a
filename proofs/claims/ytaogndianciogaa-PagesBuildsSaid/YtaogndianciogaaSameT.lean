/- bulkheadbook.Same of tables, and of leaves. -/
import Derived.Test.YtaogndianciogaaRuns
import Derived.Test.YtaogndianciogaaTabEq
namespace Go.Proofs.Ytaogndianciogaa.Mm
open Go.RowKit
set_option linter.unusedVariables false
set_option linter.unusedSimpArgs false
theorem take_chunk {l m : List Int} {k : Nat} (h : l.take (k * 512) = m.take (k * 512)) (e : (l.drop (k * 512)).take 512 = (m.drop (k * 512)).take 512) : l.take ((k + 1) * 512) = m.take ((k + 1) * 512) := by
  rw [show (k + 1) * 512 = k * 512 + 512 from by omega, List.take_add, List.take_add, h, e]
theorem RdX.table {w : World} {v : Value} {n : Nat} {F : List Int} (h : RdX w 512 v n (u64V F)) {k : Nat} (hk : k < n) :
    ∃ g off c, v = .slice (some ⟨g, off, none⟩) n c ∧ n ≤ c ∧ c ≤ maxLen ∧ g < w.heap.size ∧ w.rangeAt g (off + k * 512) (((F.drop (k * 512)).take 512).map (Value.int .u64)) ∧ ((F.drop (k * 512)).take 512).length = 512 := by
  obtain ⟨hl, A, c, rfl, hc, hm, hr⟩ := h
  obtain ⟨g, off, rfl, hlt, hx⟩ := hr (by omega)
  have hF : F.length = n * 512 := by simpa [u64V] using hl
  refine ⟨g, off, c, rfl, hc, hm, hlt, fun j u hj => ?_, by rw [List.length_take, List.length_drop]; omega⟩
  rw [Nat.add_assoc]
  refine hx _ _ ?_
  unfold u64V
  rw [List.getElem?_map, List.getElem?_take, List.getElem?_drop] at hj
  split at hj
  · rw [List.getElem?_map]; exact hj
  · cases hj
theorem quiet_load_mid {P : Program} {o : Oper} {a : Act} {C : World → Prop} {K : Act → Prop} (ty : TypeId) (x : Operand) (ho : o.op = .load ty x)
    (b off : Nat) (hx : a.eval x = .pointer (some ⟨b, off, none⟩)) (cs : List Value) (d : TypeDesc) (hc : ∀ w, C w → w.rangeAt b off cs)
    (hu : P.underlying ty = some d) (hd : d.isRow = true) (hi : (P.info? ty).map (·.size) = some cs.length) (hk : K (a.put o.dst (.agg cs.toArray))) : o.quiet P a C K :=
  ⟨_, fun w hw => by
    unfold Oper.quietAt execOp
    simp only [ho, hx, Instr.loadAt, Instr.sureAddr, Sem.run_bind, Sem.run_pure, Result.andThen_ok, run_loadVar_mid w b off ty cs d (hc w hw) hu hd hi]
    exact ⟨rfl, rfl⟩, hk⟩
theorem info512 {l : List Int} (h : l.length = 512) : (Try.prog.info? 24).map (·.size) = some (l.map (Value.int .u64)).length := by
  rw [List.length_map, h]; kernel_rfl
set_option maxHeartbeats 4000000 in
set_option maxRecDepth 100000 in
theorem sameT_any (v1 v2 : Value) (n m : Nat) (l1 l2 : List Int) (w : World) (h1 : RdX w 512 v1 n (u64V l1)) (h2 : RdX w 512 v2 m (u64V l2)) :
    Calls Try.prog 27 #[v1, v2] w (fun e w' => e = .returned (.bool (decide (l1 = l2))) ∧ ∃ j, w' = w.drewN j) := by
  have hh1 := Lib.hid h1
  have hh2 := Lib.hid h2
  obtain ⟨hlen1, A1, c1, rfl, hc1, hm1, hr1⟩ := h1
  obtain ⟨hlen2, A2, c2, rfl, hc2, hm2, hr2⟩ := h2
  have hln1 : l1.length = n * 512 := by simpa [u64V] using hlen1
  have hln2 : l2.length = m * 512 := by simpa [u64V] using hlen2
  have hm1' : n ≤ 9223372036854775807 := by unfold maxLen at hm1; omega
  clear hr1 hr2 hm1 hm2 hlen1 hlen2
  by_cases hnm : n = m
  · subst hnm
    have hL := Lib.hid (And.intro hln1 hln2)
    clear hln1 hln2
    go_enter Try.func27, Try.ntmps27
    go_wp2
    go_loopg [5] (n + 1) (fun g1 v5 wr => ∃ k : Nat, k + g1 = n + 1 ∧ k ≤ n ∧ v5 = .int .i64 k ∧ (∃ j, wr = w.drewN j) ∧ Hid (l1.take (k * 512) = l2.take (k * 512)))
    case atStart => exact ⟨0, by omega, by omega, rfl, ⟨0, rfl⟩, by show _ = _; simp⟩
    case round =>
      obtain ⟨k, hk, hkn, rfl, ⟨j, rfl⟩, hs⟩ := hrel
      by_cases hlt : k < n
      · obtain ⟨gb, off, c1', e1, _, _, _, hra', hla⟩ := RdX.table (hh1.out.below (below_drewN (Below.refl _ _) j)) hlt
        obtain ⟨gb2, off2, c2', e2, _, _, _, hrb', hlb⟩ := RdX.table (hh2.out.below (below_drewN (Below.refl _ _) j)) hlt
        cases e1
        cases e2
        have hltI : (k : Int) < (n : Int) := by omega
        have hstep := Lib.hid (take_chunk hs.out)
        have hneq := tab_neq _ _ hla hlb
        have hin1 := Lib.hid (info512 hla)
        have hin2 := Lib.hid (info512 hlb)
        have hguard := tab_guard
        have hund := Lib.hid Try.underlying24
        have hdiff : Hid (l1 = l2 → (l1.drop (k * 512)).take 512 = (l2.drop (k * 512)).take 512) := fun h => by rw [h]
        clear hla hlb
        generalize (l1.drop (k * 512)).take 512 = x at *
        generalize (l2.drop (k * 512)).take 512 = y at *
        generalize hW : w.drewN j = wr at *
        have hW' := Lib.hid hW
        clear hW
        have hra : Hid (∀ W, (∃ n, W = wr.drewN n) → W.rangeAt gb (off + k * 512) (x.map (Value.int .u64))) := by
          rintro W ⟨n9, rfl⟩ i u hi; exact hra' i u hi
        have hrb : Hid (∀ W, (∃ n, W = wr.drewN n) → W.rangeAt gb2 (off2 + k * 512) (y.map (Value.int .u64))) := by
          rintro W ⟨n9, rfl⟩ i u hi; exact hrb' i u hi
        clear hra' hrb'
        by_cases hxy : x = y
        · rw [decide_eq_true hxy] at hneq
          have hs2 := Lib.hid (hstep.out hxy)
          clear hxy hstep hs hdiff
          go_wp2
          refine wp_region_quiet_lit (by kernel_rfl) (by kernel_rfl) ?_
          repeat (quiet_step (fail))
          refine wpQuiet_step (fun K hK => ?_)
          rw [if_pos (by rfl)]
          refine quiet_load_mid _ _ rfl gb (off + k * 512) rfl _ _ hra.out hund.out rfl hin1.out (hK _ ?_)
          clear hK K
          (try simp only [Act.put, List.setIfInBounds_toArray, List.set_cons_zero, List.set_cons_succ])
          repeat (quiet_step (fail))
          refine wpQuiet_step (fun K hK => ?_)
          rw [if_pos (by rfl)]
          refine quiet_load_mid _ _ rfl gb2 (off2 + k * 512) rfl _ _ hrb.out hund.out rfl hin2.out (hK _ ?_)
          clear hK K
          (try simp only [Act.put, List.setIfInBounds_toArray, List.set_cons_zero, List.set_cons_succ])
          repeat (quiet_step (fail))
          refine wpQuiet_nil ?_
          intro _ hw'
          obtain ⟨nq, hw''⟩ := hw'
          subst hw''
          go_wp2
          go_roundg (n - k)
          case rel => exact ⟨k + 1, by omega, by omega, by simp, by rw [← hW'.out]; exact ⟨_, World.drewN_drewN _ _ _⟩, hs2⟩
          case measure => omega
        · rw [decide_eq_false hxy] at hneq
          have hne : Hid (l1 ≠ l2) := fun h => hxy (hdiff.out h)
          clear hxy hstep hs hdiff
          go_wp2
          refine wp_region_quiet_lit (by kernel_rfl) (by kernel_rfl) ?_
          repeat (quiet_step (fail))
          refine wpQuiet_step (fun K hK => ?_)
          rw [if_pos (by rfl)]
          refine quiet_load_mid _ _ rfl gb (off + k * 512) rfl _ _ hra.out hund.out rfl hin1.out (hK _ ?_)
          clear hK K
          (try simp only [Act.put, List.setIfInBounds_toArray, List.set_cons_zero, List.set_cons_succ])
          repeat (quiet_step (fail))
          refine wpQuiet_step (fun K hK => ?_)
          rw [if_pos (by rfl)]
          refine quiet_load_mid _ _ rfl gb2 (off2 + k * 512) rfl _ _ hrb.out hund.out rfl hin2.out (hK _ ?_)
          clear hK K
          (try simp only [Act.put, List.setIfInBounds_toArray, List.set_cons_zero, List.set_cons_succ])
          repeat (quiet_step (fail))
          refine wpQuiet_nil ?_
          intro _ hw'
          obtain ⟨nq, hw''⟩ := hw'
          subst hw''
          go_wp2
          go_returns
          exact ⟨by rw [decide_eq_false hne.out]; rfl, by rw [← hW'.out]; exact ⟨_, World.drewN_drewN _ _ _⟩⟩
      · obtain rfl : k = n := by omega
        have heq : Hid (l1 = l2) := by
          have h := hs.out
          have h1 := hL.out
          rwa [List.take_of_length_le (by omega), List.take_of_length_le (by omega)] at h
        go_wp2
        go_returns
        exact ⟨by rw [decide_eq_true heq.out]; rfl, ⟨_, rfl⟩⟩
  · have hnmI : ((n : Int) != (m : Int)) = true := by simp; omega
    have hne : Hid (l1 ≠ l2) := by rintro rfl; omega
    clear hnm hln1 hln2
    go_enter Try.func27, Try.ntmps27
    go_wp2
    go_returns
    exact ⟨by rw [decide_eq_false hne.out]; rfl, ⟨0, rfl⟩⟩
theorem take_step {α : Type} {l m : List α} {k : Nat} {x y : α} (h : l.take k = m.take k) (hx : l[k]? = some x) (hy : m[k]? = some y) (e : x = y) : l.take (k + 1) = m.take (k + 1) := by
  rw [List.take_add_one, List.take_add_one, h, hx, hy, e]
set_option maxHeartbeats 4000000 in
set_option maxRecDepth 100000 in
theorem sameL_any (v1 v2 : Value) (n m : Nat) (l1 l2 : List Lf) (w : World) (h1 : RdX w 6 v1 n (lfV l1)) (h2 : RdX w 6 v2 m (lfV l2)) :
    Calls Try.prog 28 #[v1, v2] w (fun e w' => e = .returned (.bool (decide (l1 = l2))) ∧ ∃ j, w' = w.drewN j) := by
  have hh1 := Lib.hid h1
  have hh2 := Lib.hid h2
  obtain ⟨hlen1, A1, c1, rfl, hc1, hm1, hr1⟩ := h1
  obtain ⟨hlen2, A2, c2, rfl, hc2, hm2, hr2⟩ := h2
  have hln1 : l1.length = n := by rw [lfV_length] at hlen1; omega
  have hln2 : l2.length = m := by rw [lfV_length] at hlen2; omega
  have hm1' : n ≤ 9223372036854775807 := by unfold maxLen at hm1; omega
  have hguard := guardLf
  clear hr1 hr2 hm1 hm2 hlen1 hlen2
  by_cases hnm : n = m
  · subst hnm
    have hL := Lib.hid (And.intro hln1 hln2)
    clear hln1 hln2
    go_enter Try.func28, Try.ntmps28
    go_wp2
    go_loopg [5] (n + 1) (fun g1 v5 wr => ∃ k : Nat, k + g1 = n + 1 ∧ k ≤ n ∧ v5 = .int .i64 k ∧ (∃ j, wr = w.drewN j) ∧ Hid (l1.take k = l2.take k))
    case atStart => exact ⟨0, by omega, by omega, rfl, ⟨0, rfl⟩, by show _ = _; simp⟩
    case round =>
      obtain ⟨k, hk, hkn, rfl, ⟨j, rfl⟩, hs⟩ := hrel
      by_cases hlt : k < n
      · have hb : l1[k]? = some (l1[k]'(by have := hL.out.1; omega)) := List.getElem?_eq_getElem _
        have hb2 : l2[k]? = some (l2[k]'(by have := hL.out.2; omega)) := List.getElem?_eq_getElem _
        generalize l1[k]'(by have := hL.out.1; omega) = x at hb
        generalize l2[k]'(by have := hL.out.2; omega) = y at hb2
        obtain ⟨gb, off, c1', e1, _, _, _, hra⟩ := RdX.leaf (hh1.out.below (below_drewN (Below.refl _ _) j)) hb hlt
        obtain ⟨gb2, off2, c2', e2, _, _, _, hrb⟩ := RdX.leaf (hh2.out.below (below_drewN (Below.refl _ _) j)) hb2 hlt
        cases e1
        cases e2
        obtain ⟨a0, a1, a2, a3, a4, a5⟩ := hra
        obtain ⟨d0, d1, d2, d3, d4, d5⟩ := hrb
        have hltI : (k : Int) < (n : Int) := by omega
        have hbs := Lib.hid (And.intro hb hb2)
        have hneq := fun W => neqLf x y W
        simp only [Lf.val] at hneq
        clear hb hb2
        generalize hW : w.drewN j = wr at *
        have hW' := Lib.hid hW
        clear hW
        by_cases hxy : x = y
        · rw [decide_eq_true hxy] at hneq
          have hs2 := Lib.hid (take_step hs.out hbs.out.1 hbs.out.2 hxy)
          clear hxy hs hbs
          go_wp2
          go_quiet (fail)
          go_wp2
          go_roundg (n - k)
          case rel => exact ⟨k + 1, by omega, by omega, by simp, by rw [← hW'.out]; exact ⟨_, World.drewN_drewN _ _ _⟩, hs2⟩
          case measure => omega
        · rw [decide_eq_false hxy] at hneq
          have hne : Hid (l1 ≠ l2) := by
            rintro rfl
            have := hbs.out
            rw [this.1] at this
            exact hxy (Option.some.inj this.2)
          clear hxy hs hbs
          go_wp2
          go_quiet (fail)
          go_wp2
          go_returns
          exact ⟨by rw [decide_eq_false hne.out]; rfl, by rw [← hW'.out]; exact ⟨_, World.drewN_drewN _ _ _⟩⟩
      · obtain rfl : k = n := by omega
        have heq : Hid (l1 = l2) := by
          have h := hs.out
          have h1 := hL.out
          rwa [List.take_of_length_le (by omega), List.take_of_length_le (by omega)] at h
        go_wp2
        go_returns
        exact ⟨by rw [decide_eq_true heq.out]; rfl, ⟨_, rfl⟩⟩
  · have hnmI : ((n : Int) != (m : Int)) = true := by simp; omega
    have hne : Hid (l1 ≠ l2) := by rintro rfl; omega
    clear hnm hln1 hln2
    go_enter Try.func28, Try.ntmps28
    go_wp2
    go_returns
    exact ⟨by rw [decide_eq_false hne.out]; rfl, ⟨0, rfl⟩⟩
end Go.Proofs.Ytaogndianciogaa.Mm
