/- bulkheadlaw12.asked. -/
import Derived.Test.YtaogndianciogaaBook2
import Derived.Test.YtaogndianciogaaMroom
import Derived.Test.YtaogndianciogaaRRuns
import Derived.Test.YtaogndianciogaaBuildB
namespace Go.Proofs.Ytaogndianciogaa.Mm
open Go.RowKit
set_option linter.unusedVariables false
set_option linter.unusedSimpArgs false
def cB : Except Int Bp → Int | .error c => c | .ok _ => 0
def mB : Except Int Bp → Nat | .error _ => 0 | .ok s => s.m
def FB : Except Int Bp → List Int | .error _ => [] | .ok s => s.F
theorem build_row {B : Nat} {w' : World} {e : Ending} {r : Except Int Bp} (h : BuildPost B w' e r) : ∃ va, e = .returned (.tuple #[va, .int .i64 (cB r)]) ∧ w'.ownsRow B 24 512 va (mB r) (u64V (FB r)) := by
  cases r with
  | error c => exact ⟨_, h, World.ownsRow_nil _ _ _ _⟩
  | ok s => exact h
theorem mB_le {base : Int} (hb0 : 0 ≤ base) {l : List Lf} (hok : ∀ x ∈ l, x.ok) : mB (tablesP base l) ≤ 1024 := by
  obtain ⟨h1, h2⟩ := tablesP_ref hb0 hok
  by_cases hc : (countR l).2 = 0
  · obtain ⟨_, hm, _, _, h3, h4, h5⟩ := h2 hc
    by_cases hb : base % 4096 = 0
    · by_cases hf : fitsP base (tabsP l).length 4294967296
      · obtain ⟨s, k1, k2, _⟩ := h5 hb hf
        rw [k1]
        show s.m ≤ 1024
        omega
      · rw [h4 hb hf]; exact Nat.zero_le _
    · rw [h3 hb]; exact Nat.zero_le _
  · rw [h1 hc]; exact Nat.zero_le _
theorem runsP_len (l : List Lf) : (runsP l).length ≤ l.length := by
  have key : ∀ (l out : List Lf), (l.foldl joinP out).length ≤ out.length + l.length := by
    intro l
    induction l with
    | nil => intro out; simp
    | cons x r ih =>
      intro out
      have h := ih (joinP out x)
      have hj := joinP_len (out := out) (x := x)
      simp only [List.foldl_cons, List.length_cons]
      omega
  have h := key l []
  simpa [runsP] using h
def mkR : Lf := ⟨0, 0, -7, false, false, false⟩
/-- Roomy's row and its beginning, as slices -/
theorem room_full {w : World} {g n : Nat} {l : List Lf} {m : Lf} (hl : l.length = n) (hn : n ≤ 20000) (hg : w.heap[g]? = some (.cells (lfV (roomL l m 80)).toArray 47 (0, 0))) :
    RdX w 6 (.slice (some ⟨g, 0, none⟩) (n + 80) (n + 80)) (n + 80) (lfV (roomL l m 80)) ∧ RdX w 6 (.slice (some ⟨g, 0, none⟩) n (n + 80)) n (lfV l) := by
  have hm : n + 80 ≤ maxLen := by unfold maxLen; omega
  have hx : ∀ (i : Nat) x, (lfV (roomL l m 80))[i]? = some x → w.cell? ⟨g, 0 + i, none⟩ = some x := fun i x hi => by
    rw [Nat.zero_add]
    exact (cell_of_row w g i _ _ _ hg).trans (by simpa using hi)
  refine ⟨⟨by rw [lfV_length, roomL_len l m (Nat.le_refl _), hl], _, _, rfl, Nat.le_refl _, hm, fun _ => ⟨g, 0, rfl, lt_of_block hg, hx⟩⟩, ⟨by rw [lfV_length, hl], _, _, rfl, by omega, hm, fun _ => ⟨g, 0, rfl, lt_of_block hg, fun i x hi => hx i x ?_⟩⟩⟩
  have hlt : i < (lfV l).length := (List.getElem?_eq_some_iff.1 hi).1
  unfold roomL
  rw [lfV_append, lfV_append, List.append_assoc, List.getElem?_append_left hlt]
  exact hi
theorem room_eq (l : List Lf) (m : Lf) : roomL l m 80 = l ++ List.replicate 80 m := by unfold roomL; simp
set_option maxHeartbeats 8000000 in
set_option maxRecDepth 100000 in
theorem asked_any (B bt bl : Nat) (v : Value) (n : Nat) (l : List Lf) (hok : ∀ x ∈ l, x.ok) (hn : n ≤ 20000) (base : Int) (hb0 : 0 ≤ base) (hb1 : base < 18446744073709551616) (w : World) (hB : B ≤ w.heap.size)
    (hrd : ∀ w', Still B w w' → RdX w' 6 v n (lfV l)) (h1 : OneT w B bt w.heap.size) (h2 : OneL w B bl w.heap.size) :
    Calls Try.prog 18 #[v, .int .u64 base, .pointer (some ⟨bt, 0, none⟩), .pointer (some ⟨bl, 0, none⟩)] w
      (fun e w' => e = .returned (.bool true) ∧ OneT w' B bt w'.heap.size ∧ OneL w' B bl w'.heap.size ∧ Still B w w') := by
  have hln : l.length = n := by have := (hrd w (Still.refl _ _)).1; rw [lfV_length] at this; omega
  obtain ⟨A, c, rfl, hcm⟩ : ∃ A c, v = .slice A n c ∧ c ≤ 9223372036854775807 := by
    obtain ⟨_, A, c, e, h1, hm, _⟩ := hrd w (Still.refl _ _)
    exact ⟨A, c, e, by unfold maxLen at hm; omega⟩
  have hrd' := Lib.hid hrd
  have hok' := Lib.hid hok
  have hone1 := Lib.hid h1
  have hone2 := Lib.hid h2
  have hroom : Hid (Calls Try.prog 37 #[.slice A n c, .agg #[.int .u64 0, .int .u64 0, .int .i64 (-7), .bool false, .bool false, .bool false]] w (fun e w' => ∃ g, e = .returned (.slice (some ⟨g, 0, none⟩) (n + 80) (n + 80)) ∧ w.heap.size ≤ g ∧ w'.heap[g]? = some (.cells (lfV (roomL l mkR 80)).toArray 47 (0, 0)) ∧ Below w.heap.size w w')) :=
    roomyL_any _ n l mkR (by omega) w (hrd w (Still.refl _ _))
  have hcnt : Hid (∀ w1, Still B w w1 → Calls Try.prog 38 #[.slice A n c] w1 (fun e w' => e = .returned (.tuple #[.int .i64 (countR l).1, .int .i64 (countR l).2]) ∧ Below w1.heap.size w1 w')) := fun w1 h => rcount_any _ n l hok w1 (hrd w1 h)
  have hbld : Hid (∀ w1, Still B w w1 → Calls Try.prog 39 #[.slice A n c, .int .u64 base] w1 (fun e w' => BuildPost w1.heap.size w' e (tablesP base l) ∧ Below w1.heap.size w1 w')) := fun w1 h => rbuild_any _ n l hok base hb0 hb1 w1 (hrd w1 h)
  have hrun : Hid (∀ w1, Still B w w1 → Calls Try.prog 40 #[.slice A n c] w1 (fun e w' => ∃ v', e = .returned v' ∧ w'.ownsRow w1.heap.size 47 6 v' (if rightP 0 l = 0 then (runsP l).length else 0) (lfV (if rightP 0 l = 0 then runsP l else [])) ∧ Below w1.heap.size w1 w')) := fun w1 h => rruns_any _ n l hok (by omega) w1 (hrd w1 h)
  have hpc : Hid (∀ V w1, RdX w1 6 V n (lfV l) → Calls Try.prog 17 #[V] w1 (fun e w' => e = .returned (.tuple #[.int .i64 (countR l).1, .int .i64 (countR l).2]) ∧ Below w1.heap.size w1 w')) := fun V w1 h => count_both V n l hok w1 h
  have hpb : Hid (∀ V w1, RdX w1 6 V n (lfV l) → Calls Try.prog 16 #[V, .int .u64 base] w1 (fun e w' => BuildPost w1.heap.size w' e (tablesP base l) ∧ Below w1.heap.size w1 w')) := fun V w1 h => Build_any V n l hok base hb0 hb1 w1 h
  have hpr : Hid (∀ V w1, RdX w1 6 V n (lfV l) → Calls Try.prog 26 #[V] w1 (fun e w' => ∃ v', e = .returned v' ∧ w'.ownsRow w1.heap.size 47 6 v' (if rightP 0 l = 0 then (runsP l).length else 0) (lfV (if rightP 0 l = 0 then runsP l else [])) ∧ Below w1.heap.size w1 w')) := fun V w1 h => runs_any V n l hok (by omega) w1 h
  have hmB : Hid (mB (tablesP base l) ≤ 1024) := mB_le hb0 hok
  have hrn : Hid ((if rightP 0 l = 0 then (runsP l).length else 0) ≤ 20000) := by
    show _ ≤ _
    split
    · have := runsP_len l; omega
    · omega
  clear hok hrd h1 h2
  generalize (if rightP 0 l = 0 then (runsP l).length else 0) = rn at *
  generalize (if rightP 0 l = 0 then runsP l else []) = RL at *
  generalize tablesP base l = TP at *
  generalize (countR l).1 = C1 at *
  generalize (countR l).2 = C2 at *
  go_enter Try.func18, Try.ntmps18
  go_upto_region 7 with (first
    | (go_at_call 37; refine hroom.out.mono ?_; rintro en w1 ⟨g, rfl, hBg, hg1', hb1'⟩
       have hst1 : Hid (Still B w w1) := Still.below hB hb1'
       have hg1 := Lib.hid hg1'
       have hone3 : Hid (OneT w1 B bt w.heap.size) := hone1.out.below hb1'
       have hone4 : Hid (OneL w1 B bl w.heap.size) := hone2.out.below hb1'
       have hB1 : B ≤ w1.heap.size := Nat.le_trans hB hb1'.size
       clear hg1' hb1')
    | (go_at_call 38; refine (hcnt.out w1 hst1.out).mono ?_; rintro en w2 ⟨rfl, hb2'⟩
       have hb2 := Lib.hid hb2'
       have hst2 : Hid (Still B w w2) := hst1.out.trans (Still.below hB1 hb2')
       have hB2 : B ≤ w2.heap.size := Nat.le_trans hB1 hb2'.size
       clear hb2')
    | (go_at_call 39; refine (hbld.out w2 hst2.out).mono ?_; rintro en w3 ⟨hp3, hb3'⟩
       obtain ⟨va3, rfl, hwant'⟩ := build_row hp3
       have hwant := Lib.hid (RdC.of_own hwant')
       have hb3 := Lib.hid hb3'
       have hst3 : Hid (Still B w w3) := hst2.out.trans (Still.below hB2 hb3')
       have hB3 : B ≤ w3.heap.size := Nat.le_trans hB2 hb3'.size
       clear hp3 hwant' hb3')
    | (go_at_call 40; refine (hrun.out w3 hst3.out).mono ?_; rintro en w4 ⟨va4, rfl, hruns', hb4'⟩
       have hruns := Lib.hid (RdC.of_own hruns')
       have hb4 := Lib.hid hb4'
       have hst4 : Hid (Still B w w4) := hst3.out.trans (Still.below hB3 hb4')
       have hB4 : B ≤ w4.heap.size := Nat.le_trans hB3 hb4'.size
       clear hruns' hb4'))
  have hlt1 : g < w1.heap.size := lt_of_block hg1.out
  have hg4 : Hid (w4.heap[g]? = some (.cells (lfV (roomL l mkR 80)).toArray 47 (0, 0))) :=
    (hb4.out.block g (by have := hb2.out.size; have := hb3.out.size; omega)).trans ((hb3.out.block g (by have := hb2.out.size; omega)).trans ((hb2.out.block g hlt1).trans hg1.out))
  have hwant4 : Hid (RdC w4 24 512 va3 (mB TP) (u64V (FB TP))) := hwant.out.keep fun k cs hk => hb4.out.block k (lt_of_block hk)
  have hone5 : Hid (OneT w4 B bt w4.heap.size) := (((hone3.out.below hb2.out).below hb3.out).below hb4.out).grow
  have hone6 : Hid (OneL w4 B bl w4.heap.size) := (((hone4.out.below hb2.out).below hb3.out).below hb4.out).grow
  obtain ⟨A3, k3, rfl⟩ : ∃ A c, va3 = .slice A (mB TP) c := by
    obtain ⟨_, A, c, e, _⟩ := hwant4.out
    exact ⟨A, c, e⟩
  obtain ⟨A4, k4, rfl⟩ : ∃ A c, va4 = .slice A rn c := by
    obtain ⟨_, A, c, e, _⟩ := hruns.out
    exact ⟨A, c, e⟩
  clear hg1 hone1 hone2 hone3 hone4 hst1 hst2 hst3 hb2 hb3 hb4 hwant hroom hcnt hbld hrun hlt1 hB1 hB2 hB3
  clear w1 w2 w3
  go_loopg [16] 3 (fun g1 v16 wr => ∃ i : Nat, i + g1 = 3 ∧ i ≤ 2 ∧ v16 = .int .i64 i ∧ Hid (Still B w wr) ∧ Hid (OneT wr B bt wr.heap.size) ∧ Hid (OneL wr B bl wr.heap.size) ∧ Hid (wr.heap[g]? = some (.cells (lfV (roomL l mkR 80)).toArray 47 (0, 0))) ∧ Hid (RdC wr 24 512 (.slice A3 (mB TP) k3) (mB TP) (u64V (FB TP))) ∧ Hid (RdC wr 47 6 (.slice A4 rn k4) rn (lfV RL)) ∧ Hid (B ≤ wr.heap.size))
  case atStart => exact ⟨0, by omega, by omega, rfl, hst4, hone5, hone6, hg4, hwant4, hruns, hB4⟩
  case round =>
    clear hst4 hone5 hone6 hg4 hwant4 hruns hB4
    clear w4
    obtain ⟨i, hi, hi2, rfl, hst, hoT, hoL, hg, hwant, hruns, hBr⟩ := hrel
    by_cases hlt : i < 2
    · have hltI : (i : Int) < 2 := by omega
      have hin := Lib.hid (room_full hln hn hg.out)
      go_wp2_with (first
        | (go_at_call 17; refine (hpc.out _ wr hin.out.2).mono ?_; rintro en w5 ⟨rfl, hb5'⟩
           have hb5 := Lib.hid hb5'
           clear hb5')
        | (go_at_call 16; refine (hpb.out _ w5 (hin.out.2.below hb5.out)).mono ?_; rintro en w6 ⟨hp6, hb6'⟩
           obtain ⟨va6, rfl, hown6'⟩ := build_row hp6
           have hown6 := Lib.hid (own_weak hown6' hb5.out.size)
           have hb6 : Hid (Below wr.heap.size wr w6) := hb5.out.trans (hb6'.mono hb5.out.size)
           clear hp6 hb6' hown6')
        | (go_at_call 26; refine (hpr.out _ w6 (hin.out.2.below hb6.out)).mono ?_; rintro en w7 ⟨va7, rfl, hown7', hb7'⟩
           have hown7 := Lib.hid (own_weak hown7' hb6.out.size)
           have hown67 : Hid (w7.ownsRow wr.heap.size 24 512 va6 (mB TP) (u64V (FB TP))) := Tb.own_keep hown6.out fun k cs hk => hb7'.block k (lt_of_block hk)
           have hb7 : Hid (Below wr.heap.size wr w7) := hb6.out.trans (hb7'.mono hb6.out.size)
           have hs7 : Hid (Calls Try.prog 27 #[va6, .slice A3 (mB TP) k3] w7 (fun e w' => e = .returned (.bool true) ∧ ∃ j, w' = w7.drewN j)) := by
             have h9 := sameT_any va6 (.slice A3 (mB TP) k3) (mB TP) (mB TP) (FB TP) (FB TP) w7 (RdC.of_own hown67.out).weak (hwant.out.weak.below hb7.out)
             rwa [decide_eq_true rfl] at h9
           have hs8 : Hid (∀ j, Calls Try.prog 28 #[va7, .slice A4 rn k4] (w7.drewN j) (fun e w' => e = .returned (.bool true) ∧ ∃ j2, w' = (w7.drewN j).drewN j2)) := fun j => by
             have h9 := sameL_any va7 (.slice A4 rn k4) rn rn RL RL (w7.drewN j) ((RdC.of_own hown7.out).weak.below (below_drewN (Below.refl _ _) j)) (hruns.out.weak.below (below_drewN hb7.out j))
             rwa [decide_eq_true rfl] at h9
           clear hown7' hb7' hown6)
        | (go_at_call 27; refine hs7.out.mono ?_; rintro en w8 ⟨rfl, j1, hw8⟩; subst w8)
        | (go_at_call 28; refine (hs8.out j1).mono ?_; rintro en w9 ⟨rfl, j2, hw9⟩; subst w9
           have hb9 : Hid (Below wr.heap.size wr (w7.drewN (j1 + j2))) := below_drewN hb7.out (j1 + j2)
           have hint : Hid (Calls Try.prog 41 #[.slice (some ⟨g, 0, none⟩) (n + 80) (n + 80), .slice A n c, .agg #[.int .u64 0, .int .u64 0, .int .i64 (-7), .bool false, .bool false, .bool false]] (w7.drewN (j1 + j2)) (fun e w' => e = .returned (.bool true) ∧ Below (w7.drewN (j1 + j2)).heap.size (w7.drewN (j1 + j2)) w')) :=
             intactL_any _ _ n (n + 80) (roomL l mkR 80) l mkR (by omega) _ (hin.out.1.below hb9.out) (hrd'.out _ (hst.out.trans (Still.below hBr.out hb9.out))) (room_eq l mkR))
        | (go_at_call 41; refine hint.out.mono ?_; rintro en w10 ⟨rfl, hb10'⟩
           have hb10 : Hid (Below wr.heap.size wr w10) := hb9.out.trans (hb10'.mono hb9.out.size)
           have hb710 : Hid (Below w7.heap.size w7 w10) := (below_drewN (Below.refl _ _) (j1 + j2)).trans hb10'
           have hown6 : Hid (w10.ownsRow wr.heap.size 24 512 va6 (mB TP) (u64V (FB TP))) := Tb.own_keep hown67.out fun k cs hk => hb710.out.block k (lt_of_block hk)
           have hown8 : Hid (w10.ownsRow wr.heap.size 47 6 va7 rn (lfV RL)) := Tb.own_keep hown7.out fun k cs hk => hb710.out.block k (lt_of_block hk)
           have hk1 := Lib.hid (keepT_one B bt wr.heap.size va6 (mB TP) (FB TP) w10 (hoT.out.below hb10.out) hown6.out (by have := hmB.out; omega) hBr.out hb10.out.size)
           clear hb10' hb710)
        | (go_at_call 42; refine hk1.out.mono ?_; rintro en w11 ⟨rfl, hT11', hs11', hf11'⟩
           have hT11 := Lib.hid hT11'
           have hs11 := Lib.hid hs11'
           have hown9 : Hid (w11.ownsRow wr.heap.size 47 6 va7 rn (lfV RL)) := Tb.own_keep hown8.out fun k cs hk => hs11'.leaf k cs hk
           have hoL11 : OneL w11 B bl wr.heap.size := (hoL.out.below hb10.out).far fun k cs T hk hT => hf11' k cs T hk (by rcases hT with rfl | rfl | rfl <;> decide) (by rcases hT with rfl | rfl | rfl <;> decide)
           have hk2 := Lib.hid (keepL_one B bl wr.heap.size va7 rn RL w11 hoL11 hown9.out (by have := hrn.out; omega) hBr.out (Nat.le_trans hb10.out.size hs11'.size))
           clear hT11' hs11' hf11' hoL11)
        | (go_at_call 43; refine hk2.out.mono ?_; rintro en w12 ⟨rfl, hL12', hs12', hf12'⟩
           have hL12 := Lib.hid hL12'
           have hs10 : Still B wr w12 := ((Still.below hBr.out hb10.out).trans hs11.out).trans hs12'
           have hT12 : Hid (OneT w12 B bt w12.heap.size) := (hT11.out.far fun k cs T hk hT => hf12' k cs T hk (by rcases hT with rfl | rfl | rfl <;> decide) (by rcases hT with rfl | rfl | rfl <;> decide)).grow
           have hst12 : Hid (Still B w w12) := hst.out.trans hs10
           have hg12 : Hid (w12.heap[g]? = some (.cells (lfV (roomL l mkR 80)).toArray 47 (0, 0))) := (hs10.leaf g _ hg.out).trans hg.out
           have hw12 : Hid (RdC w12 24 512 (.slice A3 (mB TP) k3) (mB TP) (u64V (FB TP))) := hwant.out.keep fun k cs hk => hs10.tab k cs hk
           have hr12 : Hid (RdC w12 47 6 (.slice A4 rn k4) rn (lfV RL)) := hruns.out.keep fun k cs hk => hs10.leaf k cs hk
           have hB12 : Hid (B ≤ w12.heap.size) := Nat.le_trans hBr.out hs10.size
           clear hL12' hs12' hf12' hs10))
      go_roundg (2 - i)
      case rel => exact ⟨i + 1, by omega, by omega, by simp, hst12, hT12, hL12, hg12, hw12, hr12, hB12⟩
      case measure => omega
    · obtain rfl : i = 2 := by omega
      go_wp2
      go_returns
      exact ⟨rfl, hoT.out, hoL.out, hst.out⟩
end Go.Proofs.Ytaogndianciogaa.Mm
