/- walk.Make returns makeA, for every entry whose frame is a uint64, in whatever order its map is ranged over. -/
import Derived.Test.YtaogndianciogaaMakAL
import Derived.Lib.Hide
namespace Go.Proofs.Ytaogndianciogaa
open Go.RowKit Go.Maps
set_option linter.unusedSimpArgs false
set_option linter.unusedVariables false
theorem bcell' {B : Nat} {W w1 : World} (hb : Below B W w1) : ∀ k o, k < B → w1.cell? ⟨k, o, none⟩ = W.cell? ⟨k, o, none⟩ :=
  fun k o h => hb.cell (p := ⟨k, o, none⟩) h
/-- what the program's Make computes -/
def makeA (x : Ent) (level : Int) : Int × Int :=
  if level < 0 ∨ 3 ≤ level then (0, 1)
  else if (entryB (flags x.frame x.write x.exec x.big) level).2 ≠ 0 ∨ (entryB (flags x.frame x.write x.exec x.big) level).1 ≠ x then (0, 42)
  else (flags x.frame x.write x.exec x.big, 0)
set_option maxHeartbeats 4000000 in
set_option maxRecDepth 100000 in
theorem make_any (x : Ent) (level : Int) (h0 : 0 ≤ x.frame) (h1 : x.frame < 18446744073709551616) (w : World) :
    Calls Try.prog 60 #[x.val, .int .i64 level] w fun en w' => en = .returned (.tuple #[.int .u64 (makeA x level).1, .int .i64 (makeA x level).2]) ∧ Below w.heap.size w w' := by
  obtain ⟨f, t, b, r, e⟩ := x
  simp only at h0 h1
  have hm : Try.prog.eqGuardType Try.prog.depth 94 = false := by kernel_rfl
  have o1 := or_1 h0 h1
  have o2 := or_2 h0 h1
  have o4 := or_4 h0 h1
  have o8 := or_8 h0 h1
  have hl := flags_lt h0 h1 r e b
  have hfin : makeA ⟨f, t, b, r, e⟩ level = makeA ⟨f, t, b, r, e⟩ level := rfl
  conv at hfin => rhs; unfold makeA
  simp only at hfin
  have H := fun w => entry_calls (flags f r e b) level hl.1 hl.2 w
  clear hl h1
  generalize entryB (flags f r e b) level = E at *
  obtain ⟨⟨yf, yt, yb, yr, ye⟩, no⟩ := E
  have hneq := fun w => neqEnt ⟨yf, yt, yb, yr, ye⟩ ⟨f, t, b, r, e⟩ w
  simp only [Ent.val] at H hneq ⊢
  have H' := Lib.hid H; clear H
  simp only at hfin
  generalize makeA ⟨f, t, b, r, e⟩ level = M at *
  have hfin' := Lib.hid hfin; clear hfin
  by_cases hlv : level < 0 ∨ 3 ≤ level
  · go_enter Try.func60, Try.ntmps60
    go_wp2
    all_goals (go_tidy; go_ret2; exact ⟨by rw [hfin'.out, if_pos hlv]; rfl, (Below.refl _ _).alloc (Nat.le_refl _) _⟩)
  have hlv1 : 0 ≤ level := by omega
  have hlv2 : level < 3 := by omega
  clear hlv
  have hmm := @run_makeMap Try.prog
  have hown0 : ((w.alloc (.cells #[.int .u64 f, .bool t, .bool b, .bool r, .bool e] 94)).alloc (.map #[] 0)).ownsMap (H := Unit) Try.prog 22 (plainElem Try.prog 4) (w.heap.size + 1) 0 (.map []) := by
    have := World.ownsMap_made (H := Unit) (w.alloc (.cells #[.int .u64 f, .bool t, .bool b, .bool r, .bool e] 94)) Try.prog 22 (plainElem Try.prog 4)
    simpa using this
  have hown0' := Lib.hid hown0; clear hown0
  go_enter Try.func60, Try.ntmps60
  go_wp2_with (first
    | (refine wpList_insert_own (H := Unit) _ rfl (.tmp 20) (.const (.int .u64 2)) (.tmp 22) 118 rfl 22 4 lawU64 Try.underlying118 (plainElem Try.prog 4) (w.heap.size + 1) 0 _ rfl hown0'.out (by unfold maxLen; omega) _ (.bool r) K2 rfl rfl (keyOf_int_mk Try.underlying22 (by decide)) _ [] (plainElem_bool Try.underlying4 r) ?_; intro w1 hown1 hg1; have hB1 := ((Below.refl (w.heap.size + 1) _).grown hg1 (by simp) (by intro k' e'; cases e'; exact Nat.le_refl _)); have hc1 := bcell' hB1)
    | (refine wpList_insert_own (H := Unit) _ rfl (.tmp 20) (.const (.int .u64 4)) (.tmp 24) 118 rfl 22 4 lawU64 Try.underlying118 (plainElem Try.prog 4) (w.heap.size + 1) 1 _ rfl hown1 (by unfold maxLen; omega) _ (.bool e) K4 rfl rfl (keyOf_int_mk Try.underlying22 (by decide)) _ [] (plainElem_bool Try.underlying4 e) ?_; intro w2 hown2 hg2; have hB2 := ((Below.refl (w.heap.size + 1) _).grown hg2 (Nat.le_of_lt hown1.lt) (by intro k' e'; cases e'; exact Nat.le_refl _)); have hc2 := bcell' hB2)
    | (refine wpList_insert_own (H := Unit) _ rfl (.tmp 20) (.const (.int .u64 8)) (.tmp 26) 118 rfl 22 4 lawU64 Try.underlying118 (plainElem Try.prog 4) (w.heap.size + 1) 2 _ rfl hown2 (by unfold maxLen; omega) _ (.bool b) K8 rfl rfl (keyOf_int_mk Try.underlying22 (by decide)) _ [] (plainElem_bool Try.underlying4 b) ?_; intro w3 hown3 hg3; have hB3 := ((Below.refl (w.heap.size + 1) _).grown hg3 (Nat.le_of_lt hown2.lt) (by intro k' e'; cases e'; exact Nat.le_refl _)); have hc3 := bcell' hB3)
    | (at_range; refine wpList_range_own (H := Unit) _ rfl _ 118 rfl 22 4 lawU64 Try.underlying118 _ (w.heap.size + 1) 3 (mk3 r e b) rfl hown3 ?_; intro w4 hrg4 hg4 hs4)
    | fail)
  go_frame
  have HB : Below (w.heap.size + 1) (w.alloc (.cells #[.int .u64 f, .bool t, .bool b, .bool r, .bool e] 94)) w4 :=
    ((((Below.refl _ _).alloc (by simp) (.map #[] 0)).trans hB1).trans (hB2.trans hB3)).grown hg4 (Nat.le_of_lt hown3.lt) (by intro k' e'; cases e')
  have hRlt := hrg4.lt
  have hne : w.heap.size + 1 < w3.heap.size := hown3.lt
  clear hB1 hB2 hB3 hg1 hg2 hg3 hg4 hown1 hown2 hown3 hown0' hs4 hc1 hc2 hc3
  generalize w3.heap.size = R at *
  clear w3 w2 w1
  go_loopw [6] (fun v wr => ∃ left cnt, wr.ranges Try.prog 22 (plainElem Try.prog 4) (w.heap.size + 1) R 3 (mk3 r e b) left cnt ∧ (∀ kl, left kl = true → kl = K2 ∨ kl = K4 ∨ kl = K8) ∧ v = .int .u64 (flags f (r && !left K2) (e && !left K4) (b && !left K8)) ∧ Below (w.heap.size + 1) (w.alloc (.cells #[.int .u64 f, .bool t, .bool b, .bool r, .bool e] 94)) wr)
    (fun _ wr => wr.rangeLeft (w.heap.size + 1) R)
  case atStart =>
    refine ⟨_, _, hrg4, mk3_has r e b, ?_, HB⟩
    simp [mk3_eq, Maps.has, K2, K4, K8, Lit.sameKey]
  case round =>
    clear hrg4 HB hRlt
    clear w4
    obtain ⟨left, cnt, hrg, hin, hv, HB⟩ := hrel
    subst hv
    have hrgL := hrg.left_eq
    have hcw := bcell' HB
    have hzw := HB.size
    simp only [World.size_alloc] at hzw
    have hzw' : w.heap.size < wr.heap.size := by omega
    have hRw := hrg.lt
    go_wp2_with (first | (at_next; refine wpList_next_mk3 _ rfl _ rfl (w.heap.size + 1) R 3 r e b left cnt rfl hrg hin (fun hl0 => ?_) (fun w1 cnt1 hl2 hrg1 hlt hg1 hen => ?_) (fun w1 cnt1 hl2 hrg1 hlt hg1 hen => ?_) (fun w1 cnt1 hl2 hrg1 hlt hg1 hen => ?_)) | (go_at_call 49; refine (H'.out _).mono ?_; rintro en w1 ⟨rfl, hb⟩; obtain ⟨hc, hfz⟩ := bcell hb; have hz : w.heap.size < w1.heap.size := (by have := hb.size; omega)) | fail)
    all_goals first
      | (go_roundw
         case rel =>
           refine ⟨_, cnt1, hrg1, fun kl h => hin kl (by simp at h; exact h.1), ?_, HB.grown hg1 (by omega) (by intro k' e'; cases e'; omega)⟩
           clear hrg1 hrg HB hfin' H' hm
           go_tidy
           simp [K2, K4, K8, Lit.sameKey, *]
         case measure => rw [hrg1.left_eq, hrgL]; exact hlt)
      | (have hb' := ((((Below.refl w.heap.size w).alloc (Nat.le_refl _) _).trans (HB.mono (Nat.le_succ _))).trans (hb.mono (Nat.le_of_lt hzw'))).alloc (Nat.le_of_lt hz) (.cells #[.int .u64 yf, .bool yt, .bool yb, .bool yr, .bool ye] 94)
         go_tidy
         go_ret2
         refine ⟨?_, hb'⟩
         have hlv3 : ¬ (level < 0 ∨ 3 ≤ level) := by omega
         rw [hfin'.out, if_neg hlv3]
         clear hb hb' H' hfin' hrg HB
         split <;> rename_i hcond <;> first | rfl | (exfalso; clear hlv3; simp_all; done) | (exfalso; clear hlv3; simp_all; omega))
end Go.Proofs.Ytaogndianciogaa
