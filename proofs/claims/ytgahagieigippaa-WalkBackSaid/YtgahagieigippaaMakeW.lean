/- The reference's Make returns makeB, for every entry whose frame is a uint64. -/
import Derived.Test.YtgahagieigippaaMake
import Derived.Lib.Hide
namespace Go.Proofs.Ytgahagieigippaa
open Go.RowKit Go.Maps
set_option linter.unusedSimpArgs false
set_option linter.unusedVariables false
theorem bcell {W w1 : World} (hb : Below W.heap.size W w1) : (∀ b o, b < W.heap.size → w1.cell? ⟨b, o, none⟩ = W.cell? ⟨b, o, none⟩) ∧ (∀ b o, b < W.heap.size → w1.frozen? ⟨b, o, none⟩ = W.frozen? ⟨b, o, none⟩) :=
  ⟨fun b o h => hb.cell (p := ⟨b, o, none⟩) h, fun b o h => hb.frozen (p := ⟨b, o, none⟩) h⟩
def makeB (x : Ent) (level : Int) : Int × Int :=
  if level < 0 ∨ 2 < level then (0, 1)
  else if 4294967296 ≤ x.frame then (0, 42)
  else if (entryB (flags x.frame x.write x.exec x.big) level).2 ≠ 0 ∨ (entryB (flags x.frame x.write x.exec x.big) level).1 ≠ x then (0, 42)
  else (flags x.frame x.write x.exec x.big, 0)
set_option maxHeartbeats 2000000 in
theorem refMake_any (x : Ent) (level : Int) (h0 : 0 ≤ x.frame) (h1 : x.frame < 18446744073709551616) (w : World) :
    Calls Try.prog 8 #[x.val, .int .i64 level] w fun en w' => en = .returned (.tuple #[.int .u64 (makeB x level).1, .int .i64 (makeB x level).2]) ∧ Below w.heap.size w w' := by
  obtain ⟨f, t, b, r, e⟩ := x
  simp only at h0 h1
  have hm : Try.prog.eqGuardType Try.prog.depth 24 = false := by kernel_rfl
  have o1 := or_1 h0 h1
  have o2 := or_2 h0 h1
  have o4 := or_4 h0 h1
  have o8 := or_8 h0 h1
  have hl := flags_lt h0 h1 r e b
  have hfin : makeB ⟨f, t, b, r, e⟩ level = makeB ⟨f, t, b, r, e⟩ level := rfl
  conv at hfin => rhs; unfold makeB
  simp only at hfin
  have H := fun w => refEntry_any (flags f r e b) level hl.1 (by omega) w
  clear hl h1
  generalize entryB (flags f r e b) level = E at *
  obtain ⟨⟨yf, yt, yb, yr, ye⟩, no⟩ := E
  have hneq := fun w => neqEnt ⟨yf, yt, yb, yr, ye⟩ ⟨f, t, b, r, e⟩ w
  simp only [Ent.val] at H hneq ⊢
  have H' := Lib.hid H; clear H
  simp only at hfin
  generalize makeB ⟨f, t, b, r, e⟩ level = M at *
  have hfin' := Lib.hid hfin; clear hfin
  by_cases hlv : level < 0 ∨ 2 < level
  · go_enter Try.func8, Try.ntmps8
    go_wp2
    all_goals (go_tidy; go_ret2; exact ⟨by rw [hfin'.out, if_pos hlv]; rfl, (Below.refl _ _).alloc (Nat.le_refl _) _⟩)
  by_cases hf : 4294967296 ≤ f
  · have hlv1 : 0 ≤ level := by omega
    have hlv2 : level ≤ 2 := by omega
    go_enter Try.func8, Try.ntmps8
    go_wp2
    all_goals (go_tidy; go_ret2; exact ⟨by rw [hfin'.out, if_neg hlv, if_pos hf]; rfl, (Below.refl _ _).alloc (Nat.le_refl _) _⟩)
  have hlv1 : 0 ≤ level := by omega
  have hlv2 : level ≤ 2 := by omega
  have hf2 : f < 4294967296 := by omega
  have hn : no = 0 ∨ (no == 0) = false := by by_cases h : no = 0 <;> simp [h]
  clear hlv hf
  cases r <;> cases e <;> cases b
  all_goals
    go_enter Try.func8, Try.ntmps8
    go_wp2_with (go_at_call 6; refine (H'.out _).mono ?_; rintro en w1 ⟨rfl, hb⟩; obtain ⟨hc, hfz⟩ := bcell hb; have hz : w.heap.size < w1.heap.size := (by have := hb.size; simp at this; omega))
    all_goals
      have hb' := (((Below.refl w.heap.size w).alloc (Nat.le_refl _) _).trans (hb.mono (by simp))).alloc (Nat.le_of_lt hz) (.cells #[.int .u64 yf, .bool yt, .bool yb, .bool yr, .bool ye] 24)
      go_tidy
      go_ret2
      refine ⟨?_, hb'⟩
      have hlv3 : ¬ (level < 0 ∨ 2 < level) := by omega
      have hf3 : ¬ (4294967296 ≤ f) := by omega
      rw [hfin'.out, if_neg hlv3, if_neg hf3]
      clear hb hb' H' hfin'
      split <;> rename_i hcond <;> first | rfl | (exfalso; clear hlv3 hf3; simp_all; done) | (exfalso; clear hlv3 hf3; simp_all; omega)
end Go.Proofs.Ytgahagieigippaa
