/- WalkEntries returns true for every input: Entry and Make of the program answer as the reference's Entry and Make. -/
import Derived.Test.YtgahagieigippaaMakeB
namespace Go.Proofs.Ytgahagieigippaa
open Go.RowKit Go.Maps
set_option linter.unusedSimpArgs false
set_option linter.unusedVariables false
theorem entryB_frame (e level : Int) : 0 ≤ (entryB e level).1.frame ∧ (entryB e level).1.frame < 4294967296 := by
  unfold entryB
  (repeat' split) <;> simp [Ent.zero] <;> omega
theorem make_same (x : Ent) (level : Int) : makeA x level = makeB x level := by
  unfold makeA makeB
  by_cases hl : level < 0 ∨ 3 ≤ level
  · have hl' : level < 0 ∨ 2 < level := by omega
    rw [if_pos hl, if_pos hl']
  have hl' : ¬ (level < 0 ∨ 2 < level) := by omega
  rw [if_neg hl, if_neg hl']
  by_cases hf : 4294967296 ≤ x.frame
  · rw [if_pos hf]
    have h := entryB_frame (flags x.frame x.write x.exec x.big) level
    have hne : (entryB (flags x.frame x.write x.exec x.big) level).1 ≠ x := by intro e; rw [e] at h; omega
    rw [if_pos (.inr hne)]
  · rw [if_neg hf]
theorem bent {B : Nat} {W w1 : World} (hb : Below W.heap.size W w1) : W.heap.size ≤ w1.heap.size ∧ ∀ k o, k < W.heap.size → w1.cell? ⟨k, o, none⟩ = W.cell? ⟨k, o, none⟩ :=
  ⟨hb.size, fun k o h => hb.cell (p := ⟨k, o, none⟩) h⟩
set_option maxHeartbeats 2000000 in
theorem walkEntries_any (e level : Int) (x : Ent) (h0 : 0 ≤ e) (h1 : e < 18446744073709551616) (h2 : 0 ≤ x.frame) (h3 : x.frame < 18446744073709551616) (w : World) :
    Calls Try.prog 3 #[.int .u64 e, .int .i64 level, x.val] w fun en w' => en = .returned (.bool true) ∧ Below w.heap.size w w' := by
  have hm : Try.prog.eqGuardType Try.prog.depth 24 = false := by kernel_rfl
  have A1 := fun w => entry_calls e level h0 h1 w
  have A2 := fun w => refEntry_any e level h0 (by omega) w
  have A3 := fun w => make_any x level h2 h3 w
  have A4 := fun w => refMake_any x level h2 h3 w
  have A5 := fun w => entry_calls 20483 2 (by omega) (by omega) w
  have E5 : entryB 20483 2 = (⟨20480, false, false, true, false⟩, 0) := by decide
  rw [make_same] at A3
  rw [E5] at A5
  clear h0 h1 E5
  generalize entryB e level = E at *
  generalize makeB x level = M at *
  obtain ⟨⟨yf, yt, yb, yr, ye⟩, no⟩ := E
  obtain ⟨n, also⟩ := M
  obtain ⟨f, t, b, r, s⟩ := x
  have q1 := fun w => eqEnt ⟨yf, yt, yb, yr, ye⟩ ⟨yf, yt, yb, yr, ye⟩ w
  have q2 := fun w => eqEnt ⟨20480, false, false, true, false⟩ ⟨20480, false, false, true, false⟩ w
  simp only [Ent.val, decide_true] at A1 A2 A3 A4 A5 q1 q2 ⊢
  have A1 := Lib.hid A1
  have A2 := Lib.hid A2
  have A3 := Lib.hid A3
  have A4 := Lib.hid A4
  have A5 := Lib.hid A5
  go_enter Try.func3, Try.ntmps3
  go_wp2_with fail
  refine (A1.out _).mono ?_; rintro en w1 ⟨rfl, hb1⟩; obtain ⟨z1, c1⟩ := bent (B := 0) hb1; (try simp only [World.size_alloc] at z1)
  have BB1 : Below w.heap.size w w1 := by first | exact (Below.refl w.heap.size w).trans (hb1.mono (by omega)) | exact ((Below.refl w.heap.size w).alloc (by omega) _).trans (hb1.mono (by simp only [World.size_alloc]; omega)) | exact (((Below.refl w.heap.size w).alloc (by omega) _).alloc (by simp only [World.size_alloc]; omega) _).trans (hb1.mono (by simp only [World.size_alloc]; omega))
  have s01 : w.heap.size ≤ w1.heap.size := by omega
  try have t01 : w.heap.size < w1.heap.size := by omega
  go_wp2_with fail
  refine (A2.out _).mono ?_; rintro en w2 ⟨rfl, hb2⟩; obtain ⟨z2, c2⟩ := bent (B := 0) hb2; (try simp only [World.size_alloc] at z2)
  have BB2 : Below w.heap.size w w2 := by first | exact BB1.trans (hb2.mono (by omega)) | exact (BB1.alloc (by omega) _).trans (hb2.mono (by simp only [World.size_alloc]; omega)) | exact ((BB1.alloc (by omega) _).alloc (by simp only [World.size_alloc]; omega) _).trans (hb2.mono (by simp only [World.size_alloc]; omega))
  have s02 : w.heap.size ≤ w2.heap.size := by omega
  try have t02 : w.heap.size < w2.heap.size := by omega
  have s12 : w1.heap.size ≤ w2.heap.size := by omega
  try have t12 : w1.heap.size < w2.heap.size := by omega
  go_wp2_with fail
  refine (A3.out _).mono ?_; rintro en w3 ⟨rfl, hb3⟩; obtain ⟨z3, c3⟩ := bent (B := 0) hb3; (try simp only [World.size_alloc] at z3)
  have BB3 : Below w.heap.size w w3 := by first | exact BB2.trans (hb3.mono (by omega)) | exact (BB2.alloc (by omega) _).trans (hb3.mono (by simp only [World.size_alloc]; omega)) | exact ((BB2.alloc (by omega) _).alloc (by simp only [World.size_alloc]; omega) _).trans (hb3.mono (by simp only [World.size_alloc]; omega))
  have s03 : w.heap.size ≤ w3.heap.size := by omega
  try have t03 : w.heap.size < w3.heap.size := by omega
  have s13 : w1.heap.size ≤ w3.heap.size := by omega
  try have t13 : w1.heap.size < w3.heap.size := by omega
  have s23 : w2.heap.size ≤ w3.heap.size := by omega
  try have t23 : w2.heap.size < w3.heap.size := by omega
  go_wp2_with fail
  refine (A4.out _).mono ?_; rintro en w4 ⟨rfl, hb4⟩; obtain ⟨z4, c4⟩ := bent (B := 0) hb4; (try simp only [World.size_alloc] at z4)
  have BB4 : Below w.heap.size w w4 := by first | exact BB3.trans (hb4.mono (by omega)) | exact (BB3.alloc (by omega) _).trans (hb4.mono (by simp only [World.size_alloc]; omega)) | exact ((BB3.alloc (by omega) _).alloc (by simp only [World.size_alloc]; omega) _).trans (hb4.mono (by simp only [World.size_alloc]; omega))
  have s04 : w.heap.size ≤ w4.heap.size := by omega
  try have t04 : w.heap.size < w4.heap.size := by omega
  have s14 : w1.heap.size ≤ w4.heap.size := by omega
  try have t14 : w1.heap.size < w4.heap.size := by omega
  have s24 : w2.heap.size ≤ w4.heap.size := by omega
  try have t24 : w2.heap.size < w4.heap.size := by omega
  have s34 : w3.heap.size ≤ w4.heap.size := by omega
  try have t34 : w3.heap.size < w4.heap.size := by omega
  go_wp2_with fail
  refine (A5.out _).mono ?_; rintro en w5 ⟨rfl, hb5⟩; obtain ⟨z5, c5⟩ := bent (B := 0) hb5; (try simp only [World.size_alloc] at z5)
  have BB5 : Below w.heap.size w w5 := by first | exact BB4.trans (hb5.mono (by omega)) | exact (BB4.alloc (by omega) _).trans (hb5.mono (by simp only [World.size_alloc]; omega)) | exact ((BB4.alloc (by omega) _).alloc (by simp only [World.size_alloc]; omega) _).trans (hb5.mono (by simp only [World.size_alloc]; omega))
  have s05 : w.heap.size ≤ w5.heap.size := by omega
  try have t05 : w.heap.size < w5.heap.size := by omega
  have s15 : w1.heap.size ≤ w5.heap.size := by omega
  try have t15 : w1.heap.size < w5.heap.size := by omega
  have s25 : w2.heap.size ≤ w5.heap.size := by omega
  try have t25 : w2.heap.size < w5.heap.size := by omega
  have s35 : w3.heap.size ≤ w5.heap.size := by omega
  try have t35 : w3.heap.size < w5.heap.size := by omega
  have s45 : w4.heap.size ≤ w5.heap.size := by omega
  try have t45 : w4.heap.size < w5.heap.size := by omega
  go_wp2_with fail
  go_ret
  exact ⟨rfl, BB5.alloc (by omega) _⟩
end Go.Proofs.Ytgahagieigippaa
