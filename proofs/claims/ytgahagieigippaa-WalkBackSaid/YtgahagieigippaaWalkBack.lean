/- WalkBack returns true for every input: its walk, and that Entry and Make are each other's inverse. -/
import Derived.Test.YtgahagieigippaaWalkEntries
namespace Go.Proofs.Ytgahagieigippaa
open Go.RowKit Go.Maps
set_option linter.unusedSimpArgs false
set_option linter.unusedVariables false
theorem flags_frame (k : Nat) (a b c : Bool) : flags ((k * 4096 : Nat) : Int) a b c = ((k * 4096 + 1 + (if a then 2 else 0) + (if b then 4 else 0) + (if c then 8 else 0) : Nat) : Int) := by
  unfold flags
  have h : ∀ r, r < 2 ^ 12 → k * 4096 ||| r = k * 4096 + r := by
    intro r hr
    have := Nat.two_pow_add_eq_or_of_lt hr k
    rw [show 2 ^ 12 * k = k * 4096 from by omega] at this
    exact this.symm
  simp only [Int.toNat_natCast, Nat.or_assoc]
  have e : (1 ||| ((if a then 2 else 0) ||| ((if b then 4 else 0) ||| (if c then 8 else 0)))) = 1 + (if a then 2 else 0) + (if b then 4 else 0) + (if c then 8 else 0) := by
    cases a <;> cases b <;> cases c <;> rfl
  have l : 1 + (if a then 2 else 0) + (if b then 4 else 0) + (if c then 8 else 0) < 2 ^ 12 := by
    cases a <;> cases b <;> cases c <;> decide
  rw [e, h _ l]
  simp only [Nat.add_assoc]
/-- what an entry says is made into that entry again -/
theorem make_of_entry {e level : Int} {y : Ent} (h0 : 0 ≤ e) (h : entryB e level = (y, 0)) : makeB y level = (e, 0) := by
  have hf : flags y.frame y.write y.exec y.big = e := by
    unfold entryB at h
    split at h
    · simp at h
    split at h
    · simp at h
    split at h
    · simp at h
    rename_i h1 h2 h3
    have h3 : e = e / 4096 % 1048576 * 4096 + e % 16 := by omega
    obtain ⟨k, hk⟩ : ∃ k : Nat, e / 4096 % 1048576 = k := ⟨(e / 4096 % 1048576).toNat, by omega⟩
    rw [hk] at h h3
    have hk' : (k : Int) * 4096 = ((k * 4096 : Nat) : Int) := by omega
    split at h
    · split at h
      · simp at h
      · simp only [Prod.mk.injEq, and_true] at h
        subst h
        simp only
        rw [hk', flags_frame]
        simp
        omega
    · split at h
      · simp at h
      · simp only [Prod.mk.injEq, and_true] at h
        subst h
        simp only
        rw [hk', flags_frame]
        rcases Int.emod_two_eq (e / 2) with a | a <;> rcases Int.emod_two_eq (e / 4) with b | b <;> rcases Int.emod_two_eq (e / 8) with c | c <;> simp [a, b, c] <;> omega
  have hl : ¬ (level < 0 ∨ 2 < level) := by
    intro hl
    unfold entryB at h
    rw [if_pos hl] at h
    simp at h
  have hy := entryB_frame e level
  rw [h] at hy
  unfold makeB
  rw [if_neg hl, if_neg (by simp only at hy; omega), hf, h]
  simp
/-- what is made says what it was made of -/
theorem entry_of_make {x : Ent} {n level : Int} (h : makeB x level = (n, 0)) : entryB n level = (x, 0) := by
  unfold makeB at h
  split at h
  · simp at h
  split at h
  · simp at h
  split at h
  · simp at h
  · rename_i h1 h2 h3
    simp only [Prod.mk.injEq, and_true] at h
    subst h
    have : (entryB (flags x.frame x.write x.exec x.big) level).2 = 0 ∧ (entryB (flags x.frame x.write x.exec x.big) level).1 = x := by
      constructor
      · apply Classical.byContradiction; intro hh; exact h3 (.inl hh)
      · apply Classical.byContradiction; intro hh; exact h3 (.inr hh)
    exact Prod.ext this.2 this.1
theorem makeB_range {x : Ent} (level : Int) (h0 : 0 ≤ x.frame) (h1 : x.frame < 18446744073709551616) : 0 ≤ (makeB x level).1 ∧ (makeB x level).1 < 18446744073709551616 := by
  have h := flags_lt h0 h1 x.write x.exec x.big
  unfold makeB
  (repeat' split) <;> simp only <;> omega
set_option maxHeartbeats 4000000 in
theorem walkBack_any (e level : Int) (x : Ent) (h0 : 0 ≤ e) (h1 : e < 18446744073709551616) (h2 : 0 ≤ x.frame) (h3 : x.frame < 18446744073709551616) (w : World) :
    Calls Try.prog 4 #[.int .u64 e, .int .i64 level, x.val] w fun en w' => en = .returned (.bool true) ∧ Below w.heap.size w w' := by
  have hm : Try.prog.eqGuardType Try.prog.depth 24 = false := by kernel_rfl
  have A1 := fun w => entry_calls e level h0 h1 w
  have hy := entryB_frame e level
  have A2 := fun w => make_any (entryB e level).1 level hy.1 (by omega) w
  have A3 := fun w => make_any x level h2 h3 w
  have hr := makeB_range level h2 h3
  have A4 := fun w => entry_calls (makeB x level).1 level hr.1 hr.2 w
  have A5 := fun w => make_any ⟨4194304, false, true, false, true⟩ 1 (by decide) (by decide) w
  have E5 : makeB ⟨4194304, false, true, false, true⟩ 1 = (4194317, 0) := by decide
  have P1 := fun (y : Ent) (h : entryB e level = (y, 0)) => make_of_entry h0 h
  have P2 := fun (n : Int) (h : makeB x level = (n, 0)) => entry_of_make h
  rw [make_same] at A2 A3 A5
  rw [E5] at A5
  clear h0 h1 E5 hy hr
  generalize entryB e level = E at *
  generalize makeB x level = M at *
  obtain ⟨⟨yf, yt, yb, yr, ye⟩, no⟩ := E
  obtain ⟨n, also⟩ := M
  have q2 := fun w => neqEnt x x w
  obtain ⟨f, t, b, r, s⟩ := x
  simp only [Ent.val, decide_true, Prod.mk.injEq] at A1 A2 A3 A4 A5 q2 P1 P2 ⊢
  have hno : (no = 0 ∧ makeB ⟨yf, yt, yb, yr, ye⟩ level = (e, 0)) ∨ (no == 0) = false := by
    by_cases h : no = 0
    · exact .inl ⟨h, P1 _ ⟨rfl, h⟩⟩
    · exact .inr (by simp [h])
  have hal : (also = 0 ∧ entryB n level = (⟨f, t, b, r, s⟩, 0)) ∨ (also == 0) = false := by
    by_cases h : also = 0
    · exact .inl ⟨h, P2 _ ⟨rfl, h⟩⟩
    · exact .inr (by simp [h])
  clear P1 P2
  have B1 := Lib.hid A1; clear A1
  have B3 := Lib.hid A3; clear A3
  have B5 := Lib.hid A5; clear A5
  rcases hno with ⟨rfl, hno⟩ | hno <;> rcases hal with ⟨rfl, hal⟩ | hal
  · rw [hno] at A2
    rw [hal] at A4
    have B2 := Lib.hid A2; clear A2 hno
    have B4 := Lib.hid A4; clear A4 hal
    go_enter Try.func4, Try.ntmps4
    go_wp2_with fail
    refine (B1.out _).mono ?_; rintro en w1 ⟨rfl, hb1⟩; obtain ⟨z1, c1⟩ := bent (B := 0) hb1; (try simp only [World.size_alloc] at z1)
    have BB1 : Below w.heap.size w w1 := by first | exact (Below.refl w.heap.size w).trans (hb1.mono (by omega)) | exact ((Below.refl w.heap.size w).alloc (by omega) _).trans (hb1.mono (by simp only [World.size_alloc]; omega)) | exact (((Below.refl w.heap.size w).alloc (by omega) _).alloc (by simp only [World.size_alloc]; omega) _).trans (hb1.mono (by simp only [World.size_alloc]; omega))
    have s01 : w.heap.size ≤ w1.heap.size := by omega
    try have t01 : w.heap.size < w1.heap.size := by omega
    go_wp2_with fail
    refine (B2.out _).mono ?_; rintro en w2 ⟨rfl, hb2⟩; obtain ⟨z2, c2⟩ := bent (B := 0) hb2; (try simp only [World.size_alloc] at z2)
    have BB2 : Below w.heap.size w w2 := by first | exact BB1.trans (hb2.mono (by omega)) | exact (BB1.alloc (by omega) _).trans (hb2.mono (by simp only [World.size_alloc]; omega)) | exact ((BB1.alloc (by omega) _).alloc (by simp only [World.size_alloc]; omega) _).trans (hb2.mono (by simp only [World.size_alloc]; omega))
    have s02 : w.heap.size ≤ w2.heap.size := by omega
    try have t02 : w.heap.size < w2.heap.size := by omega
    have s12 : w1.heap.size ≤ w2.heap.size := by omega
    try have t12 : w1.heap.size < w2.heap.size := by omega
    go_wp2_with fail
    refine (B3.out _).mono ?_; rintro en w3 ⟨rfl, hb3⟩; obtain ⟨z3, c3⟩ := bent (B := 0) hb3; (try simp only [World.size_alloc] at z3)
    have BB3 : Below w.heap.size w w3 := by first | exact BB2.trans (hb3.mono (by omega)) | exact (BB2.alloc (by omega) _).trans (hb3.mono (by simp only [World.size_alloc]; omega)) | exact ((BB2.alloc (by omega) _).alloc (by simp only [World.size_alloc]; omega) _).trans (hb3.mono (by simp only [World.size_alloc]; omega))
    have s03 : w.heap.size ≤ w3.heap.size := by omega
    try have t03 : w.heap.size < w3.heap.size := by omega
    have s13 : w1.heap.size ≤ w3.heap.size := by omega
    try have t13 : w1.heap.size < w3.heap.size := by omega
    have s23 : w2.heap.size ≤ w3.heap.size := by omega
    try have t23 : w2.heap.size < w3.heap.size := by omega
    go_wp2_with fail
    refine (B4.out _).mono ?_; rintro en w4 ⟨rfl, hb4⟩; obtain ⟨z4, c4⟩ := bent (B := 0) hb4; (try simp only [World.size_alloc] at z4)
    have BB4 : Below w.heap.size w w4 := by first | exact BB3.trans (hb4.mono (by omega)) | exact (BB3.alloc (by omega) _).trans (hb4.mono (by simp only [World.size_alloc]; omega)) | exact ((BB3.alloc (by omega) _).alloc (by simp only [World.size_alloc]; omega) _).trans (hb4.mono (by simp only [World.size_alloc]; omega))
    have s04 : w.heap.size ≤ w4.heap.size := by omega
    try have t04 : w.heap.size < w4.heap.size := by omega
    have s14 : w1.heap.size ≤ w4.heap.size := by omega
    try have t14 : w1.heap.size < w4.heap.size := by omega
    have s24 : w2.heap.size ≤ w4.heap.size := by omega
    try have t24 : w2.heap.size < w4.heap.size := by omega
    have s34 : w3.heap.size ≤ w4.heap.size := by omega
    try have t34 : w3.heap.size < w4.heap.size := by omega
    go_wp2_with fail
    refine (B5.out _).mono ?_; rintro en w5 ⟨rfl, hb5⟩; obtain ⟨z5, c5⟩ := bent (B := 0) hb5; (try simp only [World.size_alloc] at z5)
    have BB5 : Below w.heap.size w w5 := by first | exact BB4.trans (hb5.mono (by omega)) | exact (BB4.alloc (by omega) _).trans (hb5.mono (by simp only [World.size_alloc]; omega)) | exact ((BB4.alloc (by omega) _).alloc (by simp only [World.size_alloc]; omega) _).trans (hb5.mono (by simp only [World.size_alloc]; omega))
    have s05 : w.heap.size ≤ w5.heap.size := by omega
    try have t05 : w.heap.size < w5.heap.size := by omega
    have s15 : w1.heap.size ≤ w5.heap.size := by omega
    try have t15 : w1.heap.size < w5.heap.size := by omega
    have s25 : w2.heap.size ≤ w5.heap.size := by omega
    try have t25 : w2.heap.size < w5.heap.size := by omega
    have s35 : w3.heap.size ≤ w5.heap.size := by omega
    try have t35 : w3.heap.size < w5.heap.size := by omega
    have s45 : w4.heap.size ≤ w5.heap.size := by omega
    try have t45 : w4.heap.size < w5.heap.size := by omega
    go_wp2_with fail
    go_ret
    exact ⟨rfl, by first | exact BB5 | exact BB5.alloc (by omega) _⟩
  · rw [hno] at A2
    have B2 := Lib.hid A2; clear A2 hno A4
    go_enter Try.func4, Try.ntmps4
    go_wp2_with fail
    refine (B1.out _).mono ?_; rintro en w1 ⟨rfl, hb1⟩; obtain ⟨z1, c1⟩ := bent (B := 0) hb1; (try simp only [World.size_alloc] at z1)
    have BB1 : Below w.heap.size w w1 := by first | exact (Below.refl w.heap.size w).trans (hb1.mono (by omega)) | exact ((Below.refl w.heap.size w).alloc (by omega) _).trans (hb1.mono (by simp only [World.size_alloc]; omega)) | exact (((Below.refl w.heap.size w).alloc (by omega) _).alloc (by simp only [World.size_alloc]; omega) _).trans (hb1.mono (by simp only [World.size_alloc]; omega))
    have s01 : w.heap.size ≤ w1.heap.size := by omega
    try have t01 : w.heap.size < w1.heap.size := by omega
    go_wp2_with fail
    refine (B2.out _).mono ?_; rintro en w2 ⟨rfl, hb2⟩; obtain ⟨z2, c2⟩ := bent (B := 0) hb2; (try simp only [World.size_alloc] at z2)
    have BB2 : Below w.heap.size w w2 := by first | exact BB1.trans (hb2.mono (by omega)) | exact (BB1.alloc (by omega) _).trans (hb2.mono (by simp only [World.size_alloc]; omega)) | exact ((BB1.alloc (by omega) _).alloc (by simp only [World.size_alloc]; omega) _).trans (hb2.mono (by simp only [World.size_alloc]; omega))
    have s02 : w.heap.size ≤ w2.heap.size := by omega
    try have t02 : w.heap.size < w2.heap.size := by omega
    have s12 : w1.heap.size ≤ w2.heap.size := by omega
    try have t12 : w1.heap.size < w2.heap.size := by omega
    go_wp2_with fail
    refine (B3.out _).mono ?_; rintro en w3 ⟨rfl, hb3⟩; obtain ⟨z3, c3⟩ := bent (B := 0) hb3; (try simp only [World.size_alloc] at z3)
    have BB3 : Below w.heap.size w w3 := by first | exact BB2.trans (hb3.mono (by omega)) | exact (BB2.alloc (by omega) _).trans (hb3.mono (by simp only [World.size_alloc]; omega)) | exact ((BB2.alloc (by omega) _).alloc (by simp only [World.size_alloc]; omega) _).trans (hb3.mono (by simp only [World.size_alloc]; omega))
    have s03 : w.heap.size ≤ w3.heap.size := by omega
    try have t03 : w.heap.size < w3.heap.size := by omega
    have s13 : w1.heap.size ≤ w3.heap.size := by omega
    try have t13 : w1.heap.size < w3.heap.size := by omega
    have s23 : w2.heap.size ≤ w3.heap.size := by omega
    try have t23 : w2.heap.size < w3.heap.size := by omega
    go_wp2_with fail
    refine (B5.out _).mono ?_; rintro en w4 ⟨rfl, hb4⟩; obtain ⟨z4, c4⟩ := bent (B := 0) hb4; (try simp only [World.size_alloc] at z4)
    have BB4 : Below w.heap.size w w4 := by first | exact BB3.trans (hb4.mono (by omega)) | exact (BB3.alloc (by omega) _).trans (hb4.mono (by simp only [World.size_alloc]; omega)) | exact ((BB3.alloc (by omega) _).alloc (by simp only [World.size_alloc]; omega) _).trans (hb4.mono (by simp only [World.size_alloc]; omega))
    have s04 : w.heap.size ≤ w4.heap.size := by omega
    try have t04 : w.heap.size < w4.heap.size := by omega
    have s14 : w1.heap.size ≤ w4.heap.size := by omega
    try have t14 : w1.heap.size < w4.heap.size := by omega
    have s24 : w2.heap.size ≤ w4.heap.size := by omega
    try have t24 : w2.heap.size < w4.heap.size := by omega
    have s34 : w3.heap.size ≤ w4.heap.size := by omega
    try have t34 : w3.heap.size < w4.heap.size := by omega
    go_wp2_with fail
    go_ret
    exact ⟨rfl, by first | exact BB4 | exact BB4.alloc (by omega) _⟩
  · rw [hal] at A4
    have B4 := Lib.hid A4; clear A4 hal A2
    go_enter Try.func4, Try.ntmps4
    go_wp2_with fail
    refine (B1.out _).mono ?_; rintro en w1 ⟨rfl, hb1⟩; obtain ⟨z1, c1⟩ := bent (B := 0) hb1; (try simp only [World.size_alloc] at z1)
    have BB1 : Below w.heap.size w w1 := by first | exact (Below.refl w.heap.size w).trans (hb1.mono (by omega)) | exact ((Below.refl w.heap.size w).alloc (by omega) _).trans (hb1.mono (by simp only [World.size_alloc]; omega)) | exact (((Below.refl w.heap.size w).alloc (by omega) _).alloc (by simp only [World.size_alloc]; omega) _).trans (hb1.mono (by simp only [World.size_alloc]; omega))
    have s01 : w.heap.size ≤ w1.heap.size := by omega
    try have t01 : w.heap.size < w1.heap.size := by omega
    go_wp2_with fail
    refine (B3.out _).mono ?_; rintro en w2 ⟨rfl, hb2⟩; obtain ⟨z2, c2⟩ := bent (B := 0) hb2; (try simp only [World.size_alloc] at z2)
    have BB2 : Below w.heap.size w w2 := by first | exact BB1.trans (hb2.mono (by omega)) | exact (BB1.alloc (by omega) _).trans (hb2.mono (by simp only [World.size_alloc]; omega)) | exact ((BB1.alloc (by omega) _).alloc (by simp only [World.size_alloc]; omega) _).trans (hb2.mono (by simp only [World.size_alloc]; omega))
    have s02 : w.heap.size ≤ w2.heap.size := by omega
    try have t02 : w.heap.size < w2.heap.size := by omega
    have s12 : w1.heap.size ≤ w2.heap.size := by omega
    try have t12 : w1.heap.size < w2.heap.size := by omega
    go_wp2_with fail
    refine (B4.out _).mono ?_; rintro en w3 ⟨rfl, hb3⟩; obtain ⟨z3, c3⟩ := bent (B := 0) hb3; (try simp only [World.size_alloc] at z3)
    have BB3 : Below w.heap.size w w3 := by first | exact BB2.trans (hb3.mono (by omega)) | exact (BB2.alloc (by omega) _).trans (hb3.mono (by simp only [World.size_alloc]; omega)) | exact ((BB2.alloc (by omega) _).alloc (by simp only [World.size_alloc]; omega) _).trans (hb3.mono (by simp only [World.size_alloc]; omega))
    have s03 : w.heap.size ≤ w3.heap.size := by omega
    try have t03 : w.heap.size < w3.heap.size := by omega
    have s13 : w1.heap.size ≤ w3.heap.size := by omega
    try have t13 : w1.heap.size < w3.heap.size := by omega
    have s23 : w2.heap.size ≤ w3.heap.size := by omega
    try have t23 : w2.heap.size < w3.heap.size := by omega
    go_wp2_with fail
    refine (B5.out _).mono ?_; rintro en w4 ⟨rfl, hb4⟩; obtain ⟨z4, c4⟩ := bent (B := 0) hb4; (try simp only [World.size_alloc] at z4)
    have BB4 : Below w.heap.size w w4 := by first | exact BB3.trans (hb4.mono (by omega)) | exact (BB3.alloc (by omega) _).trans (hb4.mono (by simp only [World.size_alloc]; omega)) | exact ((BB3.alloc (by omega) _).alloc (by simp only [World.size_alloc]; omega) _).trans (hb4.mono (by simp only [World.size_alloc]; omega))
    have s04 : w.heap.size ≤ w4.heap.size := by omega
    try have t04 : w.heap.size < w4.heap.size := by omega
    have s14 : w1.heap.size ≤ w4.heap.size := by omega
    try have t14 : w1.heap.size < w4.heap.size := by omega
    have s24 : w2.heap.size ≤ w4.heap.size := by omega
    try have t24 : w2.heap.size < w4.heap.size := by omega
    have s34 : w3.heap.size ≤ w4.heap.size := by omega
    try have t34 : w3.heap.size < w4.heap.size := by omega
    go_wp2_with fail
    go_ret
    exact ⟨rfl, by first | exact BB4 | exact BB4.alloc (by omega) _⟩
  · clear A2 A4
    go_enter Try.func4, Try.ntmps4
    go_wp2_with fail
    refine (B1.out _).mono ?_; rintro en w1 ⟨rfl, hb1⟩; obtain ⟨z1, c1⟩ := bent (B := 0) hb1; (try simp only [World.size_alloc] at z1)
    have BB1 : Below w.heap.size w w1 := by first | exact (Below.refl w.heap.size w).trans (hb1.mono (by omega)) | exact ((Below.refl w.heap.size w).alloc (by omega) _).trans (hb1.mono (by simp only [World.size_alloc]; omega)) | exact (((Below.refl w.heap.size w).alloc (by omega) _).alloc (by simp only [World.size_alloc]; omega) _).trans (hb1.mono (by simp only [World.size_alloc]; omega))
    have s01 : w.heap.size ≤ w1.heap.size := by omega
    try have t01 : w.heap.size < w1.heap.size := by omega
    go_wp2_with fail
    refine (B3.out _).mono ?_; rintro en w2 ⟨rfl, hb2⟩; obtain ⟨z2, c2⟩ := bent (B := 0) hb2; (try simp only [World.size_alloc] at z2)
    have BB2 : Below w.heap.size w w2 := by first | exact BB1.trans (hb2.mono (by omega)) | exact (BB1.alloc (by omega) _).trans (hb2.mono (by simp only [World.size_alloc]; omega)) | exact ((BB1.alloc (by omega) _).alloc (by simp only [World.size_alloc]; omega) _).trans (hb2.mono (by simp only [World.size_alloc]; omega))
    have s02 : w.heap.size ≤ w2.heap.size := by omega
    try have t02 : w.heap.size < w2.heap.size := by omega
    have s12 : w1.heap.size ≤ w2.heap.size := by omega
    try have t12 : w1.heap.size < w2.heap.size := by omega
    go_wp2_with fail
    refine (B5.out _).mono ?_; rintro en w3 ⟨rfl, hb3⟩; obtain ⟨z3, c3⟩ := bent (B := 0) hb3; (try simp only [World.size_alloc] at z3)
    have BB3 : Below w.heap.size w w3 := by first | exact BB2.trans (hb3.mono (by omega)) | exact (BB2.alloc (by omega) _).trans (hb3.mono (by simp only [World.size_alloc]; omega)) | exact ((BB2.alloc (by omega) _).alloc (by simp only [World.size_alloc]; omega) _).trans (hb3.mono (by simp only [World.size_alloc]; omega))
    have s03 : w.heap.size ≤ w3.heap.size := by omega
    try have t03 : w.heap.size < w3.heap.size := by omega
    have s13 : w1.heap.size ≤ w3.heap.size := by omega
    try have t13 : w1.heap.size < w3.heap.size := by omega
    have s23 : w2.heap.size ≤ w3.heap.size := by omega
    try have t23 : w2.heap.size < w3.heap.size := by omega
    go_wp2_with fail
    go_ret
    exact ⟨rfl, by first | exact BB3 | exact BB3.alloc (by omega) _⟩
end Go.Proofs.Ytgahagieigippaa
