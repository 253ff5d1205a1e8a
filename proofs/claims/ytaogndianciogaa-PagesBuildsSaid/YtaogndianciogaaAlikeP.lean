/- Plain laws of the builder: rows, rows joined, and each page a row of its own make the same tables. -/
import Derived.Test.YtaogndianciogaaBuildB
namespace Go.Proofs.Ytaogndianciogaa.Mm
open Go.RowKit
set_option linter.unusedVariables false
set_option linter.unusedSimpArgs false
def cntP (x : Lf) : Nat := (x.pages * 4096 / unitP x).toNat
/-- the j-th page of a row, a row of its own -/
def stepP (x : Lf) (j : Nat) : Lf := ⟨x.virt + j * unitP x, x.phys + j * unitP x, unitP x / 4096, x.big, x.write, x.exec⟩
def eachR (x : Lf) : List Lf := (List.range (cntP x)).map (stepP x)
def foldP (base : Int) : List Lf → Bp → Bp × Bool
  | [], s => (s, true)
  | y :: r, s => if 1024 < (pageP base s y.virt.toNat y.phys y).m then (pageP base s y.virt.toNat y.phys y, false) else foldP base r (pageP base s y.virt.toNat y.phys y)
theorem unitP_cases (x : Lf) : (unitP x = 4096 ∧ x.big = false) ∨ (unitP x = 2097152 ∧ x.big = true) := by
  unfold unitP
  cases x.big
  · exact .inl ⟨rfl, rfl⟩
  · exact .inr ⟨rfl, rfl⟩
theorem unitP_step (x : Lf) (j : Nat) : unitP (stepP x j) = unitP x := rfl
theorem pageP_step (base : Int) (s : Bp) (v : Nat) (ph : Int) (x : Lf) (j : Nat) : pageP base s v ph (stepP x j) = pageP base s v ph x := rfl
theorem foldP_row (base : Int) (x : Lf) (r : List Lf) : ∀ (c i : Nat) (s : Bp), foldP base ((List.range' i c).map (stepP x) ++ r) s = if (rowP base x c i s).2 then foldP base r (rowP base x c i s).1 else rowP base x c i s := by
  intro c
  induction c with
  | zero => intro i s; simp [rowP]
  | succ c ih =>
    intro i s
    rw [List.range'_succ, List.map_cons, List.cons_append, foldP, rowP]
    rw [pageP_step]
    show (if 1024 < (pageP base s (x.virt + i * unitP x).toNat (x.phys + i * unitP x) x).m then _ else _) = _
    split
    · simp; rfl
    · exact ih (i + 1) _
theorem foldP_rows (base : Int) : ∀ (l : List Lf) (s : Bp), foldP base (l.flatMap eachR) s = rowsP base l s := by
  intro l
  induction l with
  | nil => intro s; rfl
  | cons x r ih =>
    intro s
    rw [List.flatMap_cons]
    unfold eachR
    rw [List.range_eq_range', foldP_row, rowsP]
    unfold cntP
    split
    · exact ih _
    · rename_i h
      exact Prod.ext rfl (by simpa using h)
/-- a row that may stand -/
structure goodP (x : Lf) : Prop where
  pages : 1 ≤ x.pages
  whole : x.pages * 4096 % unitP x = 0
  virt : x.virt % unitP x = 0
  phys : x.phys % unitP x = 0
  v0 : 0 ≤ x.virt
  p0 : 0 ≤ x.phys
  v1 : x.virt + x.pages * 4096 ≤ 549755813888
  p1 : x.phys + x.pages * 4096 ≤ 4294967296
def okRows : Int → List Lf → Prop
  | _, [] => True
  | b, x :: r => goodP x ∧ b ≤ x.virt ∧ okRows (x.virt + x.pages * 4096) r
theorem okRows_mono : ∀ {l : List Lf} {b c : Int}, c ≤ b → okRows b l → okRows c l := by
  intro l
  cases l with
  | nil => intros; trivial
  | cons x r => intro b c h k; exact ⟨k.1, Int.le_trans h k.2.1, k.2.2⟩
theorem okRows_all : ∀ {l : List Lf} {b : Int}, okRows b l → ∀ x ∈ l, goodP x := by
  intro l
  induction l with
  | nil => intro b _ x hx; cases hx
  | cons y r ih =>
    intro b h x hx
    rcases List.mem_cons.1 hx with rfl | hx
    · exact h.1
    · exact ih h.2.2 x hx
theorem fits_iff {a n m : Int} (hn : 1 ≤ n) : fitsP a n m ↔ a + n * 4096 ≤ m := by
  unfold fitsP
  rw [Int.le_ediv_iff_mul_le (by omega)]
  omega
theorem right_ok : ∀ {l : List Lf} {b : Int}, (∀ x ∈ l, 0 ≤ x.virt ∧ 0 ≤ x.phys) → (rightP b l = 0 ↔ okRows b l) := by
  intro l
  induction l with
  | nil => intro b _; exact ⟨fun _ => trivial, fun _ => rfl⟩
  | cons x r ih =>
    intro b h
    obtain ⟨hv, hp⟩ := h x (by simp)
    have ih' := ih (b := x.virt + x.pages * 4096) (fun y hy => h y (by simp [hy]))
    have hu := unitP_cases x
    constructor
    · intro h1
      unfold rightP at h1
      split at h1
      · cases h1
      · rename_i hs
        split at h1
        · cases h1
        · rename_i ha
          split at h1
          · cases h1
          · rename_i hf
            split at h1
            · cases h1
            · rename_i hg
              split at h1
              · cases h1
              · rename_i hb
                obtain ⟨hs1, hs2⟩ := Decidable.not_not.1 hs
                obtain ⟨ha1, ha2⟩ := Decidable.not_not.1 ha
                have hf1 := (fits_iff (by omega)).1 (Decidable.not_not.1 hf)
                have hg1 := (fits_iff (by omega)).1 (Decidable.not_not.1 hg)
                have he : x.pages * 4096 % 18446744073709551616 = x.pages * 4096 := Int.emod_eq_of_lt (by omega) (by omega)
                rw [he] at hs2
                exact ⟨⟨by omega, hs2, ha1, ha2, hv, hp, hf1, hg1⟩, by omega, ih'.1 h1⟩
    · rintro ⟨hg, hb, hr⟩
      have h1 := hg.pages
      have h7 := hg.v1
      have h8 := hg.p1
      have he : x.pages * 4096 % 18446744073709551616 = x.pages * 4096 := Int.emod_eq_of_lt (by have := hg.v0; have := hg.p0; omega) (by have := hg.v0; have := hg.p0; omega)
      have hs : sizeP x := ⟨by omega, by rw [he]; exact hg.whole⟩
      have ha : alignP x := ⟨hg.virt, hg.phys⟩
      unfold rightP
      rw [if_neg (fun k => k hs), if_neg (fun k => k ha), if_neg (fun k => k ((fits_iff h1).2 h7)), if_neg (fun k => k ((fits_iff h1).2 h8)), if_neg (by omega)]
      exact ih'.2 hr
theorem cnt_eq {x : Lf} (h : goodP x) : (cntP x : Int) * unitP x = x.pages * 4096 ∧ 1 ≤ cntP x ∧ x.pages = cntP x * (unitP x / 4096) := by
  have h1 := h.pages
  have h2 := h.whole
  unfold cntP
  rcases unitP_cases x with ⟨e, _⟩ | ⟨e, _⟩
  · rw [e] at h2 ⊢; omega
  · rw [e] at h2 ⊢; omega
theorem step_good {x : Lf} (h : goodP x) {j : Nat} (hj : j < cntP x) : goodP (stepP x j) ∧ (stepP x j).virt + (stepP x j).pages * 4096 = x.virt + (j + 1 : Nat) * unitP x := by
  obtain ⟨c1, c2, c3⟩ := cnt_eq h
  have k2 := h.virt
  have k3 := h.phys
  have k4 := h.v0
  have k5 := h.p0
  have k6 := h.v1
  have k7 := h.p1
  have hu := unitP_step x j
  have e1 : (stepP x j).virt = x.virt + j * unitP x := rfl
  have e2 : (stepP x j).phys = x.phys + j * unitP x := rfl
  have e3 : (stepP x j).pages = unitP x / 4096 := rfl
  rcases unitP_cases x with ⟨e, _⟩ | ⟨e, _⟩
  all_goals
    rw [e] at hu e1 e2 e3 c1 c3 k2 k3 ⊢
    refine ⟨⟨?_, ?_, ?_, ?_, ?_, ?_, ?_, ?_⟩, ?_⟩
    · rw [e3]; omega
    · rw [hu, e3]; omega
    · rw [hu, e1]; omega
    · rw [hu, e2]; omega
    · rw [e1]; omega
    · rw [e2]; omega
    · rw [e1, e3]; omega
    · rw [e2, e3]; omega
    · rw [e1, e3]; omega
theorem okRows_steps {x : Lf} (h : goodP x) (r : List Lf) (hr : okRows (x.virt + x.pages * 4096) r) : ∀ (c i : Nat), i + c = cntP x → okRows (x.virt + i * unitP x) ((List.range' i c).map (stepP x) ++ r) := by
  intro c
  induction c with
  | zero =>
    intro i hi
    have : i = cntP x := by omega
    subst this
    rw [(cnt_eq h).1]
    simpa using hr
  | succ c ih =>
    intro i hi
    rw [List.range'_succ, List.map_cons, List.cons_append]
    obtain ⟨hg, he⟩ := step_good h (show i < cntP x by omega)
    refine ⟨hg, Int.le_refl _, ?_⟩
    rw [he]
    exact ih (i + 1) (by omega)
theorem okRows_each : ∀ {l : List Lf} {b : Int}, okRows b l → okRows b (l.flatMap eachR) := by
  intro l
  induction l with
  | nil => intros; trivial
  | cons x r ih =>
    intro b h
    rw [List.flatMap_cons]
    have := okRows_steps h.1 _ (ih h.2.2) (cntP x) 0 (by omega)
    unfold eachR
    rw [List.range_eq_range']
    exact okRows_mono (by simpa using h.2.1) this
/-- does x go on y? -/
def goesOn (y x : Lf) : Prop := y.virt + y.pages * 4096 = x.virt ∧ y.phys + y.pages * 4096 = x.phys ∧ y.big = x.big ∧ y.write = x.write ∧ y.exec = x.exec
instance (y x : Lf) : Decidable (goesOn y x) := by unfold goesOn; infer_instance
def joinP (out : List Lf) (x : Lf) : List Lf :=
  match out.getLast? with
  | some y => if goesOn y x then out.dropLast ++ [{ y with pages := y.pages + x.pages }] else out ++ [x]
  | none => [x]
def runsP (l : List Lf) : List Lf := l.foldl joinP []
theorem joinP_nil (x : Lf) : joinP [] x = [x] := rfl
theorem joinP_snoc (out : List Lf) (y x : Lf) : joinP (out ++ [y]) x = if goesOn y x then out ++ [{ y with pages := y.pages + x.pages }] else out ++ [y] ++ [x] := by
  unfold joinP
  simp
/-- a row of c pages out of x -/
def headR (x : Lf) (c : Nat) : Lf := { x with pages := c * (unitP x / 4096) }
theorem unit_4096 (x : Lf) : unitP x / 4096 * 4096 = unitP x := by
  rcases unitP_cases x with ⟨e, _⟩ | ⟨e, _⟩ <;> rw [e] <;> rfl
theorem join_step (out : List Lf) (x : Lf) (c : Nat) : joinP (joinP out (headR x c)) (stepP x c) = joinP out (headR x (c + 1)) := by
  have hu := unit_4096 x
  have hm : (c : Int) * (unitP x / 4096) * 4096 = c * unitP x := by rw [Int.mul_assoc, hu]
  have hadd : (c : Int) * (unitP x / 4096) + unitP x / 4096 = ((c + 1 : Nat) : Int) * (unitP x / 4096) := by
    rw [Int.natCast_add, Int.add_mul]; simp
  have hg : goesOn (headR x c) (stepP x c) := by
    refine ⟨?_, ?_, rfl, rfl, rfl⟩
    · show x.virt + (c : Int) * (unitP x / 4096) * 4096 = _; rw [hm]; rfl
    · show x.phys + (c : Int) * (unitP x / 4096) * 4096 = _; rw [hm]; rfl
  have hj : ({ headR x c with pages := (headR x c).pages + (stepP x c).pages } : Lf) = headR x (c + 1) := by
    unfold headR stepP
    simp only [Lf.mk.injEq, true_and, and_true]
    exact hadd
  have hnext : ∀ o : List Lf, joinP (o ++ [headR x c]) (stepP x c) = o ++ [headR x (c + 1)] := by
    intro o
    rw [joinP_snoc, if_pos hg, hj]
  rcases List.eq_nil_or_concat out with rfl | ⟨o, y, rfl⟩
  · rw [joinP_nil, joinP_nil]
    exact hnext []
  · rw [List.concat_eq_append, joinP_snoc, joinP_snoc]
    by_cases h : goesOn y (headR x c)
    · have h' : goesOn y (headR x (c + 1)) := h
      rw [if_pos h, if_pos h']
      have h2 : goesOn { y with pages := y.pages + (headR x c).pages } (stepP x c) := by
        obtain ⟨a1, a2, a3, a4, a5⟩ := h
        refine ⟨?_, ?_, a3, a4, a5⟩
        · show y.virt + (y.pages + (c : Int) * (unitP x / 4096)) * 4096 = x.virt + c * unitP x
          rw [Int.add_mul, hm]
          have : y.virt + y.pages * 4096 = x.virt := a1
          omega
        · show y.phys + (y.pages + (c : Int) * (unitP x / 4096)) * 4096 = x.phys + c * unitP x
          rw [Int.add_mul, hm]
          have : y.phys + y.pages * 4096 = x.phys := a2
          omega
      rw [joinP_snoc, if_pos h2]
      congr 2
      show ({ y with pages := y.pages + (c : Int) * (unitP x / 4096) + unitP x / 4096 } : Lf) = { y with pages := y.pages + ((c + 1 : Nat) : Int) * (unitP x / 4096) }
      rw [Int.add_assoc, hadd]
    · have h' : ¬ goesOn y (headR x (c + 1)) := h
      rw [if_neg h, if_neg h']
      exact hnext _
theorem join_steps (out : List Lf) (x : Lf) : ∀ c : Nat, ((List.range (c + 1)).map (stepP x)).foldl joinP out = joinP out (headR x (c + 1)) := by
  intro c
  induction c with
  | zero =>
    have : stepP x 0 = headR x 1 := by
      unfold stepP headR
      simp
    simp [this]
  | succ c ih =>
    rw [List.range_succ, List.map_append, List.foldl_append, ih]
    exact join_step out x (c + 1)
theorem join_each {x : Lf} (h : goodP x) (out : List Lf) : (eachR x).foldl joinP out = joinP out x := by
  obtain ⟨c1, c2, c3⟩ := cnt_eq h
  obtain ⟨c, hc⟩ : ∃ c, cntP x = c + 1 := ⟨cntP x - 1, by omega⟩
  unfold eachR
  rw [hc, join_steps]
  have : headR x (c + 1) = x := by
    unfold headR
    rw [← hc, ← c3]
  rw [this]
theorem fold_each : ∀ {l : List Lf}, (∀ x ∈ l, goodP x) → ∀ out, (l.flatMap eachR).foldl joinP out = l.foldl joinP out := by
  intro l
  induction l with
  | nil => intro _ out; rfl
  | cons x r ih =>
    intro h out
    rw [List.flatMap_cons, List.foldl_append, join_each (h x (by simp)), List.foldl_cons]
    exact ih (fun y hy => h y (by simp [hy])) _
theorem runs_each {l : List Lf} (h : ∀ x ∈ l, goodP x) : runsP (l.flatMap eachR) = runsP l := fold_each h []
def endP (b : Int) (l : List Lf) : Int := l.foldl (fun _ x => x.virt + x.pages * 4096) b
theorem okRows_append : ∀ {l r : List Lf} {b : Int}, okRows b (l ++ r) ↔ okRows b l ∧ okRows (endP b l) r := by
  intro l
  induction l with
  | nil => intro r b; simp [okRows, endP]
  | cons x t ih =>
    intro r b
    show goodP x ∧ b ≤ x.virt ∧ okRows _ (t ++ r) ↔ (goodP x ∧ b ≤ x.virt ∧ okRows _ t) ∧ okRows (endP (x.virt + x.pages * 4096) t) r
    rw [ih]
    simp only [and_assoc]
theorem endP_snoc (b : Int) (l : List Lf) (x : Lf) : endP b (l ++ [x]) = x.virt + x.pages * 4096 := by simp [endP]
theorem each_join {y x : Lf} (hy : goodP y) (hx : goodP x) (h : goesOn y x) : goodP { y with pages := y.pages + x.pages } ∧ eachR { y with pages := y.pages + x.pages } = eachR y ++ eachR x := by
  obtain ⟨a1, a2, a3, a4, a5⟩ := h
  have hu : unitP x = unitP y := by unfold unitP; rw [a3]
  have hu2 : unitP { y with pages := y.pages + x.pages } = unitP y := rfl
  obtain ⟨c1, c2, c3⟩ := cnt_eq hy
  obtain ⟨d1, d2, d3⟩ := cnt_eq hx
  have y1 := hy.pages
  have y2 := hy.whole
  have x1 := hx.pages
  have x2 := hx.whole
  have x7 := hx.v1
  have x8 := hx.p1
  rw [hu] at d1 d3 x2
  have hgood : goodP { y with pages := y.pages + x.pages } := by
    refine ⟨?_, ?_, hy.virt, hy.phys, hy.v0, hy.p0, ?_, ?_⟩
    · show 1 ≤ y.pages + x.pages; omega
    · rw [hu2]
      show (y.pages + x.pages) * 4096 % unitP y = 0
      rcases unitP_cases y with ⟨e, _⟩ | ⟨e, _⟩ <;> rw [e] at y2 x2 ⊢ <;> omega
    · show y.virt + (y.pages + x.pages) * 4096 ≤ _; omega
    · show y.phys + (y.pages + x.pages) * 4096 ≤ _; omega
  refine ⟨hgood, ?_⟩
  have hcnt : cntP { y with pages := y.pages + x.pages } = cntP y + cntP x := by
    unfold cntP
    rw [hu2, hu]
    show ((y.pages + x.pages) * 4096 / unitP y).toNat = _
    rcases unitP_cases y with ⟨e, _⟩ | ⟨e, _⟩ <;> rw [e] at y2 x2 ⊢ <;> omega
  unfold eachR
  rw [hcnt, List.range_add, List.map_append, List.map_map]
  have h1 : (List.range (cntP y)).map (stepP { y with pages := y.pages + x.pages }) = (List.range (cntP y)).map (stepP y) := rfl
  rw [h1]
  congr 1
  apply List.map_congr_left
  intro j hj
  show stepP { y with pages := y.pages + x.pages } (cntP y + j) = stepP x j
  have hmul : ((cntP y + j : Nat) : Int) * unitP y = (cntP y : Int) * unitP y + j * unitP y := by rw [Int.natCast_add, Int.add_mul]
  unfold stepP
  rw [hu2, hu]
  simp only [Lf.mk.injEq, true_and]
  refine ⟨?_, ?_, a3, a4, a5⟩
  · rw [hmul]; omega
  · rw [hmul]; omega
theorem join_ok {out : List Lf} {x : Lf} (h : okRows 0 out) (hx : goodP x) (hb : endP 0 out ≤ x.virt) :
    okRows 0 (joinP out x) ∧ endP 0 (joinP out x) = x.virt + x.pages * 4096 ∧ (joinP out x).flatMap eachR = out.flatMap eachR ++ eachR x := by
  rcases List.eq_nil_or_concat out with rfl | ⟨o, y, rfl⟩
  · rw [joinP_nil]
    exact ⟨⟨hx, hb, trivial⟩, rfl, by simp⟩
  · rw [List.concat_eq_append] at *
    rw [joinP_snoc]
    have h2 := okRows_append.1 h
    by_cases hg : goesOn y x
    · rw [if_pos hg]
      obtain ⟨k1, k2⟩ := each_join h2.2.1 hx hg
      obtain ⟨a1, _⟩ := hg
      refine ⟨okRows_append.2 ⟨h2.1, k1, h2.2.2.1, trivial⟩, ?_, ?_⟩
      · rw [endP_snoc]; show y.virt + (y.pages + x.pages) * 4096 = _; omega
      · simp [List.flatMap_append, k2]
    · rw [if_neg hg]
      refine ⟨okRows_append.2 ⟨h, hx, hb, trivial⟩, by rw [endP_snoc], by simp [List.flatMap_append]⟩
theorem fold_ok : ∀ {l out : List Lf}, okRows 0 out → okRows (endP 0 out) l → okRows 0 (l.foldl joinP out) ∧ (l.foldl joinP out).flatMap eachR = out.flatMap eachR ++ l.flatMap eachR := by
  intro l
  induction l with
  | nil => intro out h _; exact ⟨h, by simp⟩
  | cons x r ih =>
    intro out h k
    obtain ⟨j1, j2, j3⟩ := join_ok h k.1 k.2.1
    rw [List.foldl_cons]
    obtain ⟨i1, i2⟩ := ih j1 (by rw [j2]; exact k.2.2)
    exact ⟨i1, by rw [i2, j3]; simp [List.append_assoc]⟩
theorem runs_ok {l : List Lf} (h : okRows 0 l) : okRows 0 (runsP l) ∧ (runsP l).flatMap eachR = l.flatMap eachR := by
  have := fold_ok (l := l) (out := []) trivial h
  exact ⟨this.1, by unfold runsP; simpa using this.2⟩
theorem runs_runs {l : List Lf} (h : okRows 0 l) : runsP (runsP l) = runsP l := by
  obtain ⟨h1, h2⟩ := runs_ok h
  rw [← runs_each (okRows_all h1), h2, runs_each (okRows_all h)]
/-- what of a builder does not hang on where its tables lie -/
def shapeP (s : Bp) : Nat × Nat × Nat × Int := (s.m, s.mid, s.low, s.virt)
theorem openMid_shape {b b' : Int} {s s' : Bp} (h : shapeP s = shapeP s') (v : Nat) : shapeP (openMid b s v) = shapeP (openMid b' s' v) := by
  obtain ⟨m, F, mid, low, vt⟩ := s
  obtain ⟨m', F', mid', low', vt'⟩ := s'
  simp only [shapeP, Prod.mk.injEq] at h
  obtain ⟨rfl, rfl, rfl, rfl⟩ := h
  unfold openMid
  dsimp only
  split <;> rfl
theorem openLow_shape {b b' : Int} {s s' : Bp} (h : shapeP s = shapeP s') (v : Nat) : shapeP (openLow b s v) = shapeP (openLow b' s' v) := by
  obtain ⟨m, F, mid, low, vt⟩ := s
  obtain ⟨m', F', mid', low', vt'⟩ := s'
  simp only [shapeP, Prod.mk.injEq] at h
  obtain ⟨rfl, rfl, rfl, rfl⟩ := h
  unfold openLow
  dsimp only
  split <;> rfl
theorem pageP_shape {b b' : Int} {s s' : Bp} (h : shapeP s = shapeP s') (v : Nat) (ph : Int) (x : Lf) : shapeP (pageP b s v ph x) = shapeP (pageP b' s' v ph x) := by
  have h1 := openMid_shape (b := b) (b' := b') h v
  have h2 := openLow_shape (b := b) (b' := b') h1 v
  unfold pageP
  split
  · simp only [shapeP, Prod.mk.injEq] at h1
    exact Prod.ext h1.1 (Prod.ext h1.2.1 rfl)
  · simp only [shapeP, Prod.mk.injEq] at h2
    exact Prod.ext h2.1 (Prod.ext h2.2.1 (Prod.ext h2.2.2.1 rfl))
theorem foldP_shape {b b' : Int} : ∀ (l : List Lf) {s s' : Bp}, shapeP s = shapeP s' → shapeP (foldP b l s).1 = shapeP (foldP b' l s').1 ∧ (foldP b l s).2 = (foldP b' l s').2 := by
  intro l
  induction l with
  | nil => intro s s' h; exact ⟨h, rfl⟩
  | cons y r ih =>
    intro s s' h
    have hp := pageP_shape (b := b) (b' := b') h y.virt.toNat y.phys y
    have hm : (pageP b s y.virt.toNat y.phys y).m = (pageP b' s' y.virt.toNat y.phys y).m := congrArg Prod.fst hp
    unfold foldP
    rw [hm]
    split
    · exact ⟨hp, rfl⟩
    · exact ih hp
theorem buildP_ok {base : Int} {l : List Lf} {s : Bp} : buildP base l = .ok s ↔ rightP 0 l = 0 ∧ foldP base (l.flatMap eachR) startP = (s, true) := by
  unfold buildP
  rw [foldP_rows]
  constructor
  · intro h
    split at h
    · cases h
    · rename_i h1
      split at h
      · rename_i h2
        cases h
        exact ⟨Decidable.not_not.1 h1, Prod.ext rfl h2⟩
      · cases h
  · rintro ⟨h1, h2⟩
    rw [if_neg (fun k => k h1), h2]
    rfl
theorem tablesP_ok {base : Int} {l : List Lf} {s : Bp} : tablesP base l = .ok s ↔ buildP (base / 4096 * 4096 % 4294967296) l = .ok s ∧ base % 4096 = 0 ∧ fitsP base s.m 4294967296 := by
  unfold tablesP
  cases h : buildP (base / 4096 * 4096 % 4294967296) l with
  | error c => simp
  | ok t =>
    dsimp only
    constructor
    · intro k
      split at k
      · cases k
      · rename_i h1
        split at k
        · rename_i h2
          cases k
          exact ⟨rfl, by omega, h2⟩
        · cases k
    · rintro ⟨k1, k2, k3⟩
      cases k1
      rw [if_neg (fun k => k k2), if_pos k3]
/-- rows of the same pages have the same tables -/
theorem tables_alike {base : Int} {l r : List Lf} {s : Bp} (h : tablesP base l = .ok s) (hr : rightP 0 r = 0) (e : r.flatMap eachR = l.flatMap eachR) : tablesP base r = .ok s := by
  obtain ⟨h1, h2, h3⟩ := tablesP_ok.1 h
  obtain ⟨k1, k2⟩ := buildP_ok.1 h1
  exact tablesP_ok.2 ⟨buildP_ok.2 ⟨hr, by rw [e]; exact k2⟩, h2, h3⟩
theorem count_alike {base : Int} {l : List Lf} {s : Bp} (h : tablesP base l = .ok s) : ∃ t, buildP 0 l = .ok t ∧ t.m = s.m := by
  obtain ⟨h1, h2, h3⟩ := tablesP_ok.1 h
  obtain ⟨k1, k2⟩ := buildP_ok.1 h1
  obtain ⟨j1, j2⟩ := foldP_shape (b := base / 4096 * 4096 % 4294967296) (b' := 0) (l.flatMap eachR) (s := startP) (s' := startP) rfl
  rw [k2] at j1 j2
  refine ⟨_, buildP_ok.2 ⟨k1, Prod.ext rfl j2.symm⟩, (congrArg Prod.fst j1).symm⟩
theorem nonneg_ok {b : Int} {l : List Lf} (h : okRows b l) : ∀ x ∈ l, 0 ≤ x.virt ∧ 0 ≤ x.phys := fun x hx => ⟨(okRows_all h x hx).v0, (okRows_all h x hx).p0⟩
theorem right_of_ok {l : List Lf} (h : okRows 0 l) : rightP 0 l = 0 := (right_ok (nonneg_ok h)).2 h
theorem each_each {l : List Lf} (h : ∀ x ∈ l, goodP x) : (l.flatMap eachR).flatMap eachR = l.flatMap eachR := by
  induction l with
  | nil => rfl
  | cons x r ih =>
    rw [List.flatMap_cons, List.flatMap_append, ih (fun y hy => h y (by simp [hy]))]
    congr 1
    have : ∀ y ∈ eachR x, eachR y = [y] := by
      intro y hy
      unfold eachR at hy
      obtain ⟨j, _, rfl⟩ := List.mem_map.1 hy
      have hc : cntP (stepP x j) = 1 := by
        unfold cntP
        rw [unitP_step]
        show (unitP x / 4096 * 4096 / unitP x).toNat = 1
        rw [unit_4096]
        rcases unitP_cases x with ⟨e, _⟩ | ⟨e, _⟩ <;> rw [e] <;> rfl
      show (List.range (cntP (stepP x j))).map (stepP (stepP x j)) = _
      rw [hc]
      show [stepP (stepP x j) 0] = _
      congr 1
      unfold stepP
      rw [show unitP (Lf.mk (x.virt + j * unitP x) (x.phys + j * unitP x) (unitP x / 4096) x.big x.write x.exec) = unitP x from rfl]
      simp
    have key : ∀ t : List Lf, (∀ y ∈ t, eachR y = [y]) → t.flatMap eachR = t := by
      intro t
      induction t with
      | nil => intro _; rfl
      | cons y u ihu =>
        intro hh
        rw [List.flatMap_cons, hh y (by simp), ihu (fun z hz => hh z (by simp [hz]))]
        rfl
    exact key _ this
end Go.Proofs.Ytaogndianciogaa.Mm
