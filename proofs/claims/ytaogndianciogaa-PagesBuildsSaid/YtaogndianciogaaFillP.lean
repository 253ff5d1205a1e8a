/- Plain law: the document's filling of the tables comes to the builder's entries. -/
import Derived.Test.YtaogndianciogaaTabP
namespace Go.Proofs.Ytaogndianciogaa.Mm
open Go.RowKit
set_option linter.unusedVariables false
set_option linter.unusedSimpArgs false
def setS (G : List Int) (s : Nat × Nat) (w : Int) : List Int := G.set (s.1 * 512 + s.2) w
def fillK (base : Int) (D : Nm) (c : Nat) (G : List Int) : List Int := (List.range c).foldl (fun G i => if 1 ≤ i then setS G (kidSlot D i) (kidW base i) else G) G
def fillL (D : Nm) (l : List Lf) (G : List Int) : List Int := l.foldl (fun G y => setS G (slotOf D y) (leafOf y)) G
theorem fillK_succ (base : Int) (D : Nm) (c : Nat) (G : List Int) : fillK base D (c + 1) G = if 1 ≤ c then setS (fillK base D c G) (kidSlot D c) (kidW base c) else fillK base D c G := by
  unfold fillK
  rw [List.range_succ, List.foldl_append]; rfl
theorem setS_length (G : List Int) (s : Nat × Nat) (w : Int) : (setS G s w).length = G.length := List.length_set
theorem fillK_length (base : Int) (D : Nm) (c : Nat) (G : List Int) : (fillK base D c G).length = G.length := by
  induction c with
  | zero => rfl
  | succ c ih =>
    rw [fillK_succ]
    split
    · rw [setS_length, ih]
    · exact ih
theorem fillL_length (D : Nm) : ∀ (l : List Lf) (G : List Int), (fillL D l G).length = G.length := by
  intro l
  induction l with
  | nil => intro G; rfl
  | cons y r ih =>
    intro G
    show (fillL D r (setS G (slotOf D y) (leafOf y))).length = _
    rw [ih, setS_length]
/-- all names lie in the space of virtual addresses -/
def Bnd (D : Nm) : Prop := ∀ e ∈ D, 0 ≤ e.2 ∧ e.2 < 549755813888
theorem Bnd.add {D : Nm} (h : Bnd D) {e : Int × Int} (he : 0 ≤ e.2 ∧ e.2 < 549755813888) : Bnd (addN D e) := by
  unfold addN
  split
  · exact h
  · intro f hf
    rcases List.mem_append.1 hf with hf | hf
    · exact h f hf
    · have : f = e := by simpa using hf
      rw [this]; exact he
theorem Bnd.win {D : Nm} (h : Bnd D) {v : Int} (h0 : 0 ≤ v) (h1 : v < 549755813888) (big : Bool) : Bnd (winP big D v) := by
  have a : Bnd (addN D (m30 v)) := h.add (by show 0 ≤ v / 1073741824 * 1073741824 ∧ v / 1073741824 * 1073741824 < _; omega)
  unfold winP
  split
  · exact a
  · exact a.add (by show 0 ≤ v / 2097152 * 2097152 ∧ v / 2097152 * 2097152 < _; omega)
theorem Bnd.fold : ∀ {l : List Lf} {D : Nm}, Bnd D → (∀ y ∈ l, 0 ≤ y.virt ∧ y.virt < 549755813888) → Bnd (foldN D l) := by
  intro l
  induction l with
  | nil => intro D h _; exact h
  | cons y r ih =>
    intro D h hy
    exact ih (h.win (hy y (by simp)).1 (hy y (by simp)).2 y.big) (fun z hz => hy z (by simp [hz]))
theorem names_bnd {l : List Lf} (h : ∀ x ∈ l.flatMap eachR, goodP x) : Bnd (namesP l) := by
  refine Bnd.fold (fun e he => ?_) (fun y hy => ?_)
  · have : e = (0, 0) := by simpa using he
    rw [this]; exact ⟨by decide, by decide⟩
  · have hg := h y hy
    have h1 := hg.v0
    have h2 := hg.v1
    have h3 := hg.pages
    omega
theorem kidSlot_lt {D : Nm} (h : NmOk D) (hb : Bnd D) {i : Nat} (hi : i < D.length) (h1 : 1 ≤ i) : (kidSlot D i).1 < D.length ∧ (kidSlot D i).2 < 512 := by
  have he : D[i]? = some (D[i]'hi) := List.getElem?_eq_getElem hi
  have hm : (D[i]'hi) ∈ D := List.getElem_mem hi
  have hbb := hb _ hm
  unfold kidSlot
  rw [he]
  dsimp only
  split
  · exact ⟨by show 0 < _; omega, by show ((D[i]'hi).2 / 1073741824).toNat < 512; omega⟩
  · rename_i hne
    rcases h.lv i _ h1 he with e1 | e2
    · exact absurd e1 hne
    · have : ((2, (D[i]'hi).2) : Int × Int) ∈ D := by
        have e : ((2, (D[i]'hi).2) : Int × Int) = D[i]'hi := Prod.ext e2.symm rfl
        rw [e]; exact hm
      exact ⟨idx_lt (h.up _ this), by show ((D[i]'hi).2 / 2097152 % 512).toNat < 512; omega⟩
theorem slotOf_lt {D : Nm} {l : List Lf} (h : Homes D l) {y : Lf} (hy : y ∈ l) : (slotOf D y).1 < D.length ∧ (slotOf D y).2 < 512 := by
  unfold slotOf
  cases hb : y.big with
  | true => simp only [if_true]; exact ⟨idx_lt ((h y hy).1 hb), by omega⟩
  | false => simp only [Bool.false_eq_true, if_false]; exact ⟨idx_lt ((h y hy).2 hb), by omega⟩
theorem tbl_setS {G : List Int} {m : Nat} (hG : G.length = m * 512) {s : Nat × Nat} (h1 : s.1 < m) (h2 : s.2 < 512) (w : Int) (t k : Nat) (hk : k < 512) : tbl (setS G s w) t k = if s = (t, k) then w else tbl G t k := by
  unfold setS
  rw [tbl_set h2 (by rw [hG]; omega) w t k hk]
  by_cases h : s = (t, k)
  · rw [if_pos h, if_pos ⟨(congrArg Prod.fst h).symm, (congrArg Prod.snd h).symm⟩]
  · rw [if_neg h, if_neg (fun e => h (Prod.ext e.1.symm e.2.symm))]
theorem tbl_fillK {base : Int} {D : Nm} (h : NmOk D) (hb : Bnd D) {G : List Int} (hG : G.length = D.length * 512) (hz : ∀ t k, k < 512 → tbl G t k = 0) (t k : Nat) (hk : k < 512) : ∀ c, c ≤ D.length → tbl (fillK base D c G) t k = slotK base D c t k := by
  intro c
  induction c with
  | zero => intro _; exact hz t k hk
  | succ c ih =>
    intro hc
    rw [fillK_succ, slotK_succ]
    by_cases h1 : 1 ≤ c
    · obtain ⟨a1, a2⟩ := kidSlot_lt h hb (i := c) (by omega) h1
      rw [if_pos h1, tbl_setS (m := D.length) (by rw [fillK_length]; exact hG) a1 a2 _ _ _ hk, ih (by omega)]
      by_cases h2 : kidSlot D c = (t, k)
      · rw [if_pos h2, if_pos ⟨h1, h2⟩]
      · rw [if_neg h2, if_neg (fun e => h2 e.2)]
    · rw [if_neg h1, if_neg (fun e => h1 e.1)]
      exact ih (by omega)
theorem tbl_fillL {D : Nm} {l : List Lf} (hh : Homes D l) {G : List Int} (hG : G.length = D.length * 512) (t k : Nat) (hk : k < 512) : tbl (fillL D l G) t k = (match slotL D l t k with | some w => w | none => tbl G t k) := by
  have key : ∀ (r : List Lf) (G : List Int) (acc : Option Int), G.length = D.length * 512 → (∀ y ∈ r, y ∈ l) → ∀ w0 : Int, tbl G t k = (match acc with | some w => w | none => w0) →
      tbl (fillL D r G) t k = (match r.foldl (fun acc y => if slotOf D y = (t, k) then some (leafOf y) else acc) acc with | some w => w | none => w0) := by
    intro r
    induction r with
    | nil => intro G acc _ _ w0 h; exact h
    | cons y r ih =>
      intro G acc hG hr w0 h
      obtain ⟨a1, a2⟩ := slotOf_lt hh (hr y (by simp))
      rw [List.foldl_cons]
      show tbl (fillL D r (setS G (slotOf D y) (leafOf y))) t k = _
      refine ih _ _ (by rw [setS_length]; exact hG) (fun z hz => hr z (by simp [hz])) w0 ?_
      rw [tbl_setS hG a1 a2 _ _ _ hk]
      by_cases h2 : slotOf D y = (t, k)
      · rw [if_pos h2, if_pos h2]
      · rw [if_neg h2, if_neg h2, h]
  exact key l G none hG (fun y hy => hy) (tbl G t k) rfl
/-- the entries, as the document fills them -/
def entP (base : Int) (D : Nm) (l : List Lf) : List Int := fillL D l (fillK base D D.length (List.replicate (D.length * 512) 0))
theorem entP_eq {base : Int} {l : List Lf} (h0 : ∀ x ∈ l, 0 ≤ x.virt ∧ 0 ≤ x.phys) (hr : rightP 0 l = 0) (hn : (namesP l).length ≤ 1024) : ∃ s, buildP base l = .ok s ∧ s.m = (namesP l).length ∧ s.F = entP base (namesP l) (l.flatMap eachR) := by
  obtain ⟨s, h1, h2, h3, h4, h5, h6⟩ := (tables_names (base := base) h0 hr).1 hn
  have ho := (right_ok h0).1 hr
  have hb := names_bnd (okRows_all (okRows_each ho))
  refine ⟨s, h1, h2, eq_of_tbl (m := s.m) h3 ?_ (fun t k ht hk => ?_)⟩
  · unfold entP
    rw [fillL_length, fillK_length, List.length_replicate, h2]
  · rw [h6 t k hk]
    unfold entP slotF
    have hlen : (fillK base (namesP l) (namesP l).length (List.replicate ((namesP l).length * 512) 0)).length = (namesP l).length * 512 := by rw [fillK_length, List.length_replicate]
    rw [tbl_fillL h5 hlen t k hk, tbl_fillK h4 hb List.length_replicate (fun t k hk => by
      unfold tbl
      rw [List.getD_eq_getElem?_getD, List.getElem?_replicate]
      split <;> rfl) t k hk _ (Nat.le_refl _)]
    cases slotL (namesP l) (l.flatMap eachR) t k <;> rfl
theorem leaf_entry {f : Int} (h0 : 0 ≤ f) (h1 : f < 4294967296) (h2 : f % 4096 = 0) (a b : Bool) : entryB (f + 1 + (if a then 2 else 0) + (if b then 4 else 0)) 2 = (⟨f, false, false, a, b⟩, 0) := by
  obtain ⟨A, hA, hA2⟩ : ∃ A : Int, (if a then 2 else 0 : Int) = A ∧ ((A = 0 ∧ a = false) ∨ (A = 2 ∧ a = true)) := by cases a <;> exact ⟨_, rfl, by simp⟩
  obtain ⟨B, hB, hB2⟩ : ∃ B : Int, (if b then 4 else 0 : Int) = B ∧ ((B = 0 ∧ b = false) ∨ (B = 4 ∧ b = true)) := by cases b <;> exact ⟨_, rfl, by simp⟩
  rw [hA, hB]
  unfold entryB
  have e1 : (f + 1 + A + B) / 4096 % 1048576 * 4096 = f := by omega
  have e2 : ((f + 1 + A + B) / 8 % 2 == 1) = false := by simp; omega
  have e3 : ((f + 1 + A + B) / 2 % 2 == 1) = a := by
    rcases hA2 with ⟨h, rfl⟩ | ⟨h, rfl⟩
    · simp; omega
    · simp; omega
  have e4 : ((f + 1 + A + B) / 4 % 2 == 1) = b := by
    rcases hB2 with ⟨h, rfl⟩ | ⟨h, rfl⟩
    · simp; omega
    · simp; omega
  rw [if_neg (by omega), if_neg (by omega), e1, if_neg (by omega), if_neg (by omega), if_neg (by omega), e2, e3, e4]
/-- what a page's entry is, as a sum -/
theorem leafOf_eq {y : Lf} (h : goodP y) : leafOf y = y.phys + (1 + (if y.write then 2 else 0) + (if y.exec then 4 else 0)) + (if y.big then 8 else 0) := by
  have h0 := h.p0
  have h1 := h.p1
  have h2 := h.pages
  have h3 := h.phys
  unfold leafOf
  cases hb : y.big with
  | true =>
    have hu : unitP y = 2097152 := by unfold unitP; rw [hb]; rfl
    rw [hu] at h3
    simp only [if_true]
    unfold leafW makeA
    rw [if_neg (by omega)]
    dsimp only
    rw [hb, flags_eq h0 (by omega)]
    simp only [if_true]
    rw [big_entry h0 (by omega) h3, if_neg (by simp)]
    show _ = _
    omega
  | false =>
    have hu : unitP y = 4096 := by unfold unitP; rw [hb]; rfl
    rw [hu] at h3
    simp only [Bool.false_eq_true, if_false]
    unfold leafW makeA
    rw [if_neg (by omega)]
    dsimp only
    rw [hb, flags_eq h0 (by omega)]
    simp only [Bool.false_eq_true, if_false, Int.add_zero]
    rw [leaf_entry h0 (by omega) h3, if_neg (by simp)]
    show _ = _
    omega
end Go.Proofs.Ytaogndianciogaa.Mm
