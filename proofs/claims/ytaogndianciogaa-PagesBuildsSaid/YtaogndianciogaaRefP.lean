/- Plain law: the tables that the document names, and their entries, are the builder's. -/
import Derived.Test.YtaogndianciogaaTreeP
namespace Go.Proofs.Ytaogndianciogaa.Mm
open Go.RowKit
set_option linter.unusedVariables false
set_option linter.unusedSimpArgs false
abbrev Nm := List (Int × Int)
def m30 (v : Int) : Int × Int := (1, v / 1073741824 * 1073741824)
def m21 (v : Int) : Int × Int := (2, v / 2097152 * 2097152)
def addN (D : Nm) (e : Int × Int) : Nm := if e ∈ D then D else D ++ [e]
/-- the tables that a page wants -/
def winP (big : Bool) (D : Nm) (v : Int) : Nm := if big then addN D (m30 v) else addN (addN D (m30 v)) (m21 v)
def foldN (D : Nm) (l : List Lf) : Nm := l.foldl (fun D y => winP y.big D y.virt) D
def idxN (D : Nm) (e : Int × Int) : Nat := D.findIdx (fun x => decide (x = e))
theorem idx_lt {D : Nm} {e : Int × Int} (h : e ∈ D) : idxN D e < D.length := List.findIdx_lt_length_of_exists ⟨e, h, by simp⟩
theorem idx_get {D : Nm} {e : Int × Int} (h : e ∈ D) : D[idxN D e]? = some e := by
  have hl := idx_lt h
  have := List.findIdx_getElem (p := fun x => decide (x = e)) (w := hl)
  rw [List.getElem?_eq_getElem hl]
  congr 1
  unfold idxN
  simpa using this
theorem idx_append {D : Nm} {e : Int × Int} (h : e ∈ D) (X : Nm) : idxN (D ++ X) e = idxN D e := by
  have hl := idx_lt h
  unfold idxN at hl ⊢
  rw [List.findIdx_append, if_pos hl]
theorem idx_inj {D : Nm} {e f : Int × Int} (h : e ∈ D) (k : f ∈ D) (hi : idxN D e = idxN D f) : e = f := by
  have h1 := idx_get h
  rw [hi, idx_get k] at h1
  exact (Option.some.inj h1).symm
theorem idx_new {D : Nm} {e : Int × Int} (h : e ∉ D) : idxN (D ++ [e]) e = D.length := by
  have hl : D.findIdx (fun x => decide (x = e)) = D.length := by
    apply List.findIdx_eq_length_of_false
    intro x hx
    simp
    rintro rfl; exact h hx
  unfold idxN
  rw [List.findIdx_append, hl, if_neg (Nat.lt_irrefl _), List.findIdx_cons]
  simp
/-- where a page's entry lies, and what it says -/
def slotOf (D : Nm) (y : Lf) : Nat × Nat :=
  if y.big then (idxN D (m30 y.virt), (y.virt / 2097152 % 512).toNat) else (idxN D (m21 y.virt), (y.virt / 4096 % 512).toNat)
def leafOf (y : Lf) : Int := if y.big then leafW y.phys y 1 else leafW y.phys y 2
def slotL (D : Nm) (l : List Lf) (t k : Nat) : Option Int := l.foldl (fun acc y => if slotOf D y = (t, k) then some (leafOf y) else acc) none
/-- where the i-th table is named -/
def kidSlot (D : Nm) (i : Nat) : Nat × Nat :=
  match D[i]? with
  | some e => if e.1 = 1 then (0, (e.2 / 1073741824).toNat) else (idxN D (m30 e.2), (e.2 / 2097152 % 512).toNat)
  | none => (0, 512)
def slotK (base : Int) (D : Nm) (c : Nat) (t k : Nat) : Int := (List.range c).foldl (fun acc i => if 1 ≤ i ∧ kidSlot D i = (t, k) then kidW base i else acc) 0
def slotF (base : Int) (D : Nm) (l : List Lf) (t k : Nat) : Int :=
  match slotL D l t k with
  | some w => w
  | none => slotK base D D.length t k
theorem slotL_snoc (D : Nm) (l : List Lf) (y : Lf) (t k : Nat) : slotL D (l ++ [y]) t k = if slotOf D y = (t, k) then some (leafOf y) else slotL D l t k := by
  unfold slotL
  rw [List.foldl_append]; rfl
theorem slotK_succ (base : Int) (D : Nm) (c t k : Nat) : slotK base D (c + 1) t k = if 1 ≤ c ∧ kidSlot D c = (t, k) then kidW base c else slotK base D c t k := by
  unfold slotK
  rw [List.range_succ, List.foldl_append]; rfl
/-- what is true of the tables' names -/
structure NmOk (D : Nm) : Prop where
  head : D[0]? = some (0, 0)
  lv : ∀ (i : Nat) (e : Int × Int), 1 ≤ i → D[i]? = some e → e.1 = 1 ∨ e.1 = 2
  up : ∀ w, ((2, w) : Int × Int) ∈ D → m30 w ∈ D
  one : ∀ (i j : Nat) (e : Int × Int), D[i]? = some e → D[j]? = some e → i = j
theorem NmOk.idx_pos {D : Nm} (h : NmOk D) {e : Int × Int} (he : e ∈ D) (h0 : e.1 ≠ 0) : 1 ≤ idxN D e := by
  have h1 := idx_get he
  cases hi : idxN D e with
  | zero =>
    rw [hi, h.head] at h1
    have := Option.some.inj h1
    rw [← this] at h0
    exact absurd rfl h0
  | succ n => omega
theorem NmOk.idx {D : Nm} (h : NmOk D) {i : Nat} {e : Int × Int} (he : D[i]? = some e) : idxN D e = i := h.one _ _ e (idx_get (List.mem_of_getElem? he)) he
theorem NmOk.snoc {D : Nm} (h : NmOk D) {e : Int × Int} (hn : e ∉ D) (hl : e.1 = 1 ∨ (e.1 = 2 ∧ m30 e.2 ∈ D)) : NmOk (D ++ [e]) := by
  have h0 := (List.getElem?_eq_some_iff.1 h.head).1
  have key : ∀ (i : Nat) (f : Int × Int), (D ++ [e])[i]? = some f → (i < D.length ∧ D[i]? = some f) ∨ (i = D.length ∧ f = e) := by
    intro i f hf
    by_cases hi : i < D.length
    · rw [List.getElem?_append_left hi] at hf; exact .inl ⟨hi, hf⟩
    · rw [List.getElem?_append_right (by omega)] at hf
      have h2 := (List.getElem?_eq_some_iff.1 hf).1
      simp at h2
      rw [h2] at hf
      simp at hf
      exact .inr ⟨by omega, hf.symm⟩
  refine ⟨?_, ?_, ?_, ?_⟩
  · rw [List.getElem?_append_left h0]; exact h.head
  · intro i f hi hf
    rcases key i f hf with ⟨_, hf⟩ | ⟨_, rfl⟩
    · exact h.lv i f hi hf
    · exact hl.imp id (fun k => k.1)
  · intro w hw
    rcases List.mem_append.1 hw with hw | hw
    · exact List.mem_append.2 (.inl (h.up w hw))
    · have he : (2, w) = e := by simpa using hw
      rcases hl with hl | ⟨_, hl⟩
      · rw [← he] at hl; cases hl
      · rw [← he] at hl; exact List.mem_append.2 (.inl hl)
  · intro i j f hi hj
    rcases key i f hi with ⟨_, hi2⟩ | ⟨hi, rfl⟩
    · rcases key j f hj with ⟨_, hj⟩ | ⟨_, rfl⟩
      · exact h.one i j f hi2 hj
      · exact absurd (List.mem_of_getElem? hi2) hn
    · rcases key j f hj with ⟨_, hj⟩ | ⟨hj, _⟩
      · exact absurd (List.mem_of_getElem? hj) hn
      · omega
theorem kidSlot_append {D : Nm} (h : NmOk D) (X : Nm) {i : Nat} (hi : i < D.length) (h1 : 1 ≤ i) : kidSlot (D ++ X) i = kidSlot D i := by
  have he : D[i]? = some (D[i]'hi) := List.getElem?_eq_getElem hi
  unfold kidSlot
  rw [List.getElem?_append_left hi, he]
  dsimp only
  split
  · rfl
  · rename_i hne
    have hm : (D[i]'hi) ∈ D := List.getElem_mem hi
    rcases h.lv i _ h1 he with e1 | e2
    · exact absurd e1 hne
    · have : ((2, (D[i]'hi).2) : Int × Int) ∈ D := by
        have e : ((2, (D[i]'hi).2) : Int × Int) = D[i]'hi := Prod.ext e2.symm rfl
        rw [e]; exact hm
      rw [idx_append (h.up _ this)]
theorem slotK_append {base : Int} {D : Nm} (h : NmOk D) (X : Nm) (t k : Nat) : ∀ c, c ≤ D.length → slotK base (D ++ X) c t k = slotK base D c t k := by
  intro c
  induction c with
  | zero => intro _; rfl
  | succ c ih =>
    intro hc
    rw [slotK_succ, slotK_succ, ih (by omega)]
    by_cases h1 : 1 ≤ c
    · rw [kidSlot_append h X (by omega) h1]
    · rw [if_neg (fun k => h1 k.1), if_neg (fun k => h1 k.1)]
/-- each page's own table is named -/
def Homes (D : Nm) (l : List Lf) : Prop := ∀ y ∈ l, (y.big = true → m30 y.virt ∈ D) ∧ (y.big = false → m21 y.virt ∈ D)
theorem Homes.append {D : Nm} {l : List Lf} (h : Homes D l) (X : Nm) : Homes (D ++ X) l := fun y hy => ⟨fun hb => List.mem_append.2 (.inl ((h y hy).1 hb)), fun hb => List.mem_append.2 (.inl ((h y hy).2 hb))⟩
theorem slotOf_append {D : Nm} {l : List Lf} (h : Homes D l) (X : Nm) {y : Lf} (hy : y ∈ l) : slotOf (D ++ X) y = slotOf D y := by
  unfold slotOf
  cases hb : y.big with
  | true => simp only [if_true]; rw [idx_append ((h y hy).1 hb)]
  | false => simp only [Bool.false_eq_true, if_false]; rw [idx_append ((h y hy).2 hb)]
theorem slotL_append {D : Nm} {l : List Lf} (h : Homes D l) (X : Nm) (t k : Nat) : slotL (D ++ X) l t k = slotL D l t k := by
  have key : ∀ (r : List Lf) (acc : Option Int), (∀ y ∈ r, y ∈ l) → r.foldl (fun acc y => if slotOf (D ++ X) y = (t, k) then some (leafOf y) else acc) acc = r.foldl (fun acc y => if slotOf D y = (t, k) then some (leafOf y) else acc) acc := by
    intro r
    induction r with
    | nil => intro _ _; rfl
    | cons y r ih =>
      intro acc hr
      rw [List.foldl_cons, List.foldl_cons, slotOf_append h X (hr y (by simp))]
      exact ih _ (fun z hz => hr z (by simp [hz]))
  exact key l none (fun y hy => hy)
theorem slotL_none {D : Nm} {l : List Lf} {t k : Nat} (h : ∀ y ∈ l, slotOf D y ≠ (t, k)) : slotL D l t k = none := by
  have key : ∀ (r : List Lf) (acc : Option Int), (∀ y ∈ r, y ∈ l) → r.foldl (fun acc y => if slotOf D y = (t, k) then some (leafOf y) else acc) acc = acc := by
    intro r
    induction r with
    | nil => intro _ _; rfl
    | cons y r ih =>
      intro acc hr
      rw [List.foldl_cons, if_neg (h y (hr y (by simp)))]
      exact ih _ (fun z hz => hr z (by simp [hz]))
  exact key l none (fun y hy => hy)
/-- the builder and the names beside one another -/
structure Twin (base : Int) (s : Bp) (D : Nm) (l : List Lf) (b : Int) : Prop where
  ok : NmOk D
  len : D.length = s.m
  lenF : s.F.length = s.m * 512
  v0 : 0 ≤ s.virt
  emp : s.mid = 0 → D = [(0, 0)] ∧ s.low = 0
  mid : s.mid ≠ 0 → D[s.mid]? = some (m30 s.virt) ∧ s.virt < b
  low : s.low ≠ 0 → D[s.low]? = some (m21 s.virt)
  big : s.mid ≠ 0 → s.low = 0 → s.virt % 2097152 = 0 ∧ s.virt + 2097152 ≤ b
  top1 : ∀ w, ((1, w) : Int × Int) ∈ D → w ≤ (m30 s.virt).2 ∧ s.mid ≠ 0
  top2 : ∀ w, ((2, w) : Int × Int) ∈ D → w ≤ (m21 s.virt).2 ∧ s.mid ≠ 0
  homes : Homes D l
  ahead : ∀ y ∈ l, y.virt + unitP y ≤ b ∧ 0 ≤ y.virt
  slots : ∀ t k, k < 512 → tbl s.F t k = slotF base D l t k
theorem Twin.start (base : Int) : Twin base startP [(0, 0)] [] 0 := by
  refine ⟨⟨rfl, fun i e hi he => ?_, fun w hw => ?_, fun i j e hi hj => ?_⟩, rfl, List.length_replicate, by decide, fun _ => ⟨rfl, rfl⟩, fun h => absurd rfl h, fun h => absurd rfl h, fun h => absurd rfl h, fun w hw => ?_, fun w hw => ?_, fun y hy => (by cases hy), fun y hy => (by cases hy), fun t k hk => ?_⟩
  · have := (List.getElem?_eq_some_iff.1 he).1
    simp at this; omega
  · simp at hw
  · have h1 := (List.getElem?_eq_some_iff.1 hi).1
    have h2 := (List.getElem?_eq_some_iff.1 hj).1
    simp at h1 h2; omega
  · simp at hw
  · simp at hw
  · have h1 : slotF base [(0, 0)] [] t k = 0 := by
      unfold slotF slotL slotK
      rfl
    rw [h1]
    unfold tbl startP
    rw [List.getD_eq_getElem?_getD, List.getElem?_replicate]
    split <;> rfl
theorem mem_snoc_ne {D : Nm} {e f : Int × Int} (h : e ∈ D ++ [f]) (hne : e ≠ f) : e ∈ D := by
  rcases List.mem_append.1 h with h | h
  · exact h
  · exact absurd (by simpa using h) hne
/-- the middle table of the next page -/
structure Twin1 (base : Int) (s : Bp) (D : Nm) (l : List Lf) (b : Int) (v : Nat) : Prop where
  ok : NmOk D
  len : D.length = s.m
  lenF : s.F.length = s.m * 512
  midL : s.mid < s.m
  mid : D[s.mid]? = some (m30 v)
  low : (s.low ≠ 0 ∧ (v : Int) / 2097152 = s.virt / 2097152) → D[s.low]? = some (m21 v)
  fresh : ¬ (s.low ≠ 0 ∧ (v : Int) / 2097152 = s.virt / 2097152) → m21 v ∉ D
  top1 : ∀ w, ((1, w) : Int × Int) ∈ D → w ≤ (m30 v).2
  top2 : ∀ w, ((2, w) : Int × Int) ∈ D → w ≤ (m21 v).2
  homes : Homes D l
  ahead : ∀ y ∈ l, y.virt + unitP y ≤ v ∧ 0 ≤ y.virt
  slots : ∀ t k, k < 512 → tbl s.F t k = slotF base D l t k
theorem addN_mem {D : Nm} {e : Int × Int} (h : e ∈ D) : addN D e = D := if_pos h
theorem addN_new {D : Nm} {e : Int × Int} (h : e ∉ D) : addN D e = D ++ [e] := if_neg h
theorem lt_of_get {D : Nm} {i : Nat} {e : Int × Int} (h : D[i]? = some e) : i < D.length := (List.getElem?_eq_some_iff.1 h).1
theorem mem_of_get {D : Nm} {i : Nat} {e : Int × Int} (h : D[i]? = some e) : e ∈ D := List.mem_of_getElem? h
theorem openMid_twin {base : Int} {s : Bp} {D : Nm} {l : List Lf} {b : Int} (h : Twin base s D l b) {v : Nat} (hv : (v : Int) < 549755813888) (hb : b ≤ v) : Twin1 base (openMid base s v) (addN D (m30 v)) l b v := by
  have hv0 := h.v0
  have hj : v / 1073741824 < 512 := by omega
  unfold openMid
  by_cases hc : s.mid = 0 ∨ (v : Int) / 1073741824 ≠ s.virt / 1073741824
  · rw [if_pos hc]
    have hnew : m30 v ∉ D := by
      intro hm
      obtain ⟨t1, t2⟩ := h.top1 _ hm
      obtain ⟨k1, k2⟩ := h.mid t2
      have hne := hc.resolve_left t2
      have t1' : (v : Int) / 1073741824 * 1073741824 ≤ s.virt / 1073741824 * 1073741824 := t1
      omega
    have hvv : s.mid ≠ 0 → s.virt / 1073741824 < (v : Int) / 1073741824 := by
      intro t2
      have hne := hc.resolve_left t2
      have := (h.mid t2).2
      omega
    rw [addN_new hnew]
    have hm1 : 1 ≤ s.m := by
      have := lt_of_get h.ok.head; rw [h.len] at this; omega
    have hok : NmOk (D ++ [m30 v]) := h.ok.snoc hnew (.inl rfl)
    refine ⟨hok, by rw [List.length_append, h.len]; rfl, ?_, by show s.m < s.m + 1; omega, ?_, fun hh => absurd rfl hh.1, fun _ => ?_, ?_, ?_, h.homes.append _, fun y hy => ⟨by have := (h.ahead y hy).1; omega, (h.ahead y hy).2⟩, ?_⟩
    · show (childF base s.F s.m 0 (v / 1073741824)).length = (s.m + 1) * 512
      unfold childF
      rw [List.length_set, List.length_append, List.length_replicate, h.lenF]; omega
    · show (D ++ [m30 v])[s.m]? = _
      rw [← h.len, List.getElem?_append_right (Nat.le_refl _), Nat.sub_self]; rfl
    · intro hm
      have hm2 := mem_snoc_ne hm (fun e => by cases e)
      obtain ⟨t1, t2⟩ := h.top2 _ hm2
      have := hvv t2
      have t1' : (v : Int) / 2097152 * 2097152 ≤ s.virt / 2097152 * 2097152 := t1
      omega
    · intro w hw
      rcases List.mem_append.1 hw with hw | hw
      · obtain ⟨t1, t2⟩ := h.top1 _ hw
        have := hvv t2
        have t1' : w ≤ s.virt / 1073741824 * 1073741824 := t1
        show w ≤ (v : Int) / 1073741824 * 1073741824
        omega
      · have : (1, w) = m30 v := by simpa using hw
        exact Int.le_of_eq (congrArg Prod.snd this)
    · intro w hw
      have hm2 := mem_snoc_ne hw (fun e => by cases e)
      obtain ⟨t1, t2⟩ := h.top2 _ hm2
      have := hvv t2
      have t1' : w ≤ s.virt / 2097152 * 2097152 := t1
      show w ≤ (v : Int) / 2097152 * 2097152
      omega
    · intro t k hk
      show tbl (childF base s.F s.m 0 (v / 1073741824)) t k = _
      have hT : tbl (childF base s.F s.m 0 (v / 1073741824)) t k = if t = 0 ∧ k = v / 1073741824 then kidW base s.m else tbl s.F t k := by
        unfold childF
        have := tbl_set (F := s.F ++ List.replicate 512 0) (t := 0) (i := v / 1073741824) hj (by rw [List.length_append, List.length_replicate]; omega) (kidW base s.m) t k hk
        rw [this, tbl_zeros]
      rw [hT, h.slots t k hk]
      unfold slotF
      rw [slotL_append h.homes, List.length_append, List.length_singleton, slotK_succ, slotK_append h.ok _ _ _ _ (Nat.le_refl _)]
      have hks : kidSlot (D ++ [m30 v]) D.length = (0, v / 1073741824) := by
        unfold kidSlot
        rw [List.getElem?_append_right (Nat.le_refl _), Nat.sub_self]
        show (0, ((v : Int) / 1073741824 * 1073741824 / 1073741824).toNat) = _
        congr 1
        omega
      rw [hks]
      by_cases hs : t = 0 ∧ k = v / 1073741824
      · obtain ⟨rfl, rfl⟩ := hs
        have hn : slotL D l 0 (v / 1073741824) = none := by
          refine slotL_none fun y hy e => ?_
          unfold slotOf at e
          cases hbg : y.big with
          | true =>
            rw [hbg] at e
            have := h.ok.idx_pos ((h.homes y hy).1 hbg) (show (1 : Int) ≠ 0 by decide)
            have h2 : idxN D (m30 y.virt) = 0 := congrArg Prod.fst e
            omega
          | false =>
            rw [hbg] at e
            have := h.ok.idx_pos ((h.homes y hy).2 hbg) (show (2 : Int) ≠ 0 by decide)
            have h2 : idxN D (m21 y.virt) = 0 := congrArg Prod.fst e
            omega
        rw [hn, if_pos ⟨rfl, rfl⟩, h.len]
        show _ = if 1 ≤ s.m ∧ _ then _ else _
        rw [if_pos ⟨hm1, rfl⟩]
      · rw [if_neg hs, if_neg (fun hh => hs (by have := hh.2; simp only [Prod.mk.injEq] at this; exact ⟨this.1.symm, this.2.symm⟩))]
  · rw [if_neg hc]
    have hz : s.mid ≠ 0 := fun e => hc (.inl e)
    have he : (v : Int) / 1073741824 = s.virt / 1073741824 := Decidable.not_not.1 (fun e => hc (.inr e))
    obtain ⟨k1, k2⟩ := h.mid hz
    have e30 : m30 v = m30 s.virt := by unfold m30; rw [he]
    rw [addN_mem (by rw [e30]; exact mem_of_get k1)]
    refine ⟨h.ok, h.len, h.lenF, by rw [← h.len]; exact lt_of_get k1, by rw [e30]; exact k1, fun hh => ?_, fun hh hm => ?_, ?_, ?_, h.homes, fun y hy => ⟨by have := (h.ahead y hy).1; omega, (h.ahead y hy).2⟩, h.slots⟩
    · have e21 : m21 v = m21 s.virt := by unfold m21; rw [hh.2]
      rw [e21]; exact h.low hh.1
    · obtain ⟨t1, t2⟩ := h.top2 _ hm
      have t1' : (v : Int) / 2097152 * 2097152 ≤ s.virt / 2097152 * 2097152 := t1
      by_cases hl : s.low = 0
      · obtain ⟨g1, g2⟩ := h.big hz hl
        omega
      · exact hh ⟨hl, by omega⟩
    · intro w hw
      rw [e30]; exact (h.top1 w hw).1
    · intro w hw
      have t1 : w ≤ s.virt / 2097152 * 2097152 := (h.top2 w hw).1
      show w ≤ (v : Int) / 2097152 * 2097152
      omega
/-- the low table of the next small page -/
structure Twin2 (base : Int) (s : Bp) (D : Nm) (l : List Lf) (v : Nat) : Prop where
  ok : NmOk D
  len : D.length = s.m
  lenF : s.F.length = s.m * 512
  mid : D[s.mid]? = some (m30 v)
  low : D[s.low]? = some (m21 v)
  top1 : ∀ w, ((1, w) : Int × Int) ∈ D → w ≤ (m30 v).2
  top2 : ∀ w, ((2, w) : Int × Int) ∈ D → w ≤ (m21 v).2
  homes : Homes D l
  slots : ∀ t k, k < 512 → tbl s.F t k = slotF base D l t k
theorem NmOk.pos {D : Nm} (h : NmOk D) {i : Nat} {e : Int × Int} (he : D[i]? = some e) (h0 : e.1 ≠ 0) : 1 ≤ i := by
  cases i with
  | zero =>
    rw [h.head] at he
    have := Option.some.inj he
    rw [← this] at h0
    exact absurd rfl h0
  | succ n => omega
theorem openLow_twin {base : Int} {s : Bp} {D : Nm} {l : List Lf} {b : Int} {v : Nat} (h : Twin1 base s D l b v) (hv : (v : Int) < 549755813888) : Twin2 base (openLow base s v) (addN D (m21 v)) l v := by
  have hk : v / 2097152 % 512 < 512 := by omega
  have hmid1 := h.midL
  unfold openLow
  by_cases hc : s.low = 0 ∨ (v : Int) / 2097152 ≠ s.virt / 2097152
  · have hn : ¬ (s.low ≠ 0 ∧ (v : Int) / 2097152 = s.virt / 2097152) := fun hh => hc.elim hh.1 (fun k => k hh.2)
    rw [if_pos hc]
    have hnew := h.fresh hn
    have hmm : m30 (m21 (v : Int)).2 = m30 v := by
      unfold m30 m21
      have : (v : Int) / 2097152 * 2097152 / 1073741824 = v / 1073741824 := by omega
      show ((1 : Int), (v : Int) / 2097152 * 2097152 / 1073741824 * 1073741824) = _
      rw [this]
    have hmem : m30 (v : Int) ∈ D := mem_of_get h.mid
    rw [addN_new hnew]
    refine ⟨h.ok.snoc hnew (.inr ⟨rfl, by rw [hmm]; exact hmem⟩), by rw [List.length_append, h.len]; rfl, ?_, ?_, ?_, ?_, ?_, h.homes.append _, ?_⟩
    · show (childF base s.F s.m s.mid (v / 2097152 % 512)).length = (s.m + 1) * 512
      unfold childF
      rw [List.length_set, List.length_append, List.length_replicate, h.lenF]; omega
    · show (D ++ [m21 v])[s.mid]? = _
      rw [List.getElem?_append_left (lt_of_get h.mid)]; exact h.mid
    · show (D ++ [m21 v])[s.m]? = _
      rw [← h.len, List.getElem?_append_right (Nat.le_refl _), Nat.sub_self]; rfl
    · intro w hw
      exact h.top1 w (mem_snoc_ne hw (fun e => by cases e))
    · intro w hw
      rcases List.mem_append.1 hw with hw | hw
      · exact h.top2 w hw
      · have : (2, w) = m21 v := by simpa using hw
        exact Int.le_of_eq (congrArg Prod.snd this)
    · intro t k hkk
      show tbl (childF base s.F s.m s.mid (v / 2097152 % 512)) t k = _
      have hT : tbl (childF base s.F s.m s.mid (v / 2097152 % 512)) t k = if t = s.mid ∧ k = v / 2097152 % 512 then kidW base s.m else tbl s.F t k := by
        unfold childF
        have := tbl_set (F := s.F ++ List.replicate 512 0) (t := s.mid) (i := v / 2097152 % 512) hk (by rw [List.length_append, List.length_replicate, h.lenF]; omega) (kidW base s.m) t k hkk
        rw [this, tbl_zeros]
      rw [hT, h.slots t k hkk]
      unfold slotF
      rw [slotL_append h.homes, List.length_append, List.length_singleton, slotK_succ, slotK_append h.ok _ _ _ _ (Nat.le_refl _)]
      have hks : kidSlot (D ++ [m21 v]) D.length = (s.mid, v / 2097152 % 512) := by
        unfold kidSlot
        rw [List.getElem?_append_right (Nat.le_refl _), Nat.sub_self]
        show (idxN (D ++ [m21 v]) (m30 (m21 (v : Int)).2), ((v : Int) / 2097152 * 2097152 / 2097152 % 512).toNat) = _
        rw [hmm, idx_append hmem, h.ok.idx h.mid]
        congr 1
        omega
      rw [hks]
      have hm1 : 1 ≤ D.length := by rw [h.len]; omega
      by_cases hs : t = s.mid ∧ k = v / 2097152 % 512
      · obtain ⟨rfl, rfl⟩ := hs
        have hnn : slotL D l s.mid (v / 2097152 % 512) = none := by
          refine slotL_none fun y hy e => ?_
          obtain ⟨a1, a2⟩ := h.ahead y hy
          unfold slotOf at e
          cases hbg : y.big with
          | true =>
            rw [hbg] at e
            have e1 : idxN D (m30 y.virt) = s.mid := congrArg Prod.fst e
            have e2 : (y.virt / 2097152 % 512).toNat = v / 2097152 % 512 := congrArg Prod.snd e
            rw [← h.ok.idx h.mid] at e1
            have e3 := congrArg Prod.snd (idx_inj ((h.homes y hy).1 hbg) hmem e1)
            have e4 : y.virt / 1073741824 * 1073741824 = (v : Int) / 1073741824 * 1073741824 := e3
            have hu : unitP y = 2097152 := by unfold unitP; rw [hbg]; rfl
            rw [hu] at a1
            omega
          | false =>
            rw [hbg] at e
            have e1 : idxN D (m21 y.virt) = s.mid := congrArg Prod.fst e
            rw [← h.ok.idx h.mid] at e1
            have e3 := congrArg Prod.fst (idx_inj ((h.homes y hy).2 hbg) hmem e1)
            cases e3
        rw [hnn, if_pos ⟨rfl, rfl⟩, h.len]
        show _ = if 1 ≤ s.m ∧ _ then _ else _
        rw [if_pos ⟨by omega, rfl⟩]
      · rw [if_neg hs, if_neg (fun hh => hs (by have := hh.2; simp only [Prod.mk.injEq] at this; exact ⟨this.1.symm, this.2.symm⟩))]
  · rw [if_neg hc]
    have hh : s.low ≠ 0 ∧ (v : Int) / 2097152 = s.virt / 2097152 := ⟨fun e => hc (.inl e), Decidable.not_not.1 (fun e => hc (.inr e))⟩
    have hl := h.low hh
    rw [addN_mem (mem_of_get hl)]
    exact ⟨h.ok, h.len, h.lenF, h.mid, hl, h.top1, h.top2, h.homes, h.slots⟩
theorem slot_set {base : Int} {F : List Int} {D : Nm} {l : List Lf} {m T K : Nat} {y : Lf} (hF : F.length = m * 512) (hT : T < m) (hK : K < 512) (hs : ∀ t k, k < 512 → tbl F t k = slotF base D l t k) (hy : slotOf D y = (T, K)) (t k : Nat) (hk : k < 512) :
    tbl (F.set (T * 512 + K) (leafOf y)) t k = slotF base D (l ++ [y]) t k := by
  rw [tbl_set hK (by rw [hF]; omega) _ _ _ hk]
  unfold slotF
  rw [slotL_snoc, hy]
  by_cases h : t = T ∧ k = K
  · obtain ⟨rfl, rfl⟩ := h
    rw [if_pos ⟨rfl, rfl⟩, if_pos rfl]
  · rw [if_neg h, if_neg (fun e => h (by simp only [Prod.mk.injEq] at e; exact ⟨e.1.symm, e.2.symm⟩)), hs t k hk]
    rfl
theorem homes_snoc {D : Nm} {l : List Lf} {y : Lf} (h : Homes D l) (h1 : y.big = true → m30 y.virt ∈ D) (h2 : y.big = false → m21 y.virt ∈ D) : Homes D (l ++ [y]) := by
  intro z hz
  rcases List.mem_append.1 hz with hz | hz
  · exact h z hz
  · obtain rfl : z = y := by simpa using hz
    exact ⟨h1, h2⟩
theorem page_twin {base : Int} {s : Bp} {D : Nm} {l : List Lf} {b : Int} (h : Twin base s D l b) {y : Lf} (hy : goodP y) (hp : y.pages * 4096 = unitP y) (hb : b ≤ y.virt) :
    Twin base (pageP base s y.virt.toNat y.phys y) (winP y.big D y.virt) (l ++ [y]) (y.virt + y.pages * 4096) := by
  have g2 := hy.virt
  have g4 := hy.v0
  have g6 := hy.v1
  obtain ⟨v, hv⟩ : ∃ v : Nat, y.virt = v := ⟨y.virt.toNat, by omega⟩
  have hvlt : (v : Int) < 549755813888 := by
    rcases unitP_cases y with ⟨e, _⟩ | ⟨e, _⟩ <;> rw [e] at hp <;> omega
  have h1 := openMid_twin h hvlt (by omega)
  rw [hv] at g2 g6 ⊢
  rw [Int.toNat_natCast, hp]
  unfold pageP winP
  generalize openMid base s v = s1 at *
  generalize addN D (m30 v) = D1 at *
  have hmid1 := h1.midL
  have hmidM : m30 (v : Int) ∈ D1 := mem_of_get h1.mid
  have hmid0 : 1 ≤ s1.mid := h1.ok.pos h1.mid (show (1 : Int) ≠ 0 by decide)
  have hah : ∀ z ∈ l ++ [y], z.virt + unitP z ≤ (v : Int) + unitP y ∧ 0 ≤ z.virt := by
    intro z hz
    rcases List.mem_append.1 hz with hz | hz
    · obtain ⟨a1, a2⟩ := h1.ahead z hz
      exact ⟨by have := (unitP_pos y).1; omega, a2⟩
    · obtain rfl : z = y := by simpa using hz
      rw [hv]; exact ⟨Int.le_refl _, by omega⟩
  cases hbg : y.big with
  | true =>
    simp only [if_true]
    have hu : unitP y = 2097152 := by unfold unitP; rw [hbg]; rfl
    rw [hu] at g2 hah ⊢
    have hk : v / 2097152 % 512 < 512 := by omega
    have hsl : slotOf D1 y = (s1.mid, v / 2097152 % 512) := by
      unfold slotOf
      rw [hbg, hv, if_pos rfl, h1.ok.idx h1.mid]
      congr 1
    have hlf : leafOf y = leafW y.phys y 1 := by unfold leafOf; rw [hbg]; rfl
    refine ⟨h1.ok, h1.len, ?_, by show (0 : Int) ≤ (v : Int); omega, fun e => ?_, fun _ => ⟨h1.mid, by show (v : Int) < v + 2097152; omega⟩, fun e => absurd rfl e, fun _ _ => ⟨g2, by show (v : Int) + 2097152 ≤ v + 2097152; omega⟩, fun w hw => ⟨h1.top1 w hw, by show s1.mid ≠ 0; omega⟩, fun w hw => ⟨h1.top2 w hw, by show s1.mid ≠ 0; omega⟩,
      homes_snoc h1.homes (fun _ => by rw [hv]; exact hmidM) (fun e => by rw [hbg] at e; cases e), hah, ?_⟩
    · show (s1.F.set _ _).length = _
      rw [List.length_set]; exact h1.lenF
    · exact absurd e (by show s1.mid ≠ 0; omega)
    · intro t k hkk
      show tbl (s1.F.set (s1.mid * 512 + v / 2097152 % 512) (leafW y.phys y 1)) t k = _
      rw [← hlf]
      exact slot_set h1.lenF hmid1 hk h1.slots hsl t k hkk
  | false =>
    simp only [Bool.false_eq_true, if_false]
    have hu : unitP y = 4096 := by unfold unitP; rw [hbg]; rfl
    rw [hu] at g2 hah ⊢
    have hk : v / 4096 % 512 < 512 := by omega
    have h2 := openLow_twin h1 hvlt
    generalize openLow base s1 v = s2 at *
    generalize addN D1 (m21 v) = D2 at *
    have hlow1 : s2.low < s2.m := by rw [← h2.len]; exact lt_of_get h2.low
    have hlow0 : 1 ≤ s2.low := h2.ok.pos h2.low (show (2 : Int) ≠ 0 by decide)
    have hmid2 : 1 ≤ s2.mid := h2.ok.pos h2.mid (show (1 : Int) ≠ 0 by decide)
    have hsl : slotOf D2 y = (s2.low, v / 4096 % 512) := by
      unfold slotOf
      rw [hbg, hv, if_neg (by decide), h2.ok.idx h2.low]
      congr 1
    have hlf : leafOf y = leafW y.phys y 2 := by unfold leafOf; rw [hbg]; rfl
    refine ⟨h2.ok, h2.len, ?_, by show (0 : Int) ≤ (v : Int); omega, fun e => ?_, fun _ => ⟨h2.mid, by show (v : Int) < v + 4096; omega⟩, fun _ => h2.low, fun _ e => ?_, fun w hw => ⟨h2.top1 w hw, by show s2.mid ≠ 0; omega⟩, fun w hw => ⟨h2.top2 w hw, by show s2.mid ≠ 0; omega⟩,
      homes_snoc h2.homes (fun e => by rw [hbg] at e; cases e) (fun _ => by rw [hv]; exact mem_of_get h2.low), hah, ?_⟩
    · show (s2.F.set _ _).length = _
      rw [List.length_set]; exact h2.lenF
    · exact absurd e (by show s2.mid ≠ 0; omega)
    · exact absurd e (by show s2.low ≠ 0; omega)
    · intro t k hkk
      show tbl (s2.F.set (s2.low * 512 + v / 4096 % 512) (leafW y.phys y 2)) t k = _
      rw [← hlf]
      exact slot_set h2.lenF hlow1 hk h2.slots hsl t k hkk
theorem winP_len (big : Bool) (D : Nm) (v : Int) : D.length ≤ (winP big D v).length := by
  have key : ∀ (D : Nm) e, D.length ≤ (addN D e).length := by
    intro D e; unfold addN; split
    · exact Nat.le_refl _
    · simp
  unfold winP
  split
  · exact key _ _
  · exact Nat.le_trans (key _ _) (key _ _)
theorem foldN_len : ∀ (l : List Lf) (D : Nm), D.length ≤ (foldN D l).length := by
  intro l
  induction l with
  | nil => intro D; exact Nat.le_refl _
  | cons y r ih =>
    intro D
    exact Nat.le_trans (winP_len y.big D y.virt) (ih _)
theorem fold_twin {base : Int} : ∀ {r l : List Lf} {s : Bp} {D : Nm} {b : Int}, Twin base s D l b → okRows b r → (∀ y ∈ r, y.pages * 4096 = unitP y) → s.m ≤ 1024 →
    ((foldP base r s).2 = true ↔ (foldN D r).length ≤ 1024) ∧ ((foldP base r s).2 = true → ∃ b', Twin base (foldP base r s).1 (foldN D r) (l ++ r) b') := by
  intro r
  induction r with
  | nil =>
    intro l s D b h _ _ hm
    exact ⟨⟨fun _ => by rw [show foldN D [] = D from rfl, h.len]; exact hm, fun _ => rfl⟩, fun _ => ⟨b, by simpa [foldP, foldN] using h⟩⟩
  | cons y r ih =>
    intro l s D b h ho hp hm
    have h' := page_twin h ho.1 (hp y (by simp)) ho.2.1
    have hf : foldN D (y :: r) = foldN (winP y.big D y.virt) r := rfl
    rw [hf]
    unfold foldP
    split
    · rename_i hlt
      have := foldN_len r (winP y.big D y.virt)
      rw [← h'.len] at hlt
      refine ⟨⟨fun e => (by cases e), fun hh => (by omega)⟩, fun e => (by cases e)⟩
    · rename_i hge
      obtain ⟨i1, i2⟩ := ih h' ho.2.2 (fun z hz => hp z (by simp [hz])) (by omega)
      refine ⟨i1, fun e => ?_⟩
      obtain ⟨b', hb'⟩ := i2 e
      exact ⟨b', by simpa [List.append_assoc] using hb'⟩
/-- the tables' names that rows want -/
def namesP (l : List Lf) : Nm := foldN [(0, 0)] (l.flatMap eachR)
/-- the builder's tables, by the document's words -/
theorem tables_names {base : Int} {l : List Lf} (h0 : ∀ x ∈ l, 0 ≤ x.virt ∧ 0 ≤ x.phys) (hr : rightP 0 l = 0) :
    ((namesP l).length ≤ 1024 → ∃ s, buildP base l = .ok s ∧ s.m = (namesP l).length ∧ s.F.length = s.m * 512 ∧ NmOk (namesP l) ∧ Homes (namesP l) (l.flatMap eachR) ∧ ∀ t k, k < 512 → tbl s.F t k = slotF base (namesP l) (l.flatMap eachR) t k) ∧
    (1024 < (namesP l).length → buildP base l = .error 4) := by
  have ho := (right_ok h0).1 hr
  obtain ⟨h1, h2⟩ := fold_twin (base := base) (Twin.start base) (okRows_each ho) each_unit (by decide)
  constructor
  · intro hl
    have e := h1.2 hl
    obtain ⟨b', ht⟩ := h2 e
    refine ⟨_, buildP_ok.2 ⟨hr, Prod.ext rfl e⟩, ht.len.symm, ht.lenF, ht.ok, by unfold namesP; simpa using ht.homes, fun t k hk => by unfold namesP; simpa using ht.slots t k hk⟩
  · intro hl
    have e : (foldP base (l.flatMap eachR) startP).2 = false := by
      cases he : (foldP base (l.flatMap eachR) startP).2
      · rfl
      · have := h1.1 he
        unfold namesP at hl
        omega
    unfold buildP
    rw [if_neg (fun k => k hr), ← foldP_rows, e]
    rfl
theorem eq_of_tbl {F G : List Int} {m : Nat} (hF : F.length = m * 512) (hG : G.length = m * 512) (h : ∀ t k, t < m → k < 512 → tbl F t k = tbl G t k) : F = G := by
  apply List.ext_getElem (by rw [hF, hG])
  intro i h1 h2
  have ht : i / 512 < m := by rw [hF] at h1; omega
  have := h (i / 512) (i % 512) ht (by omega)
  unfold tbl at this
  rw [show i / 512 * 512 + i % 512 = i from by omega] at this
  rw [List.getD_eq_getElem?_getD, List.getD_eq_getElem?_getD, List.getElem?_eq_getElem h1, List.getElem?_eq_getElem h2] at this
  simpa using this
end Go.Proofs.Ytaogndianciogaa.Mm
