/- Books whose elements are many cells: the marks of Apart, whatever the element. -/
import Derived.Test.YtaogndianciogaaBook
import Derived.Deep.MidRow
namespace Go.Proofs.Ytaogndianciogaa.Mm
open Go.RowKit
set_option linter.unusedVariables false
set_option linter.unusedSimpArgs false
theorem setCells_far {g k : Nat} (hk : k ≠ g) : ∀ (vs : List Value) (o : Nat) (w : World), (w.setCells g o vs).heap[k]? = w.heap[k]?
  | [], _, _ => rfl
  | v :: r, o, w => by
    rw [World.setCells, setCells_far hk r (o + 1) _]
    exact setCell_far hk _
theorem setCells_below {B g : Nat} {a : World} (hg : B ≤ g) : ∀ (vs : List Value) (o : Nat) {w : World}, Below B a w → Below B a (w.setCells g o vs)
  | [], _, _, h => h
  | v :: r, o, w, h => by
    rw [World.setCells]
    exact setCells_below hg r (o + 1) (h.setCell (by simpa using hg) _)
theorem setCells_block {g : Nat} {T : TypeId} : ∀ (vs : List Value) (o : Nat) {w : World} {cs : Array Value}, w.heap[g]? = some (.cells cs T (0, 0)) →
    ∃ cs', (w.setCells g o vs).heap[g]? = some (.cells cs' T (0, 0)) ∧ cs'.size = cs.size ∧ (∀ j, o ≤ j → j < o + vs.length → j < cs.size → cs'[j]? = vs[j - o]?) ∧ ∀ j, (j < o ∨ o + vs.length ≤ j) → cs'[j]? = cs[j]?
  | [], o, w, cs, h => ⟨cs, h, rfl, fun j h1 h2 _ => by simp at h2; omega, fun _ _ => rfl⟩
  | v :: r, o, w, cs, h => by
    obtain ⟨cs', h1, h2, h3, h4⟩ := setCells_block r (o + 1) (setCell_block h (i := o) v)
    rw [World.setCells]
    refine ⟨cs', h1, by rw [h2]; simp, fun j j1 j2 j3 => ?_, fun j hj => ?_⟩
    · by_cases e : j = o
      · subst e
        rw [h4 j (.inl (by omega)), Array.getElem?_setIfInBounds, if_pos rfl, if_pos j3, Nat.sub_self]; rfl
      · rw [h3 j (by omega) (by simp at j2; omega) (by simpa using j3), show j - o = (j - (o + 1)) + 1 from by omega, List.getElem?_cons_succ]
    · simp at hj
      rw [h4 j (by omega), Array.getElem?_setIfInBounds_ne (by omega)]
/-- the lists ahead of number i bear their marks, and number i bears its own as far as jn -/
def MarkedG (T : TypeId) (sz : Nat) (mk : Nat → Nat → List Value) (w : World) (L : List (Value × Nat)) (i jn : Nat) : Prop := ∀ (idx : Nat) (q : Value × Nat) (g c : Nat), L[idx]? = some q → q.1 = .slice (some ⟨g, 0, none⟩) q.2 c →
  ∃ cs : Array Value, w.heap[g]? = some (.cells cs T (0, 0)) ∧ cs.size = c * sz ∧ ∀ j, j < c → (idx < i ∨ idx = i ∧ j < jn) → ∀ o, o < sz → cs[j * sz + o]? = (mk idx j)[o]?
structure ApG (TB TS T : TypeId) (sz : Nat) (mk : Nat → Nat → List Value) (w : World) (B b : Nat) (lv : Value) (L : List (Value × Nat)) (w' : World) (i jn : Nat) : Prop where
  cell : ∃ wv, ∃ held : Int, w'.heap[b]? = some (.cells #[lv, wv, .int .i64 held, .bool false] TB (0, 0))
  lists : RowO w' B TS lv L.length (L.map Prod.fst)
  le : B ≤ w.heap.size
  below : Below B w w'
  far : ∀ (k : Nat) (cs : Array Value) (U : TypeId), w.heap[k]? = some (.cells cs U (0, 0)) → U ≠ TB → U ≠ T → w'.heap[k]? = w.heap[k]?
  marked : MarkedG T sz mk w' L i jn
section
variable {TB TS T : TypeId} {sz : Nat} {mk : Nat → Nat → List Value} {w w' w2 : World} {B b : Nat} {lv : Value} {L : List (Value × Nat)} {i j : Nat}
theorem ApG.keep (h : ApG TB TS T sz mk w B b lv L w' i j) (hb : Below w'.heap.size w' w2) : ApG TB TS T sz mk w B b lv L w2 i j := by
  obtain ⟨wv, held, hc⟩ := h.cell
  refine ⟨⟨wv, held, (hb.block b (lt_of_block hc)).trans hc⟩, h.lists.keep fun g _ hg => hb.block g hg, h.le, h.below.trans (hb.mono (Nat.le_trans h.le h.below.size)), fun k cs U hk u1 u2 => (hb.block k (lt_of_block ((h.far k cs U hk u1 u2).trans hk))).trans (h.far k cs U hk u1 u2), fun idx q g c hq he => ?_⟩
  obtain ⟨cs, hg, hs, hm⟩ := h.marked idx q g c hq he
  exact ⟨cs, (hb.block g (lt_of_block hg)).trans hg, hs, hm⟩
theorem ApG.drewN (h : ApG TB TS T sz mk w B b lv L w' i j) (n : Nat) : ApG TB TS T sz mk w B b lv L (w'.drewN n) i j := h.keep (below_drewN (Below.refl _ _) n)
theorem ApG.next (h : ApG TB TS T sz mk w B b lv L w' i j) (hc : ∀ q g c, L[i]? = some q → q.1 = .slice (some ⟨g, 0, none⟩) q.2 c → j = c) : ApG TB TS T sz mk w B b lv L w' (i + 1) 0 := by
  refine ⟨h.cell, h.lists, h.le, h.below, h.far, fun idx q g c hq he => ?_⟩
  obtain ⟨cs, hg, hs, hm⟩ := h.marked idx q g c hq he
  refine ⟨cs, hg, hs, fun k hk hor => hm k hk ?_⟩
  rcases hor with hor | ⟨_, hor⟩
  · by_cases e : idx = i
    · subst e
      have := hc q g c hq he
      exact .inr ⟨rfl, by omega⟩
    · exact .inl (by omega)
  · omega
theorem two_neG (h : L.Pairwise (fun p q => ∀ g, p.1.ownBlock = some g → q.1.ownBlock ≠ some g)) {i k : Nat} {p q : Value × Nat} {g g' : Nat} (hik : i ≠ k) (hp : L[i]? = some p) (hq : L[k]? = some q) (e1 : p.1.ownBlock = some g) (e2 : q.1.ownBlock = some g') : g ≠ g' := by
  rintro rfl
  rw [List.pairwise_iff_getElem] at h
  obtain ⟨hi, rfl⟩ := List.getElem?_eq_some_iff.1 hp
  obtain ⟨hk, rfl⟩ := List.getElem?_eq_some_iff.1 hq
  rcases Nat.lt_or_gt_of_ne hik with hlt | hlt
  · exact h i k hi hk hlt g e1 e2
  · exact h k i hk hi hlt g e2 e1
theorem ApG.step (h : ApG TB TS T sz mk w B b lv L w' i j) (hTB : TB ≠ T) (hTS : TS ≠ T) (h2 : L.Pairwise (fun p q => ∀ g, p.1.ownBlock = some g → q.1.ownBlock ≠ some g)) {q : Value × Nat} {g c : Nat} (hq : L[i]? = some q) (he : q.1 = .slice (some ⟨g, 0, none⟩) q.2 c) (hB : B ≤ g) (hj : j < c)
    (hmk : (mk i j).length = sz) : ApG TB TS T sz mk w B b lv L (w'.setCells g (j * sz) (mk i j)) i (j + 1) := by
  obtain ⟨cs, hg, hs, hm⟩ := h.marked i q g c hq he
  obtain ⟨wv, held, hb⟩ := h.cell
  have hbg : b ≠ g := by rintro rfl; rw [hb] at hg; cases hg; exact hTB rfl
  have hbd : j * sz + sz ≤ c * sz := by rw [← Nat.succ_mul]; exact Nat.mul_le_mul_right _ hj
  refine ⟨⟨wv, held, (setCells_far hbg _ _ _).trans hb⟩, h.lists.keep fun g' e hlt => setCells_far (fun e2 => ?_) _ _ _, h.le, setCells_below hB _ _ h.below, fun k cs' U hk u1 u2 => (setCells_far (fun e => by
    subst e
    have := (h.far _ cs' U hk u1 u2).trans hk
    rw [this] at hg; cases hg; exact u2 rfl) _ _ _).trans (h.far k cs' U hk u1 u2), fun idx p g' c' hp hpe => ?_⟩
  · subst e2
    obtain ⟨cur, hcur⟩ := h.lists.type e
    rw [hcur] at hg; cases hg; exact hTS rfl
  · by_cases e : idx = i
    · subst e
      obtain rfl : p = q := Option.some.inj (hp.symm.trans hq)
      rw [hpe] at he; cases he
      obtain ⟨cs', k1, k2, k3, k4⟩ := setCells_block (mk idx j) (j * sz) hg
      refine ⟨cs', k1, by rw [k2, hs], fun k hk hor o ho => ?_⟩
      by_cases ek : k = j
      · subst ek
        rw [k3 _ (by omega) (by rw [hmk]; omega) (by rw [hs]; omega), Nat.add_sub_cancel_left]
      · rw [k4 _ (by
          rw [hmk]
          rcases Nat.lt_or_gt_of_ne ek with hl | hl
          · left
            have : k * sz + sz ≤ j * sz := by rw [← Nat.succ_mul]; exact Nat.mul_le_mul_right _ hl
            omega
          · right
            have : j * sz + sz ≤ k * sz := by rw [← Nat.succ_mul]; exact Nat.mul_le_mul_right _ hl
            omega)]
        exact hm k hk (by omega) o ho
    · obtain ⟨cs', hg', hs', hm'⟩ := h.marked idx p g' c' hp hpe
      have hne : g' ≠ g := two_neG h2 e hp hq (by rw [hpe]; rfl) (by rw [he]; rfl)
      exact ⟨cs', (setCells_far hne _ _ _).trans hg', hs', fun k hk hor => hm' k hk (by omega)⟩
/-- the element j of list number i may be written -/
theorem ApG.there (h : ApG TB TS T sz mk w B b lv L w' i j) {k idx : Nat} {q : Value × Nat} {g c : Nat} (hq : L[idx]? = some q) (he : q.1 = .slice (some ⟨g, 0, none⟩) q.2 c) (hk : k < c) : w'.there g (k * sz) sz := by
  intro o ho
  obtain ⟨cs, hg, hs, hm⟩ := h.marked idx q g c hq he
  have hbd : k * sz + sz ≤ c * sz := by rw [← Nat.succ_mul]; exact Nat.mul_le_mul_right _ hk
  refine ⟨?_, frozen_of_block hg⟩
  rw [cell_of_row w' g _ cs T (0, 0) hg, Array.getElem?_eq_getElem (show k * sz + o < cs.size by omega)]; rfl
/-- a marked element, as a range -/
theorem ApG.range (h : ApG TB TS T sz mk w B b lv L w' i j) {k idx : Nat} {q : Value × Nat} {g c : Nat} (hq : L[idx]? = some q) (he : q.1 = .slice (some ⟨g, 0, none⟩) q.2 c) (hk : k < c) (hi : idx < i) (hmk : (mk idx k).length = sz) : w'.rangeAt g (k * sz) (mk idx k) := by
  intro o v hv
  obtain ⟨cs, hg, hs, hm⟩ := h.marked idx q g c hq he
  have ho : o < sz := by have := (List.getElem?_eq_some_iff.1 hv).1; omega
  rw [cell_of_row w' g _ cs T (0, 0) hg, hm k hk (.inl hi) o ho]
  exact hv
end
end Go.Proofs.Ytaogndianciogaa.Mm
