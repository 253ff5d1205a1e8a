/- bulkheadbook.Book of bytes: what it is in memory. -/
import Derived.Test.YtaogndianciogaaRowO
import Derived.Test.YtaogndianciogaaSameB
namespace Go.Proofs.Ytaogndianciogaa.Mm
open Go.RowKit
set_option linter.unusedVariables false
set_option linter.unusedSimpArgs false
structure Kp where
  v : Value
  u : Value
  n : Nat
  xs : List Int
structure BookSt (w : World) (B b : Nat) (lv wv : Value) (L : List Kp) : Prop where
  le : B ≤ b
  cell : ∃ held : Int, w.heap[b]? = some (.cells #[lv, wv, .int .i64 held, .bool false] 30 (0, 0))
  lists : RowO w B 25 lv L.length (L.map Kp.v)
  was : RowO w B 25 wv L.length (L.map Kp.u)
  apart : ∀ g, lv.ownBlock = some g → wv.ownBlock ≠ some g
  own : ∀ k ∈ L, w.ownsRow B 5 1 k.v k.n (u8V k.xs) ∧ RdC w 5 1 k.u k.n (u8V k.xs)
  two : L.Pairwise (fun p q => ∀ g, p.v.ownBlock = some g → q.v.ownBlock ≠ some g)
def BkS (b : Nat) (lv wv : Value) (k : Nat) : Prop := k = b ∨ lv.ownBlock = some k ∨ wv.ownBlock = some k
section
variable {w w' : World} {B b : Nat} {lv wv : Value} {L : List Kp}
/-- what is of another type is not the book's own -/
theorem BookSt.far (h : BookSt w B b lv wv L) {k : Nat} {cs : Array Value} {T : TypeId} (hk : w.heap[k]? = some (.cells cs T (0, 0))) (h1 : T ≠ 30) (h2 : T ≠ 25) : ¬ BkS b lv wv k := by
  rintro (rfl | e | e)
  · obtain ⟨held, hb⟩ := h.cell
    rw [hb] at hk; cases hk; exact h1 rfl
  · obtain ⟨cur, hb⟩ := h.lists.type e
    rw [hb] at hk; cases hk; exact h2 rfl
  · obtain ⟨cur, hb⟩ := h.was.type e
    rw [hb] at hk; cases hk; exact h2 rfl
theorem BookSt.above (h : BookSt w B b lv wv L) {k : Nat} (hk : k < B) : ¬ BkS b lv wv k := by
  rintro (rfl | e | e)
  · have := h.le; omega
  · have := (h.lists.lt e).1; omega
  · have := (h.was.lt e).1; omega
theorem BookSt.lt (h : BookSt w B b lv wv L) : b < w.heap.size := by
  obtain ⟨held, hb⟩ := h.cell
  exact lt_of_block hb
theorem BookSt.lists_ne (h : BookSt w B b lv wv L) : lv.ownBlock ≠ some b := by
  intro e
  obtain ⟨cur, hb⟩ := h.lists.type e
  obtain ⟨held, hb2⟩ := h.cell
  rw [hb2] at hb; cases hb
theorem BookSt.was_ne (h : BookSt w B b lv wv L) : wv.ownBlock ≠ some b := by
  intro e
  obtain ⟨cur, hb⟩ := h.was.type e
  obtain ⟨held, hb2⟩ := h.cell
  rw [hb2] at hb; cases hb
/-- the book in a world in which nothing of it has turned -/
theorem BookSt.keep (h : BookSt w B b lv wv L) (hk : ∀ k, k < w.heap.size → w'.heap[k]? = w.heap[k]?) : BookSt w' B b lv wv L := by
  obtain ⟨held, hb⟩ := h.cell
  refine ⟨h.le, ⟨held, (hk b (lt_of_block hb)).trans hb⟩, h.lists.keep fun g _ hg => hk g hg, h.was.keep fun g _ hg => hk g hg, h.apart, fun k hkL => ⟨?_, (h.own k hkL).2.keep fun g cs hg => hk g (lt_of_block hg)⟩, h.two⟩
  obtain ⟨h1, h2⟩ := (h.own k hkL).1
  refine ⟨h1, ?_⟩
  rcases h2 with h2 | ⟨g, cap, cur, e, hb, hg, r⟩
  · exact .inl h2
  · exact .inr ⟨g, cap, cur, e, hb, (hk g (lt_of_block hg)).trans hg, r⟩
theorem BookSt.below (h : BookSt w B b lv wv L) (hb : Below w.heap.size w w') : BookSt w' B b lv wv L := h.keep fun k hk => hb.block k hk
end
/-- a list's copy: append([]T(nil), l...) -/
theorem run_append_nil_copy {P : Program} (w : World) (t ty e : TypeId) (i : TypeInfo) (z : Value) (sz bytes : Nat) (ht : P.underlying t = some (.slice e)) (hi : P.info? e = some i) (hz : i.zero = some z)
    (hsize : i.size = sz) (hby : i.bytes = bytes) (hzs : z.cells.size = sz) (hsz : 0 < sz) {v : Value} {n : Nat} {xs : List Value} (h : RdC w e sz v n xs) (h1 : ∀ u ∈ xs, u.oneCell' = true) (hb : n * bytes ≤ 140737488355328) (h0 : v.ownBlock = none → v = .slice none 0 0) :
    ∃ u w', (Builtin.append_ #[t, t] ty #[.slice none 0 0, v]).run P w = .ok u w' ∧ w'.ownsRow w.heap.size e sz u n xs ∧ Below w.heap.size w w' := by
  obtain ⟨hl, A, c, rfl, hnc, hcm, hr⟩ := h
  cases A with
  | none =>
    have := h0 rfl
    cases this
    obtain rfl : xs = [] := List.eq_nil_of_length_eq_zero (by omega)
    refine ⟨.slice none 0 0, w, ?_, World.ownsRow_nil w _ e sz, Below.refl _ _⟩
    subst hsize
    simp [Builtin.append_, run_underlying ht, sizeOf, typeInfo, hi, Builtin.lenOf, Builtin.firstCells]
  | some ad =>
    have hcells : ∀ (j : Nat) u, xs[j]? = some u → w.cell? (ad.add j) = some u := by
      intro j u hj
      have hn : 0 < n := by
        have := (List.getElem?_eq_some_iff.1 hj).1
        apply Nat.pos_of_ne_zero; rintro rfl; simp at hl; subst hl; simp at this
      obtain ⟨gb, off, cs, e, hg, hx⟩ := hr hn
      cases e
      rw [Addr.add_lit]
      exact (cell_of_row w gb (off + j) cs _ _ hg).trans (hx j u hj)
    obtain ⟨v', w', hrun, r1, r2, _⟩ := run_append_own (P := P) w w.heap.size t ty e i z sz bytes ht hi hz hsize hby hzs hsz (.slice none 0 0) 0 [] (World.ownsRow_nil w _ e sz) ad n c xs hl hcells h1 (by omega) (by simpa using hb) (Nat.le_refl _)
    refine ⟨v', w', hrun, by simpa using r1, (Below.refl _ _).grown r2 (Nat.le_refl _) (fun k e => by cases e)⟩
theorem wp_append_nil_copy {P : Program} {w : World} {o : Oper} {a : Act} {K : Act → World → Prop} {Q : Exit → Act → World → Prop} (s y : Operand) (t : TypeId)
    (ho : o.op = .call { callee := .builtin .append, args := #[s, y], argTypes := #[t, t] }) (e : TypeId) (i : TypeInfo) (z : Value) (sz bytes : Nat) (ht : P.underlying t = some (.slice e)) (hi : P.info? e = some i) (hz : i.zero = some z)
    (hsize : i.size = sz) (hby : i.bytes = bytes) (hzs : z.cells.size = sz) (hsz : 0 < sz) (v : Value) (n : Nat) (xs : List Value) (hs : a.eval s = .slice none 0 0) (hy : a.eval y = v) (h : RdC w e sz v n xs) (h1 : ∀ u ∈ xs, u.oneCell' = true) (hb : n * bytes ≤ 140737488355328) (h0 : v.ownBlock = none → v = .slice none 0 0)
    (hK : ∀ u w', w'.ownsRow w.heap.size e sz u n xs → Below w.heap.size w w' → K (a.put o.dst u) w') : o.wp P a w K Q := by
  obtain ⟨u, w', hr, h2, h3⟩ := run_append_nil_copy (P := P) w t o.type e i z sz bytes ht hi hz hsize hby hzs hsz h h1 hb h0
  unfold Oper.wp execOp
  simp only [ho, resolve, invoke, builtin, Sem.run_bind, Sem.run_pure, Result.andThen_ok, List.map_toArray, List.map_cons, List.map_nil, hs, hy, hr]
  exact hK u w' h2 h3
theorem step_append_nil_copy {P : Program} {w : World} {ops : Array Oper} {o : Oper} {a : Act} {K : Act → World → Prop} {Q : Exit → Act → World → Prop} {E : Prop} (hgd : o.guard = none) (s y : Operand) (t : TypeId)
    (ho : o.op = .call { callee := .builtin .append, args := #[s, y], argTypes := #[t, t] }) (e : TypeId) (i : TypeInfo) (z : Value) (sz bytes : Nat) (ht : P.underlying t = some (.slice e)) (hi : P.info? e = some i) (hz : i.zero = some z)
    (hsize : i.size = sz) (hby : i.bytes = bytes) (hzs : z.cells.size = sz) (hsz : 0 < sz) (v : Value) (n : Nat) (xs : List Value) (hs : a.eval s = .slice none 0 0) (hy : a.eval y = v) (h : RdC w e sz v n xs) (h1 : ∀ u ∈ xs, u.oneCell' = true) (hb : n * bytes ≤ 140737488355328) (h0 : v.ownBlock = none → v = .slice none 0 0)
    (hK : ∀ u w', w'.ownsRow w.heap.size e sz u n xs → Below w.heap.size w w' → K (a.put o.dst u) w') :
    if Region.wanted o (yielded ops a.tmps) = true then Oper.wp P o a w K Q else E := by
  have hw : Region.wanted o (yielded ops a.tmps) = true := by simp [Region.wanted, hgd]
  rw [if_pos hw]
  exact wp_append_nil_copy s y t ho e i z sz bytes ht hi hz hsize hby hzs hsz v n xs hs hy h h1 hb h0 hK
/-- a book with one list more, the book's own cells laid -/
theorem BookSt.add {w w' : World} {B b : Nat} {lv wv lv' wv' : Value} {L : List Kp} (h : BookSt w B b lv wv L) (k : Kp) (held : Int)
    (hb : w'.heap[b]? = some (.cells #[lv', wv', .int .i64 held, .bool false] 30 (0, 0)))
    (hl : RowO w' B 25 lv' (L.length + 1) (L.map Kp.v ++ [k.v])) (hw : RowO w' B 25 wv' (L.length + 1) (L.map Kp.u ++ [k.u])) (hap : ∀ g, lv'.ownBlock = some g → wv'.ownBlock ≠ some g)
    (hf : Fr w.heap.size (BkS b lv wv) w w') (ho : w'.ownsRow B 5 1 k.v k.n (u8V k.xs)) (hu : RdC w' 5 1 k.u k.n (u8V k.xs)) (hd : ∀ q ∈ L, ∀ g, k.v.ownBlock = some g → q.v.ownBlock ≠ some g) : BookSt w' B b lv' wv' (L ++ [k]) := by
  refine ⟨h.le, ⟨held, hb⟩, by simpa using hl, by simpa using hw, hap, ?_, ?_⟩
  · intro q hq
    rcases List.mem_append.1 hq with hq | hq
    · obtain ⟨h1, h2⟩ := h.own q hq
      have hk : ∀ (g : Nat) (cs : Array Value), w.heap[g]? = some (Obj.cells cs 5 (0, 0)) → w'.heap[g]? = w.heap[g]? := fun g cs hg => hf.block g (lt_of_block hg) (h.far hg (by decide) (by decide))
      refine ⟨⟨h1.1, ?_⟩, h2.keep hk⟩
      rcases h1.2 with r | ⟨g, cap, cur, e, hb, hg, r⟩
      · exact .inl r
      · exact .inr ⟨g, cap, cur, e, hb, (hk g cur hg).trans hg, r⟩
    · simp at hq; subst hq; exact ⟨ho, hu⟩
  · rw [List.pairwise_append]
    refine ⟨h.two, by simp, fun p hp q hq g e => ?_⟩
    simp at hq; subst hq
    intro e2
    exact hd p hp g e2 e
/-- a book in a world in which its own block alone is laid anew -/
theorem BookSt.laid {w w' : World} {B b : Nat} {lv wv : Value} {L : List Kp} (h : BookSt w B b lv wv L) (held : Int)
    (hb : w'.heap[b]? = some (.cells #[lv, wv, .int .i64 held, .bool false] 30 (0, 0))) (hk : ∀ k, k < w.heap.size → k ≠ b → w'.heap[k]? = w.heap[k]?) : BookSt w' B b lv wv L := by
  have hnl := h.lists_ne
  have hnw := h.was_ne
  obtain ⟨held0, hb0⟩ := h.cell
  have hk2 : ∀ (g : Nat) (cs : Array Value), w.heap[g]? = some (Obj.cells cs 5 (0, 0)) → w'.heap[g]? = w.heap[g]? := fun g cs hg => hk g (lt_of_block hg) (fun e => by
    subst e; rw [hb0] at hg; cases hg)
  refine ⟨h.le, ⟨held, hb⟩, h.lists.keep fun g e hg => hk g hg (fun e2 => hnl (by rw [e, e2])), h.was.keep fun g e hg => hk g hg (fun e2 => hnw (by rw [e, e2])), h.apart, fun q hq => ?_, h.two⟩
  obtain ⟨h1, h2⟩ := h.own q hq
  refine ⟨⟨h1.1, ?_⟩, h2.keep hk2⟩
  rcases h1.2 with r | ⟨g, cap, cur, e, hb, hg, r⟩
  · exact .inl r
  · exact .inr ⟨g, cap, cur, e, hb, (hk2 g cur hg).trans hg, r⟩
theorem BookSt.setHeld {w : World} {B b : Nat} {lv wv : Value} {L : List Kp} (h : BookSt w B b lv wv L) (x : Int) : BookSt (w.setCell ⟨b, 2, none⟩ (.int .i64 x)) B b lv wv L := by
  obtain ⟨held, hb⟩ := h.cell
  exact h.laid x (setCell_block hb _) fun k _ hk => setCell_far hk _
theorem BookSt.setBad {w : World} {B b : Nat} {lv wv : Value} {L : List Kp} (h : BookSt w B b lv wv L) : BookSt (w.setCell ⟨b, 3, none⟩ (.bool false)) B b lv wv L := by
  obtain ⟨held, hb⟩ := h.cell
  exact h.laid held (setCell_block hb _) fun k _ hk => setCell_far hk _
theorem RdC.drew {w : World} {T : TypeId} {sz : Nat} {v : Value} {n : Nat} {xs : List Value} (h : RdC w T sz v n xs) : RdC w.drew T sz v n xs := h
theorem RdC.drewN {w : World} {T : TypeId} {sz : Nat} {v : Value} {n : Nat} {xs : List Value} (h : RdC w T sz v n xs) (j : Nat) : RdC (w.drewN j) T sz v n xs := h.keep fun g cs hg => rfl
theorem same_self (v1 v2 : Value) (n : Nat) (xs : List Int) (w : World) (h1 : RdC w 5 1 v1 n (u8V xs)) (h2 : RdC w 5 1 v2 n (u8V xs)) :
    Calls Try.prog 9 #[v1, v2] w.drew (fun e w' => e = .returned (.bool true) ∧ ∃ j, w' = w.drew.drewN j) := by
  have := same_any v1 v2 n n xs xs w.drew h1.weak.drew h2.weak.drew
  have e : decide (xs = xs) = true := decide_eq_true rfl
  rwa [e] at this
/-- a book without its first list, the book's own cells laid -/
theorem BookSt.drop {w w' : World} {B b : Nat} {lv wv lv' wv' : Value} {k : Kp} {L : List Kp} (h : BookSt w B b lv wv (k :: L)) (held : Int)
    (hb : w'.heap[b]? = some (.cells #[lv', wv', .int .i64 held, .bool false] 30 (0, 0)))
    (hl : RowO w B 25 lv' L.length (L.map Kp.v)) (hw : RowO w B 25 wv' L.length (L.map Kp.u)) (hlo : lv'.ownBlock = lv.ownBlock) (hwo : wv'.ownBlock = wv.ownBlock)
    (hf : Fr w.heap.size (fun k => k = b) w w') : BookSt w' B b lv' wv' L := by
  have hnl := h.lists_ne
  have hnw := h.was_ne
  obtain ⟨held0, hb0⟩ := h.cell
  have hk : ∀ (g : Nat) (cs : Array Value), w.heap[g]? = some (Obj.cells cs 5 (0, 0)) → w'.heap[g]? = w.heap[g]? := fun g cs hg => hf.block g (lt_of_block hg) (fun e => by
    subst e; rw [hb0] at hg; cases hg)
  refine ⟨h.le, ⟨held, hb⟩, hl.keep fun g e hg => hf.block g hg (fun e2 => hnl (by rw [← hlo, e, e2])), hw.keep fun g e hg => hf.block g hg (fun e2 => hnw (by rw [← hwo, e, e2])), fun g e => by rw [hlo] at e; rw [hwo]; exact h.apart g e, fun q hq => ?_, (List.pairwise_cons.1 h.two).2⟩
  obtain ⟨h1, h2⟩ := h.own q (by simp [hq])
  refine ⟨⟨h1.1, ?_⟩, h2.keep hk⟩
  rcases h1.2 with r | ⟨g, cap, cur, e, hb, hg, r⟩
  · exact .inl r
  · exact .inr ⟨g, cap, cur, e, hb, (hk g cur hg).trans hg, r⟩
end Go.Proofs.Ytaogndianciogaa.Mm
