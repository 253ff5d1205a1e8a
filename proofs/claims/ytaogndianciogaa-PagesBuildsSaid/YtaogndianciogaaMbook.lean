/- bulkheadbook.Book of api.Table: what it is in memory. -/
import Derived.Test.YtaogndianciogaaBook
import Derived.Test.YtaogndianciogaaSameT
import Derived.Deep.DeepCutAuto
import Derived.Deep.RegionLaw
import Derived.Deep.RegionWith
import Derived.Deep.RegionHeld3
namespace Go.Proofs.Ytaogndianciogaa.Mm.Tb
open Go.RowKit
set_option linter.unusedVariables false
set_option linter.unusedSimpArgs false
structure Kp where
  v : Value
  u : Value
  n : Nat
  xs : List Int
structure BookSt (w : World) (B b : Nat) (lv wv : Value) (L : List Kp) : Prop where
  le : B ≤ b
  cell : ∃ held : Int, w.heap[b]? = some (.cells #[lv, wv, .int .i64 held, .bool false] 55 (0, 0))
  lists : RowO w B 42 lv L.length (L.map Kp.v)
  was : RowO w B 42 wv L.length (L.map Kp.u)
  apart : ∀ g, lv.ownBlock = some g → wv.ownBlock ≠ some g
  own : ∀ k ∈ L, w.ownsRow B 24 512 k.v k.n (u64V k.xs) ∧ RdC w 24 512 k.u k.n (u64V k.xs)
  two : L.Pairwise (fun p q => ∀ g, p.v.ownBlock = some g → q.v.ownBlock ≠ some g)
def BkS (b : Nat) (lv wv : Value) (k : Nat) : Prop := k = b ∨ lv.ownBlock = some k ∨ wv.ownBlock = some k
section
variable {w w' : World} {B b : Nat} {lv wv : Value} {L : List Kp}
/-- what is of another type is not the book's own -/
theorem BookSt.far (h : BookSt w B b lv wv L) {k : Nat} {cs : Array Value} {T : TypeId} (hk : w.heap[k]? = some (.cells cs T (0, 0))) (h1 : T ≠ 55) (h2 : T ≠ 42) : ¬ BkS b lv wv k := by
  rintro (rfl | e | e)
  · obtain ⟨held, hb⟩ := h.cell
    rw [hb] at hk; cases hk; exact h1 rfl
  · obtain ⟨cur, hb⟩ := h.lists.type e
    rw [hb] at hk; cases hk; exact h2 rfl
  · obtain ⟨cur, hb⟩ := h.was.type e
    rw [hb] at hk; cases hk; exact h2 rfl
theorem BookSt.above (h : BookSt w B b lv wv L) {k : Nat} (hk : k < B) : ¬ BkS b lv wv k := by
  rintro (rfl | e | e)
  · have := h.le; omega
  · have := (h.lists.lt e).1; omega
  · have := (h.was.lt e).1; omega
theorem BookSt.lt (h : BookSt w B b lv wv L) : b < w.heap.size := by
  obtain ⟨held, hb⟩ := h.cell
  exact lt_of_block hb
theorem BookSt.lists_ne (h : BookSt w B b lv wv L) : lv.ownBlock ≠ some b := by
  intro e
  obtain ⟨cur, hb⟩ := h.lists.type e
  obtain ⟨held, hb2⟩ := h.cell
  rw [hb2] at hb; cases hb
theorem BookSt.was_ne (h : BookSt w B b lv wv L) : wv.ownBlock ≠ some b := by
  intro e
  obtain ⟨cur, hb⟩ := h.was.type e
  obtain ⟨held, hb2⟩ := h.cell
  rw [hb2] at hb; cases hb
/-- the book in a world in which nothing of it has turned -/
theorem BookSt.keep (h : BookSt w B b lv wv L) (hk : ∀ k, k < w.heap.size → w'.heap[k]? = w.heap[k]?) : BookSt w' B b lv wv L := by
  obtain ⟨held, hb⟩ := h.cell
  refine ⟨h.le, ⟨held, (hk b (lt_of_block hb)).trans hb⟩, h.lists.keep fun g _ hg => hk g hg, h.was.keep fun g _ hg => hk g hg, h.apart, fun k hkL => ⟨?_, (h.own k hkL).2.keep fun g cs hg => hk g (lt_of_block hg)⟩, h.two⟩
  obtain ⟨h1, h2⟩ := (h.own k hkL).1
  refine ⟨h1, ?_⟩
  rcases h2 with h2 | ⟨g, cap, cur, e, hb, hg, r⟩
  · exact .inl h2
  · exact .inr ⟨g, cap, cur, e, hb, (hk g (lt_of_block hg)).trans hg, r⟩
theorem BookSt.below (h : BookSt w B b lv wv L) (hb : Below w.heap.size w w') : BookSt w' B b lv wv L := h.keep fun k hk => hb.block k hk
end
/-- a book with one list more, the book's own cells laid -/
theorem BookSt.add {w w' : World} {B b : Nat} {lv wv lv' wv' : Value} {L : List Kp} (h : BookSt w B b lv wv L) (k : Kp) (held : Int)
    (hb : w'.heap[b]? = some (.cells #[lv', wv', .int .i64 held, .bool false] 55 (0, 0)))
    (hl : RowO w' B 42 lv' (L.length + 1) (L.map Kp.v ++ [k.v])) (hw : RowO w' B 42 wv' (L.length + 1) (L.map Kp.u ++ [k.u])) (hap : ∀ g, lv'.ownBlock = some g → wv'.ownBlock ≠ some g)
    (hf : Fr w.heap.size (BkS b lv wv) w w') (ho : w'.ownsRow B 24 512 k.v k.n (u64V k.xs)) (hu : RdC w' 24 512 k.u k.n (u64V k.xs)) (hd : ∀ q ∈ L, ∀ g, k.v.ownBlock = some g → q.v.ownBlock ≠ some g) : BookSt w' B b lv' wv' (L ++ [k]) := by
  refine ⟨h.le, ⟨held, hb⟩, by simpa using hl, by simpa using hw, hap, ?_, ?_⟩
  · intro q hq
    rcases List.mem_append.1 hq with hq | hq
    · obtain ⟨h1, h2⟩ := h.own q hq
      have hk : ∀ (g : Nat) (cs : Array Value), w.heap[g]? = some (Obj.cells cs 24 (0, 0)) → w'.heap[g]? = w.heap[g]? := fun g cs hg => hf.block g (lt_of_block hg) (h.far hg (by decide) (by decide))
      refine ⟨⟨h1.1, ?_⟩, h2.keep hk⟩
      rcases h1.2 with r | ⟨g, cap, cur, e, hb, hg, r⟩
      · exact .inl r
      · exact .inr ⟨g, cap, cur, e, hb, (hk g cur hg).trans hg, r⟩
    · simp at hq; subst hq; exact ⟨ho, hu⟩
  · rw [List.pairwise_append]
    refine ⟨h.two, by simp, fun p hp q hq g e => ?_⟩
    simp at hq; subst hq
    intro e2
    exact hd p hp g e2 e
/-- a book in a world in which its own block alone is laid anew -/
theorem BookSt.laid {w w' : World} {B b : Nat} {lv wv : Value} {L : List Kp} (h : BookSt w B b lv wv L) (held : Int)
    (hb : w'.heap[b]? = some (.cells #[lv, wv, .int .i64 held, .bool false] 55 (0, 0))) (hk : ∀ k, k < w.heap.size → k ≠ b → w'.heap[k]? = w.heap[k]?) : BookSt w' B b lv wv L := by
  have hnl := h.lists_ne
  have hnw := h.was_ne
  obtain ⟨held0, hb0⟩ := h.cell
  have hk2 : ∀ (g : Nat) (cs : Array Value), w.heap[g]? = some (Obj.cells cs 24 (0, 0)) → w'.heap[g]? = w.heap[g]? := fun g cs hg => hk g (lt_of_block hg) (fun e => by
    subst e; rw [hb0] at hg; cases hg)
  refine ⟨h.le, ⟨held, hb⟩, h.lists.keep fun g e hg => hk g hg (fun e2 => hnl (by rw [e, e2])), h.was.keep fun g e hg => hk g hg (fun e2 => hnw (by rw [e, e2])), h.apart, fun q hq => ?_, h.two⟩
  obtain ⟨h1, h2⟩ := h.own q hq
  refine ⟨⟨h1.1, ?_⟩, h2.keep hk2⟩
  rcases h1.2 with r | ⟨g, cap, cur, e, hb, hg, r⟩
  · exact .inl r
  · exact .inr ⟨g, cap, cur, e, hb, (hk2 g cur hg).trans hg, r⟩
theorem BookSt.setHeld {w : World} {B b : Nat} {lv wv : Value} {L : List Kp} (h : BookSt w B b lv wv L) (x : Int) : BookSt (w.setCell ⟨b, 2, none⟩ (.int .i64 x)) B b lv wv L := by
  obtain ⟨held, hb⟩ := h.cell
  exact h.laid x (setCell_block hb _) fun k _ hk => setCell_far hk _
theorem BookSt.setBad {w : World} {B b : Nat} {lv wv : Value} {L : List Kp} (h : BookSt w B b lv wv L) : BookSt (w.setCell ⟨b, 3, none⟩ (.bool false)) B b lv wv L := by
  obtain ⟨held, hb⟩ := h.cell
  exact h.laid held (setCell_block hb _) fun k _ hk => setCell_far hk _
theorem same_self (v1 v2 : Value) (n : Nat) (xs : List Int) (w : World) (h1 : RdC w 24 512 v1 n (u64V xs)) (h2 : RdC w 24 512 v2 n (u64V xs)) :
    Calls Try.prog 27 #[v1, v2] w.drew (fun e w' => e = .returned (.bool true) ∧ ∃ j, w' = w.drew.drewN j) := by
  have := sameT_any v1 v2 n n xs xs w.drew h1.weak.drew h2.weak.drew
  have e : decide (xs = xs) = true := decide_eq_true rfl
  rwa [e] at this
/-- a book without its first list, the book's own cells laid -/
theorem BookSt.drop {w w' : World} {B b : Nat} {lv wv lv' wv' : Value} {k : Kp} {L : List Kp} (h : BookSt w B b lv wv (k :: L)) (held : Int)
    (hb : w'.heap[b]? = some (.cells #[lv', wv', .int .i64 held, .bool false] 55 (0, 0)))
    (hl : RowO w B 42 lv' L.length (L.map Kp.v)) (hw : RowO w B 42 wv' L.length (L.map Kp.u)) (hlo : lv'.ownBlock = lv.ownBlock) (hwo : wv'.ownBlock = wv.ownBlock)
    (hf : Fr w.heap.size (fun k => k = b) w w') : BookSt w' B b lv' wv' L := by
  have hnl := h.lists_ne
  have hnw := h.was_ne
  obtain ⟨held0, hb0⟩ := h.cell
  have hk : ∀ (g : Nat) (cs : Array Value), w.heap[g]? = some (Obj.cells cs 24 (0, 0)) → w'.heap[g]? = w.heap[g]? := fun g cs hg => hf.block g (lt_of_block hg) (fun e => by
    subst e; rw [hb0] at hg; cases hg)
  refine ⟨h.le, ⟨held, hb⟩, hl.keep fun g e hg => hf.block g hg (fun e2 => hnl (by rw [← hlo, e, e2])), hw.keep fun g e hg => hf.block g hg (fun e2 => hnw (by rw [← hwo, e, e2])), fun g e => by rw [hlo] at e; rw [hwo]; exact h.apart g e, fun q hq => ?_, (List.pairwise_cons.1 h.two).2⟩
  obtain ⟨h1, h2⟩ := h.own q (by simp [hq])
  refine ⟨⟨h1.1, ?_⟩, h2.keep hk⟩
  rcases h1.2 with r | ⟨g, cap, cur, e, hb, hg, r⟩
  · exact .inl r
  · exact .inr ⟨g, cap, cur, e, hb, (hk g cur hg).trans hg, r⟩
end Go.Proofs.Ytaogndianciogaa.Mm.Tb
/- bulkheadbook.Book.Stays of api.Table. -/
namespace Go.Proofs.Ytaogndianciogaa.Mm.Tb
open Go.RowKit
set_option linter.unusedVariables false
set_option linter.unusedSimpArgs false
set_option maxHeartbeats 4000000 in
set_option maxRecDepth 100000 in
theorem stays_any (B b : Nat) (lv wv : Value) (L : List Kp) (w : World) (hs : BookSt w B b lv wv L) (hL : L.length ≤ 4000) :
    Calls Try.prog 46 #[.pointer (some ⟨b, 0, none⟩)] w
      (fun e w' => e = .returned (.bool true) ∧ ∃ j, w' = w.drewN j) := by
  obtain ⟨A1, cap1, rfl⟩ : ∃ A c, lv = .slice A L.length c := by
    rcases hs.lists.2 with ⟨e, h0⟩ | ⟨g, off, cap, cur, e, _⟩
    · exact ⟨_, _, by rw [e, h0]⟩
    · exact ⟨_, _, e⟩
  obtain ⟨A2, cap2, rfl⟩ : ∃ A c, wv = .slice A L.length c := by
    rcases hs.was.2 with ⟨e, h0⟩ | ⟨g, off, cap, cur, e, _⟩
    · exact ⟨_, _, by rw [e, h0]⟩
    · exact ⟨_, _, e⟩
  obtain ⟨held, hg⟩ := hs.cell
  have hg' := Lib.hid hg
  have hs' := Lib.hid hs
  clear hg hs
  go_enter Try.func46, Try.ntmps46
  go_wp2
  go_loopg [3] (L.length + 1) (fun g1 v3 wr => ∃ i : Nat, i + g1 = L.length + 1 ∧ i ≤ L.length ∧ v3 = .int .i64 i ∧ Hid (∃ j, wr = w.drewN j))
  case atStart => exact ⟨0, by omega, by omega, rfl, ⟨0, rfl⟩⟩
  case round =>
    obtain ⟨i, hk, hi, rfl, hj⟩ := hrel
    have hh : wr.heap = w.heap := by obtain ⟨j, rfl⟩ := hj.out; rfl
    have hgr : wr.heap[b]? = _ := (congrArg (fun h : Array Obj => h[b]?) hh).trans hg'.out
    have c0 : wr.cell? ⟨b, 0, none⟩ = some (.slice A1 L.length cap1) := cell_of_row wr b 0 _ _ _ hgr
    have c1 : wr.cell? ⟨b, 1, none⟩ = some (.slice A2 L.length cap2) := cell_of_row wr b 1 _ _ _ hgr
    have c3 : wr.cell? ⟨b, 3, none⟩ = some (.bool false) := cell_of_row wr b 3 _ _ _ hgr
    have f3 : wr.frozen? ⟨b, 3, none⟩ = false := frozen_of_block hgr
    have hset : Hid (∀ j, (wr.drewN j).setCell ⟨b, 3, none⟩ (.bool false) = wr.drewN j) := fun j => setCell_self _ b 3 (.bool false) _ _ hgr rfl
    have hSr := Lib.hid (hs'.out.keep (w' := wr) fun k _ => congrArg (fun h : Array Obj => h[k]?) hh)
    clear hgr hh
    by_cases hlt : i < L.length
    · have hq : L[i]? = some (L[i]'hlt) := List.getElem?_eq_getElem _
      generalize L[i]'hlt = q at hq
      obtain ⟨qv, qu, qn, qx⟩ := q
      obtain ⟨hq1, hq2⟩ := hSr.out.own _ (List.mem_of_getElem? hq)
      obtain ⟨gl, ol, cl, hle, _, hcl0, hcl1, cL⟩ := hSr.out.lists.cell (i := i) (x := qv) (by simp [hq])
      obtain ⟨gw, ow, cw, hwe, _, hcw0, hcw1, cW⟩ := hSr.out.was.cell (i := i) (x := qu) (by simp [hq])
      cases hle
      cases hwe
      dsimp only at hq1 hq2
      have hsame := Lib.hid (And.intro (RdC.of_own hq1) hq2)
      have h0I : (0 : Int) ≤ (i : Int) := by omega
      have hltI : (i : Int) < (L.length : Int) := by omega
      clear hq hq1 hq2 hSr hcl1 hcw1
      go_wp2
      go_region_held3 (fun w' => w'.cell? ⟨b, 0, none⟩ = some (.slice (some ⟨gl, ol, none⟩) L.length cap1) ∧ w'.cell? ⟨b, 1, none⟩ = some (.slice (some ⟨gw, ow, none⟩) L.length cap2) ∧ w'.cell? ⟨b, 3, none⟩ = some (.bool false) ∧ w'.cell? ⟨gl, ol + i, none⟩ = some qv ∧ w'.cell? ⟨gw, ow + i, none⟩ = some qu)
        (first
          | exact ⟨c0, c1, c3, cL, cW⟩
          | (rw [hset.out]; exact ⟨c0, c1, c3, cL, cW⟩))
        (first
          | (go_at_call 27; refine (same_self _ _ qn qx wr hsame.out.1 hsame.out.2).mono ?_; rintro en w2 ⟨rfl, j, rfl⟩; have f3' : (wr.drew.drewN j).frozen? ⟨b, 3, none⟩ = false := f3))
      go_wp2
      go_roundg (L.length - i)
      case rel =>
        refine ⟨i + 1, by omega, by omega, by simp, ?_⟩
        rw [hset.out]
        obtain ⟨j0, rfl⟩ := hj.out
        exact ⟨_, World.drewN_drewN _ _ _⟩
      case measure => omega
    · obtain rfl : i = L.length := by omega
      go_wp2
      go_returns
      exact ⟨rfl, hj.out⟩
end Go.Proofs.Ytaogndianciogaa.Mm.Tb
/- bulkheadbook.Book of api.Leaf: what it is in memory. -/
namespace Go.Proofs.Ytaogndianciogaa.Mm.Lv
open Go.RowKit
set_option linter.unusedVariables false
set_option linter.unusedSimpArgs false
structure Kp where
  v : Value
  u : Value
  n : Nat
  xs : List Lf
structure BookSt (w : World) (B b : Nat) (lv wv : Value) (L : List Kp) : Prop where
  le : B ≤ b
  cell : ∃ held : Int, w.heap[b]? = some (.cells #[lv, wv, .int .i64 held, .bool false] 59 (0, 0))
  lists : RowO w B 48 lv L.length (L.map Kp.v)
  was : RowO w B 48 wv L.length (L.map Kp.u)
  apart : ∀ g, lv.ownBlock = some g → wv.ownBlock ≠ some g
  own : ∀ k ∈ L, w.ownsRow B 47 6 k.v k.n (lfV k.xs) ∧ RdC w 47 6 k.u k.n (lfV k.xs)
  two : L.Pairwise (fun p q => ∀ g, p.v.ownBlock = some g → q.v.ownBlock ≠ some g)
def BkS (b : Nat) (lv wv : Value) (k : Nat) : Prop := k = b ∨ lv.ownBlock = some k ∨ wv.ownBlock = some k
section
variable {w w' : World} {B b : Nat} {lv wv : Value} {L : List Kp}
/-- what is of another type is not the book's own -/
theorem BookSt.far (h : BookSt w B b lv wv L) {k : Nat} {cs : Array Value} {T : TypeId} (hk : w.heap[k]? = some (.cells cs T (0, 0))) (h1 : T ≠ 59) (h2 : T ≠ 48) : ¬ BkS b lv wv k := by
  rintro (rfl | e | e)
  · obtain ⟨held, hb⟩ := h.cell
    rw [hb] at hk; cases hk; exact h1 rfl
  · obtain ⟨cur, hb⟩ := h.lists.type e
    rw [hb] at hk; cases hk; exact h2 rfl
  · obtain ⟨cur, hb⟩ := h.was.type e
    rw [hb] at hk; cases hk; exact h2 rfl
theorem BookSt.above (h : BookSt w B b lv wv L) {k : Nat} (hk : k < B) : ¬ BkS b lv wv k := by
  rintro (rfl | e | e)
  · have := h.le; omega
  · have := (h.lists.lt e).1; omega
  · have := (h.was.lt e).1; omega
theorem BookSt.lt (h : BookSt w B b lv wv L) : b < w.heap.size := by
  obtain ⟨held, hb⟩ := h.cell
  exact lt_of_block hb
theorem BookSt.lists_ne (h : BookSt w B b lv wv L) : lv.ownBlock ≠ some b := by
  intro e
  obtain ⟨cur, hb⟩ := h.lists.type e
  obtain ⟨held, hb2⟩ := h.cell
  rw [hb2] at hb; cases hb
theorem BookSt.was_ne (h : BookSt w B b lv wv L) : wv.ownBlock ≠ some b := by
  intro e
  obtain ⟨cur, hb⟩ := h.was.type e
  obtain ⟨held, hb2⟩ := h.cell
  rw [hb2] at hb; cases hb
/-- the book in a world in which nothing of it has turned -/
theorem BookSt.keep (h : BookSt w B b lv wv L) (hk : ∀ k, k < w.heap.size → w'.heap[k]? = w.heap[k]?) : BookSt w' B b lv wv L := by
  obtain ⟨held, hb⟩ := h.cell
  refine ⟨h.le, ⟨held, (hk b (lt_of_block hb)).trans hb⟩, h.lists.keep fun g _ hg => hk g hg, h.was.keep fun g _ hg => hk g hg, h.apart, fun k hkL => ⟨?_, (h.own k hkL).2.keep fun g cs hg => hk g (lt_of_block hg)⟩, h.two⟩
  obtain ⟨h1, h2⟩ := (h.own k hkL).1
  refine ⟨h1, ?_⟩
  rcases h2 with h2 | ⟨g, cap, cur, e, hb, hg, r⟩
  · exact .inl h2
  · exact .inr ⟨g, cap, cur, e, hb, (hk g (lt_of_block hg)).trans hg, r⟩
theorem BookSt.below (h : BookSt w B b lv wv L) (hb : Below w.heap.size w w') : BookSt w' B b lv wv L := h.keep fun k hk => hb.block k hk
end
/-- a book with one list more, the book's own cells laid -/
theorem BookSt.add {w w' : World} {B b : Nat} {lv wv lv' wv' : Value} {L : List Kp} (h : BookSt w B b lv wv L) (k : Kp) (held : Int)
    (hb : w'.heap[b]? = some (.cells #[lv', wv', .int .i64 held, .bool false] 59 (0, 0)))
    (hl : RowO w' B 48 lv' (L.length + 1) (L.map Kp.v ++ [k.v])) (hw : RowO w' B 48 wv' (L.length + 1) (L.map Kp.u ++ [k.u])) (hap : ∀ g, lv'.ownBlock = some g → wv'.ownBlock ≠ some g)
    (hf : Fr w.heap.size (BkS b lv wv) w w') (ho : w'.ownsRow B 47 6 k.v k.n (lfV k.xs)) (hu : RdC w' 47 6 k.u k.n (lfV k.xs)) (hd : ∀ q ∈ L, ∀ g, k.v.ownBlock = some g → q.v.ownBlock ≠ some g) : BookSt w' B b lv' wv' (L ++ [k]) := by
  refine ⟨h.le, ⟨held, hb⟩, by simpa using hl, by simpa using hw, hap, ?_, ?_⟩
  · intro q hq
    rcases List.mem_append.1 hq with hq | hq
    · obtain ⟨h1, h2⟩ := h.own q hq
      have hk : ∀ (g : Nat) (cs : Array Value), w.heap[g]? = some (Obj.cells cs 47 (0, 0)) → w'.heap[g]? = w.heap[g]? := fun g cs hg => hf.block g (lt_of_block hg) (h.far hg (by decide) (by decide))
      refine ⟨⟨h1.1, ?_⟩, h2.keep hk⟩
      rcases h1.2 with r | ⟨g, cap, cur, e, hb, hg, r⟩
      · exact .inl r
      · exact .inr ⟨g, cap, cur, e, hb, (hk g cur hg).trans hg, r⟩
    · simp at hq; subst hq; exact ⟨ho, hu⟩
  · rw [List.pairwise_append]
    refine ⟨h.two, by simp, fun p hp q hq g e => ?_⟩
    simp at hq; subst hq
    intro e2
    exact hd p hp g e2 e
/-- a book in a world in which its own block alone is laid anew -/
theorem BookSt.laid {w w' : World} {B b : Nat} {lv wv : Value} {L : List Kp} (h : BookSt w B b lv wv L) (held : Int)
    (hb : w'.heap[b]? = some (.cells #[lv, wv, .int .i64 held, .bool false] 59 (0, 0))) (hk : ∀ k, k < w.heap.size → k ≠ b → w'.heap[k]? = w.heap[k]?) : BookSt w' B b lv wv L := by
  have hnl := h.lists_ne
  have hnw := h.was_ne
  obtain ⟨held0, hb0⟩ := h.cell
  have hk2 : ∀ (g : Nat) (cs : Array Value), w.heap[g]? = some (Obj.cells cs 47 (0, 0)) → w'.heap[g]? = w.heap[g]? := fun g cs hg => hk g (lt_of_block hg) (fun e => by
    subst e; rw [hb0] at hg; cases hg)
  refine ⟨h.le, ⟨held, hb⟩, h.lists.keep fun g e hg => hk g hg (fun e2 => hnl (by rw [e, e2])), h.was.keep fun g e hg => hk g hg (fun e2 => hnw (by rw [e, e2])), h.apart, fun q hq => ?_, h.two⟩
  obtain ⟨h1, h2⟩ := h.own q hq
  refine ⟨⟨h1.1, ?_⟩, h2.keep hk2⟩
  rcases h1.2 with r | ⟨g, cap, cur, e, hb, hg, r⟩
  · exact .inl r
  · exact .inr ⟨g, cap, cur, e, hb, (hk2 g cur hg).trans hg, r⟩
theorem BookSt.setHeld {w : World} {B b : Nat} {lv wv : Value} {L : List Kp} (h : BookSt w B b lv wv L) (x : Int) : BookSt (w.setCell ⟨b, 2, none⟩ (.int .i64 x)) B b lv wv L := by
  obtain ⟨held, hb⟩ := h.cell
  exact h.laid x (setCell_block hb _) fun k _ hk => setCell_far hk _
theorem BookSt.setBad {w : World} {B b : Nat} {lv wv : Value} {L : List Kp} (h : BookSt w B b lv wv L) : BookSt (w.setCell ⟨b, 3, none⟩ (.bool false)) B b lv wv L := by
  obtain ⟨held, hb⟩ := h.cell
  exact h.laid held (setCell_block hb _) fun k _ hk => setCell_far hk _
theorem same_self (v1 v2 : Value) (n : Nat) (xs : List Lf) (w : World) (h1 : RdC w 47 6 v1 n (lfV xs)) (h2 : RdC w 47 6 v2 n (lfV xs)) :
    Calls Try.prog 28 #[v1, v2] w.drew (fun e w' => e = .returned (.bool true) ∧ ∃ j, w' = w.drew.drewN j) := by
  have := sameL_any v1 v2 n n xs xs w.drew h1.weak.drew h2.weak.drew
  have e : decide (xs = xs) = true := decide_eq_true rfl
  rwa [e] at this
/-- a book without its first list, the book's own cells laid -/
theorem BookSt.drop {w w' : World} {B b : Nat} {lv wv lv' wv' : Value} {k : Kp} {L : List Kp} (h : BookSt w B b lv wv (k :: L)) (held : Int)
    (hb : w'.heap[b]? = some (.cells #[lv', wv', .int .i64 held, .bool false] 59 (0, 0)))
    (hl : RowO w B 48 lv' L.length (L.map Kp.v)) (hw : RowO w B 48 wv' L.length (L.map Kp.u)) (hlo : lv'.ownBlock = lv.ownBlock) (hwo : wv'.ownBlock = wv.ownBlock)
    (hf : Fr w.heap.size (fun k => k = b) w w') : BookSt w' B b lv' wv' L := by
  have hnl := h.lists_ne
  have hnw := h.was_ne
  obtain ⟨held0, hb0⟩ := h.cell
  have hk : ∀ (g : Nat) (cs : Array Value), w.heap[g]? = some (Obj.cells cs 47 (0, 0)) → w'.heap[g]? = w.heap[g]? := fun g cs hg => hf.block g (lt_of_block hg) (fun e => by
    subst e; rw [hb0] at hg; cases hg)
  refine ⟨h.le, ⟨held, hb⟩, hl.keep fun g e hg => hf.block g hg (fun e2 => hnl (by rw [← hlo, e, e2])), hw.keep fun g e hg => hf.block g hg (fun e2 => hnw (by rw [← hwo, e, e2])), fun g e => by rw [hlo] at e; rw [hwo]; exact h.apart g e, fun q hq => ?_, (List.pairwise_cons.1 h.two).2⟩
  obtain ⟨h1, h2⟩ := h.own q (by simp [hq])
  refine ⟨⟨h1.1, ?_⟩, h2.keep hk⟩
  rcases h1.2 with r | ⟨g, cap, cur, e, hb, hg, r⟩
  · exact .inl r
  · exact .inr ⟨g, cap, cur, e, hb, (hk g cur hg).trans hg, r⟩
end Go.Proofs.Ytaogndianciogaa.Mm.Lv
/- bulkheadbook.Book.Stays of api.Leaf. -/
namespace Go.Proofs.Ytaogndianciogaa.Mm.Lv
open Go.RowKit
set_option linter.unusedVariables false
set_option linter.unusedSimpArgs false
set_option maxHeartbeats 4000000 in
set_option maxRecDepth 100000 in
theorem stays_any (B b : Nat) (lv wv : Value) (L : List Kp) (w : World) (hs : BookSt w B b lv wv L) (hL : L.length ≤ 4000) :
    Calls Try.prog 47 #[.pointer (some ⟨b, 0, none⟩)] w
      (fun e w' => e = .returned (.bool true) ∧ ∃ j, w' = w.drewN j) := by
  obtain ⟨A1, cap1, rfl⟩ : ∃ A c, lv = .slice A L.length c := by
    rcases hs.lists.2 with ⟨e, h0⟩ | ⟨g, off, cap, cur, e, _⟩
    · exact ⟨_, _, by rw [e, h0]⟩
    · exact ⟨_, _, e⟩
  obtain ⟨A2, cap2, rfl⟩ : ∃ A c, wv = .slice A L.length c := by
    rcases hs.was.2 with ⟨e, h0⟩ | ⟨g, off, cap, cur, e, _⟩
    · exact ⟨_, _, by rw [e, h0]⟩
    · exact ⟨_, _, e⟩
  obtain ⟨held, hg⟩ := hs.cell
  have hg' := Lib.hid hg
  have hs' := Lib.hid hs
  clear hg hs
  go_enter Try.func47, Try.ntmps47
  go_wp2
  go_loopg [3] (L.length + 1) (fun g1 v3 wr => ∃ i : Nat, i + g1 = L.length + 1 ∧ i ≤ L.length ∧ v3 = .int .i64 i ∧ Hid (∃ j, wr = w.drewN j))
  case atStart => exact ⟨0, by omega, by omega, rfl, ⟨0, rfl⟩⟩
  case round =>
    obtain ⟨i, hk, hi, rfl, hj⟩ := hrel
    have hh : wr.heap = w.heap := by obtain ⟨j, rfl⟩ := hj.out; rfl
    have hgr : wr.heap[b]? = _ := (congrArg (fun h : Array Obj => h[b]?) hh).trans hg'.out
    have c0 : wr.cell? ⟨b, 0, none⟩ = some (.slice A1 L.length cap1) := cell_of_row wr b 0 _ _ _ hgr
    have c1 : wr.cell? ⟨b, 1, none⟩ = some (.slice A2 L.length cap2) := cell_of_row wr b 1 _ _ _ hgr
    have c3 : wr.cell? ⟨b, 3, none⟩ = some (.bool false) := cell_of_row wr b 3 _ _ _ hgr
    have f3 : wr.frozen? ⟨b, 3, none⟩ = false := frozen_of_block hgr
    have hset : Hid (∀ j, (wr.drewN j).setCell ⟨b, 3, none⟩ (.bool false) = wr.drewN j) := fun j => setCell_self _ b 3 (.bool false) _ _ hgr rfl
    have hSr := Lib.hid (hs'.out.keep (w' := wr) fun k _ => congrArg (fun h : Array Obj => h[k]?) hh)
    clear hgr hh
    by_cases hlt : i < L.length
    · have hq : L[i]? = some (L[i]'hlt) := List.getElem?_eq_getElem _
      generalize L[i]'hlt = q at hq
      obtain ⟨qv, qu, qn, qx⟩ := q
      obtain ⟨hq1, hq2⟩ := hSr.out.own _ (List.mem_of_getElem? hq)
      obtain ⟨gl, ol, cl, hle, _, hcl0, hcl1, cL⟩ := hSr.out.lists.cell (i := i) (x := qv) (by simp [hq])
      obtain ⟨gw, ow, cw, hwe, _, hcw0, hcw1, cW⟩ := hSr.out.was.cell (i := i) (x := qu) (by simp [hq])
      cases hle
      cases hwe
      dsimp only at hq1 hq2
      have hsame := Lib.hid (And.intro (RdC.of_own hq1) hq2)
      have h0I : (0 : Int) ≤ (i : Int) := by omega
      have hltI : (i : Int) < (L.length : Int) := by omega
      clear hq hq1 hq2 hSr hcl1 hcw1
      go_wp2
      go_region_held3 (fun w' => w'.cell? ⟨b, 0, none⟩ = some (.slice (some ⟨gl, ol, none⟩) L.length cap1) ∧ w'.cell? ⟨b, 1, none⟩ = some (.slice (some ⟨gw, ow, none⟩) L.length cap2) ∧ w'.cell? ⟨b, 3, none⟩ = some (.bool false) ∧ w'.cell? ⟨gl, ol + i, none⟩ = some qv ∧ w'.cell? ⟨gw, ow + i, none⟩ = some qu)
        (first
          | exact ⟨c0, c1, c3, cL, cW⟩
          | (rw [hset.out]; exact ⟨c0, c1, c3, cL, cW⟩))
        (first
          | (go_at_call 28; refine (same_self _ _ qn qx wr hsame.out.1 hsame.out.2).mono ?_; rintro en w2 ⟨rfl, j, rfl⟩; have f3' : (wr.drew.drewN j).frozen? ⟨b, 3, none⟩ = false := f3))
      go_wp2
      go_roundg (L.length - i)
      case rel =>
        refine ⟨i + 1, by omega, by omega, by simp, ?_⟩
        rw [hset.out]
        obtain ⟨j0, rfl⟩ := hj.out
        exact ⟨_, World.drewN_drewN _ _ _⟩
      case measure => omega
    · obtain rfl : i = L.length := by omega
      go_wp2
      go_returns
      exact ⟨rfl, hj.out⟩
end Go.Proofs.Ytaogndianciogaa.Mm.Lv
