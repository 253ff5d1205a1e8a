/- The two books of PagesBuilds, side by side. -/
import Derived.Test.YtaogndianciogaaKeepT
import Derived.Test.YtaogndianciogaaKeepL
import Derived.Test.YtaogndianciogaaRBuild
import Derived.Test.YtaogndianciogaaCount
namespace Go.Proofs.Ytaogndianciogaa.Mm
open Go.RowKit
set_option linter.unusedVariables false
set_option linter.unusedSimpArgs false
/-- what a call of asked leaves: what is below B, and each block of leaves -/
structure Still (B : Nat) (w w' : World) : Prop where
  size : w.heap.size ≤ w'.heap.size
  bel : Below B w w'
  leaf : ∀ (k : Nat) (cs : Array Value), w.heap[k]? = some (.cells cs 47 (0, 0)) → w'.heap[k]? = w.heap[k]?
  tab : ∀ (k : Nat) (cs : Array Value), w.heap[k]? = some (.cells cs 24 (0, 0)) → w'.heap[k]? = w.heap[k]?
theorem Still.refl (B : Nat) (w : World) : Still B w w := ⟨Nat.le_refl _, Below.refl _ _, fun _ _ _ => rfl, fun _ _ _ => rfl⟩
theorem Still.trans {B : Nat} {w w1 w2 : World} (h : Still B w w1) (k : Still B w1 w2) : Still B w w2 :=
  ⟨Nat.le_trans h.size k.size, h.bel.trans k.bel, fun g cs hg => (k.leaf g cs ((h.leaf g cs hg).trans hg)).trans (h.leaf g cs hg), fun g cs hg => (k.tab g cs ((h.tab g cs hg).trans hg)).trans (h.tab g cs hg)⟩
theorem Still.below {B : Nat} {w w1 : World} (hB : B ≤ w.heap.size) (h : Below w.heap.size w w1) : Still B w w1 :=
  ⟨h.size, h.mono hB, fun k cs hk => h.block k (lt_of_block hk), fun k cs hk => h.block k (lt_of_block hk)⟩
def OneT (w : World) (B b S : Nat) : Prop := ∃ lv wv L, Tb.BookSt w B b lv wv L ∧ L.length ≤ 4000 ∧ ∀ q ∈ L, ∀ g, q.v.ownBlock = some g → g < S
theorem Tb.BookSt.keepBy {w w' : World} {B b : Nat} {lv wv : Value} {L : List Tb.Kp} (h : Tb.BookSt w B b lv wv L) (hk : ∀ (k : Nat) (cs : Array Value) (T : TypeId), w.heap[k]? = some (.cells cs T (0, 0)) → T = 55 ∨ T = 42 ∨ T = 24 → w'.heap[k]? = w.heap[k]?) : Tb.BookSt w' B b lv wv L := by
  obtain ⟨held, hb⟩ := h.cell
  refine ⟨h.le, ⟨held, (hk b _ _ hb (.inl rfl)).trans hb⟩, h.lists.keep fun g e hg => ?_, h.was.keep fun g e hg => ?_, h.apart, fun q hq => ⟨?_, (h.own q hq).2.keep fun g cs hg => hk g cs _ hg (.inr (.inr rfl))⟩, h.two⟩
  · obtain ⟨cur, hc⟩ := h.lists.type e
    exact hk g _ _ hc (.inr (.inl rfl))
  · obtain ⟨cur, hc⟩ := h.was.type e
    exact hk g _ _ hc (.inr (.inl rfl))
  · exact Tb.own_keep (h.own q hq).1 fun g cs hg => hk g cs _ hg (.inr (.inr rfl))
theorem OneT.below {w w' : World} {B b S : Nat} (h : OneT w B b S) (hb : Below w.heap.size w w') : OneT w' B b S := by
  obtain ⟨lv, wv, L, h1, h2, h3⟩ := h
  exact ⟨lv, wv, L, h1.below hb, h2, h3⟩
theorem OneT.grow {w : World} {B b S : Nat} (h : OneT w B b S) : OneT w B b w.heap.size := by
  obtain ⟨lv, wv, L, h1, h2, h3⟩ := h
  exact ⟨lv, wv, L, h1, h2, fun q hq g e => ((h1.own q hq).1.lt g e).2⟩
theorem OneT.far {w w' : World} {B b S : Nat} (h : OneT w B b S) (hk : ∀ (k : Nat) (cs : Array Value) (T : TypeId), w.heap[k]? = some (.cells cs T (0, 0)) → T = 55 ∨ T = 42 ∨ T = 24 → w'.heap[k]? = w.heap[k]?) : OneT w' B b S := by
  obtain ⟨lv, wv, L, h1, h2, h3⟩ := h
  exact ⟨lv, wv, L, h1.keepBy hk, h2, h3⟩
/-- a list of a new block is kept -/
theorem keepT_one (B b S : Nat) (v : Value) (n : Nat) (xs : List Int) (w : World) (h : OneT w B b S) (hv : w.ownsRow S 24 512 v n (u64V xs)) (hn : n ≤ 30000000) (hB : B ≤ S) (hS : S ≤ w.heap.size) :
    Calls Try.prog 42 #[.pointer (some ⟨b, 0, none⟩), v] w
      (fun e w' => e = .returned (.tuple #[]) ∧ OneT w' B b w'.heap.size ∧ Still B w w' ∧ ∀ (k : Nat) (cs : Array Value) (T : TypeId), w.heap[k]? = some (.cells cs T (0, 0)) → T ≠ 55 → T ≠ 42 → w'.heap[k]? = w.heap[k]?) := by
  obtain ⟨lv, wv, L, h1, h2, h3⟩ := h
  have hd : ∀ q ∈ L, ∀ g, v.ownBlock = some g → q.v.ownBlock ≠ some g := by
    intro q hq g e e2
    have a := h3 q hq g e2
    have b := (hv.lt g e).1
    omega
  have hv2 : w.ownsRow B 24 512 v n (u64V xs) := by
    refine ⟨hv.1, ?_⟩
    rcases hv.2 with r | ⟨g, cap, cur, e, hb, r⟩
    · exact .inl r
    · exact .inr ⟨g, cap, cur, e, by omega, r⟩
  refine (Tb.keep_any B b lv wv v L n xs w h1 h2 hv2 hn hd (by omega)).mono ?_
  rintro e w' ⟨he, lv', wv', L', k1, k2, k3⟩
  refine ⟨he, ⟨lv', wv', L', k1, k2, fun q hq g e => ((k1.own q hq).1.lt g e).2⟩, ⟨k3.size, (k3.mono (B' := B) (by omega) (fun _ _ s => s)).below (fun k hk => h1.above hk), fun k cs hk => k3.block k (lt_of_block hk) (h1.far hk (by decide) (by decide)), fun k cs hk => k3.block k (lt_of_block hk) (h1.far hk (by decide) (by decide))⟩, fun k cs T hk t1 t2 => k3.block k (lt_of_block hk) (h1.far hk t1 t2)⟩
def OneL (w : World) (B b S : Nat) : Prop := ∃ lv wv L, Lv.BookSt w B b lv wv L ∧ L.length ≤ 4000 ∧ ∀ q ∈ L, ∀ g, q.v.ownBlock = some g → g < S
theorem Lv.BookSt.keepBy {w w' : World} {B b : Nat} {lv wv : Value} {L : List Lv.Kp} (h : Lv.BookSt w B b lv wv L) (hk : ∀ (k : Nat) (cs : Array Value) (T : TypeId), w.heap[k]? = some (.cells cs T (0, 0)) → T = 59 ∨ T = 48 ∨ T = 47 → w'.heap[k]? = w.heap[k]?) : Lv.BookSt w' B b lv wv L := by
  obtain ⟨held, hb⟩ := h.cell
  refine ⟨h.le, ⟨held, (hk b _ _ hb (.inl rfl)).trans hb⟩, h.lists.keep fun g e hg => ?_, h.was.keep fun g e hg => ?_, h.apart, fun q hq => ⟨?_, (h.own q hq).2.keep fun g cs hg => hk g cs _ hg (.inr (.inr rfl))⟩, h.two⟩
  · obtain ⟨cur, hc⟩ := h.lists.type e
    exact hk g _ _ hc (.inr (.inl rfl))
  · obtain ⟨cur, hc⟩ := h.was.type e
    exact hk g _ _ hc (.inr (.inl rfl))
  · exact Tb.own_keep (h.own q hq).1 fun g cs hg => hk g cs _ hg (.inr (.inr rfl))
theorem OneL.below {w w' : World} {B b S : Nat} (h : OneL w B b S) (hb : Below w.heap.size w w') : OneL w' B b S := by
  obtain ⟨lv, wv, L, h1, h2, h3⟩ := h
  exact ⟨lv, wv, L, h1.below hb, h2, h3⟩
theorem OneL.grow {w : World} {B b S : Nat} (h : OneL w B b S) : OneL w B b w.heap.size := by
  obtain ⟨lv, wv, L, h1, h2, h3⟩ := h
  exact ⟨lv, wv, L, h1, h2, fun q hq g e => ((h1.own q hq).1.lt g e).2⟩
theorem OneL.far {w w' : World} {B b S : Nat} (h : OneL w B b S) (hk : ∀ (k : Nat) (cs : Array Value) (T : TypeId), w.heap[k]? = some (.cells cs T (0, 0)) → T = 59 ∨ T = 48 ∨ T = 47 → w'.heap[k]? = w.heap[k]?) : OneL w' B b S := by
  obtain ⟨lv, wv, L, h1, h2, h3⟩ := h
  exact ⟨lv, wv, L, h1.keepBy hk, h2, h3⟩
/-- a list of a new block is kept -/
theorem keepL_one (B b S : Nat) (v : Value) (n : Nat) (xs : List Lf) (w : World) (h : OneL w B b S) (hv : w.ownsRow S 47 6 v n (lfV xs)) (hn : n ≤ 30000000) (hB : B ≤ S) (hS : S ≤ w.heap.size) :
    Calls Try.prog 43 #[.pointer (some ⟨b, 0, none⟩), v] w
      (fun e w' => e = .returned (.tuple #[]) ∧ OneL w' B b w'.heap.size ∧ Still B w w' ∧ ∀ (k : Nat) (cs : Array Value) (T : TypeId), w.heap[k]? = some (.cells cs T (0, 0)) → T ≠ 59 → T ≠ 48 → w'.heap[k]? = w.heap[k]?) := by
  obtain ⟨lv, wv, L, h1, h2, h3⟩ := h
  have hd : ∀ q ∈ L, ∀ g, v.ownBlock = some g → q.v.ownBlock ≠ some g := by
    intro q hq g e e2
    have a := h3 q hq g e2
    have b := (hv.lt g e).1
    omega
  have hv2 : w.ownsRow B 47 6 v n (lfV xs) := by
    refine ⟨hv.1, ?_⟩
    rcases hv.2 with r | ⟨g, cap, cur, e, hb, r⟩
    · exact .inl r
    · exact .inr ⟨g, cap, cur, e, by omega, r⟩
  refine (Lv.keep_any B b lv wv v L n xs w h1 h2 hv2 hn hd (by omega)).mono ?_
  rintro e w' ⟨he, lv', wv', L', k1, k2, k3⟩
  refine ⟨he, ⟨lv', wv', L', k1, k2, fun q hq g e => ((k1.own q hq).1.lt g e).2⟩, ⟨k3.size, (k3.mono (B' := B) (by omega) (fun _ _ s => s)).below (fun k hk => h1.above hk), fun k cs hk => k3.block k (lt_of_block hk) (h1.far hk (by decide) (by decide)), fun k cs hk => k3.block k (lt_of_block hk) (h1.far hk (by decide) (by decide))⟩, fun k cs T hk t1 t2 => k3.block k (lt_of_block hk) (h1.far hk t1 t2)⟩
/-- what Count says -/
theorem count_ref {l : List Lf} (hok : ∀ x ∈ l, x.ok) : (∀ c, buildP 0 l = .error c → countR l = (0, c)) ∧ (∀ s, buildP 0 l = .ok s → countR l = ((s.m : Int), 0)) := by
  have hnn : ∀ x ∈ l, 0 ≤ x.virt ∧ 0 ≤ x.phys := fun x hx => ⟨(hok x hx).1, (hok x hx).2.2.1⟩
  by_cases hr : rightP 0 l = 0
  · have hg := okRows_all ((right_ok hnn).1 hr)
    obtain ⟨t1, t2⟩ := tabs_names hg
    by_cases hm : 1024 < (tabsP l).length
    · have hc : countR l = (0, 4) := by unfold countR; rw [if_neg (fun h => h hr), if_pos hm]
      have hn : 1024 < (namesP l).length := by
        by_cases h : 1024 < (namesP l).length
        · exact h
        · rw [t1 (by omega)] at hm; omega
      have hb := (tables_names (base := 0) hnn hr).2 hn
      rw [hb, hc]
      exact ⟨(fun c e => by cases e; rfl), (fun s e => by cases e)⟩
    · have hc : countR l = (((tabsP l).length : Int), 0) := by unfold countR; rw [if_neg (fun h => h hr), if_neg hm]
      have hn : (namesP l).length ≤ 1024 := by
        by_cases h : 1024 < (namesP l).length
        · exact absurd (t2 h) hm
        · omega
      obtain ⟨s, k1, k2, k3⟩ := entP_eq (base := 0) hnn hr hn
      rw [k1, hc, t1 hn]
      exact ⟨(fun c e => by cases e), (fun s' e => by cases e; rw [k2])⟩
  · have hc : countR l = (0, rightP 0 l) := by unfold countR; rw [if_pos hr]
    have hb : buildP 0 l = .error (rightP 0 l) := by unfold buildP; rw [if_pos hr]
    rw [hb, hc]
    exact ⟨(fun c e => by cases e; rfl), (fun s e => by cases e)⟩
theorem count_both (v : Value) (n : Nat) (l : List Lf) (hok : ∀ x ∈ l, x.ok) (w : World) (hv : RdX w 6 v n (lfV l)) :
    Calls Try.prog 17 #[v] w (fun e w' => e = .returned (.tuple #[.int .i64 (countR l).1, .int .i64 (countR l).2]) ∧ Below w.heap.size w w') := by
  refine (count_any v n l hok w hv).mono ?_
  rintro e w' ⟨h1, h2, h3⟩
  obtain ⟨k1, k2⟩ := count_ref hok
  refine ⟨?_, h3⟩
  cases hb : buildP 0 l with
  | error c => rw [k1 c hb]; exact h1 c hb
  | ok s => rw [k2 s hb]; exact h2 s hb
end Go.Proofs.Ytaogndianciogaa.Mm
