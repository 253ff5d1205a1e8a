/- PagesBytes' state: the table in its block, the book. -/
import Derived.Test.YtaogndianciogaaKeep
import Derived.Test.YtaogndianciogaaApart
import Derived.Test.YtaogndianciogaaPagesPure
import Derived.Test.YtaogndianciogaaTabEq
import Derived.Test.YtaogndianciogaaIntactB
namespace Go.Proofs.Ytaogndianciogaa.Mm
open Go.RowKit
set_option linter.unusedVariables false
set_option linter.unusedSimpArgs false
structure LSt (w : World) (cs : Array Value) (wr : World) : Prop where
  table : wr.heap[w.heap.size]? = some (.cells cs 24 (0, 0))
  below : Below w.heap.size w wr
  book : ∃ lv wv L, BookSt wr w.heap.size (w.heap.size + 2) lv wv L ∧ L.length ≤ 4000
section
variable {w wr w2 : World} {cs : Array Value}
theorem LSt.next (h : LSt w cs wr) (hb : Below wr.heap.size wr w2) : LSt w cs w2 := by
  obtain ⟨lv, wv, L, hB, hL⟩ := h.book
  exact ⟨(hb.block _ (lt_of_block h.table)).trans h.table, h.below.trans (hb.mono h.below.size), lv, wv, L, hB.below hb, hL⟩
theorem LSt.keep_call (h : LSt w cs wr) (hb : Below wr.heap.size wr w2) {v : Value} {n : Nat} {xs : List Int} (hv : w2.ownsRow wr.heap.size 5 1 v n (u8V xs)) (hn : n ≤ 100000000000000) :
    Calls Try.prog 10 #[.pointer (some ⟨w.heap.size + 2, 0, none⟩), v] w2
      (fun e w' => e = .returned (.tuple #[]) ∧ LSt w cs w' ∧ ∀ (g : Nat) (cs : Array Value), w2.heap[g]? = some (Obj.cells cs 5 (0, 0)) → w'.heap[g]? = w2.heap[g]?) := by
  obtain ⟨lv, wv, L, hB, hL⟩ := h.book
  have h2 := h.next hb
  have hB2 := hB.below hb
  refine (keep_any w.heap.size (w.heap.size + 2) lv wv v L n xs w2 hB2 hL (own_mono hv h.below.size) hn ?_ h2.below.size).mono ?_
  · intro q hq g e e2
    have h3 := (hv.lt g e).1
    have h4 := ((hB.own q hq).1.lt g e2).2
    omega
  · rintro e w' ⟨rfl, lv', wv', L', hB', hL', hF⟩
    refine ⟨rfl, ⟨(hF.block _ (lt_of_block h2.table) (hB2.far h2.table (by decide) (by decide))).trans h2.table, h2.below.trans ((hF.mono h2.below.size (fun _ _ h => h)).below fun k hk => hB2.above hk), lv', wv', L', hB', hL'⟩, fun g cs hg => hF.block g (lt_of_block hg) (hB2.far hg (by decide) (by decide))⟩
theorem LSt.apart_call (h : LSt w cs wr) :
    Calls Try.prog 14 #[.pointer (some ⟨w.heap.size + 2, 0, none⟩), .func (.func 15) #[] #[]] wr
      (fun e w' => e = .returned (.bool true) ∧ Below w.heap.size w w') := by
  obtain ⟨lv, wv, L, hB, hL⟩ := h.book
  exact (apart_any w.heap.size (w.heap.size + 2) lv wv L wr hB hL).mono fun e w' ⟨h1, h2⟩ => ⟨h1, h.below.trans h2⟩
end
/-- as long as the book is empty -/
structure LS0 (w : World) (cs : Array Value) (wr : World) : Prop where
  table : wr.heap[w.heap.size]? = some (.cells cs 24 (0, 0))
  below : Below w.heap.size w wr
  book : wr.heap[w.heap.size + 2]? = some (.cells #[.slice none 0 0, .slice none 0 0, .int .i64 0, .bool false] 30 (0, 0))
theorem LS0.full {w wr : World} {cs : Array Value} (h : LS0 w cs wr) : LSt w cs wr :=
  ⟨h.table, h.below, .slice none 0 0, .slice none 0 0, [], ⟨by omega, ⟨0, h.book⟩, RowO.nil _ _ _, RowO.nil _ _ _, by simp [Value.ownBlock], by simp, by simp⟩, by simp⟩
theorem LS0.start (w : World) (cs : Array Value) (n : Int) : LS0 w cs (((w.alloc (.cells cs 24)).alloc (.cells #[.int .i64 n] 3)).alloc (.cells #[.slice none 0 0, .slice none 0 0, .int .i64 0, .bool false] 30)) := by
  refine ⟨?_, (((Below.refl _ _).alloc (Nat.le_refl _) _).alloc (by simp) _).alloc (by simp; omega) _, ?_⟩
  · exact (Below.heap_alloc _ _ _ (by simp; omega)).trans ((Below.heap_alloc _ _ _ (by simp)).trans (heap_alloc_new w _))
  · have := heap_alloc_new ((w.alloc (.cells cs 24)).alloc (.cells #[.int .i64 n] 3)) (.cells #[.slice none 0 0, .slice none 0 0, .int .i64 0, .bool false] 30)
    rw [World.size_alloc, World.size_alloc] at this
    exact this
theorem LS0.grown {w wr w' : World} {cs : Array Value} {v : Value} {n : Nat} {xs : List Value} {o : Obj} (h : LS0 w cs wr) (hv : wr.ownsRow w.heap.size 5 1 v n xs) (hg : (wr.alloc o).grownBy w' v.ownBlock) : LS0 w cs w' := by
  have h1 := own_ne hv h.table (by decide)
  have h2 := own_ne hv h.book (by decide)
  have l1 := lt_of_block h.table
  have l2 := lt_of_block h.book
  refine ⟨((hg.block _ (by simp; omega) h1).trans (Below.heap_alloc _ _ _ (by omega))).trans h.table, (h.below.alloc h.below.size _).grown hg (by simp; have := h.below.size; omega) (fun k e => (hv.lt k e).1), ((hg.block _ (by simp; omega) h2).trans (Below.heap_alloc _ _ _ (by omega))).trans h.book⟩
end Go.Proofs.Ytaogndianciogaa.Mm
