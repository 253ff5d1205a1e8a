/- Words for memory: what a call may turn, and a slice that reads as cells. No program in sight. -/
import Derived.WalkKit
import Derived.Below
import Derived.Deep.LoopGhost
import Derived.Deep.QuietTactic
import Derived.BigQuiet
import Derived.WalkLawsBesides
import Derived.Lib.Hide
namespace Go.Proofs.Ytaogndianciogaa.Mm
open Go.RowKit
set_option linter.unusedVariables false
set_option linter.unusedSimpArgs false
/-- below block number B nothing has turned but the blocks of S -/
structure Fr (B : Nat) (S : Nat → Prop) (w w' : World) : Prop where
  os : w'.os = w.os
  tape : w'.tape = w.tape
  output : w'.output = w.output
  size : w.heap.size ≤ w'.heap.size
  block : ∀ k, k < B → ¬ S k → w'.heap[k]? = w.heap[k]?
section
variable {B B' : Nat} {S S' : Nat → Prop} {w w1 w2 : World}
theorem Fr.refl (B : Nat) (S : Nat → Prop) (w : World) : Fr B S w w := ⟨rfl, rfl, rfl, Nat.le_refl _, fun _ _ _ => rfl⟩
theorem Fr.trans (h : Fr B S w w1) (k : Fr B S w1 w2) : Fr B S w w2 :=
  ⟨k.os.trans h.os, k.tape.trans h.tape, k.output.trans h.output, Nat.le_trans h.size k.size, fun i hi hs => (k.block i hi hs).trans (h.block i hi hs)⟩
theorem Fr.mono (h : Fr B S w w1) (hB : B' ≤ B) (hS : ∀ k, k < B' → S k → S' k) : Fr B' S' w w1 :=
  ⟨h.os, h.tape, h.output, h.size, fun i hi hs => h.block i (by omega) (fun e => hs (hS i hi e))⟩
theorem Fr.of_below (h : Below B w w1) : Fr B S w w1 := ⟨h.os, h.tape, h.output, h.size, fun i hi _ => h.block i hi⟩
theorem Fr.below (h : Fr B S w w1) (hS : ∀ k, k < B → ¬ S k) : Below B w w1 := ⟨h.os, h.tape, h.output, h.size, fun i hi => h.block i hi (hS i hi)⟩
theorem Fr.drew (h : Fr B S w w1) : Fr B S w w1.drew := ⟨h.os, h.tape, h.output, h.size, h.block⟩
theorem Fr.drewN (h : Fr B S w w1) (n : Nat) : Fr B S w (w1.drewN n) := ⟨h.os, h.tape, h.output, h.size, h.block⟩
theorem Fr.alloc (h : Fr B S w w1) (hB : B ≤ w1.heap.size) (o : Obj) : Fr B S w (w1.alloc o) :=
  h.trans ⟨rfl, rfl, rfl, by simp, fun k hk _ => Below.heap_alloc _ _ _ (by omega)⟩
theorem Fr.setCell (h : Fr B S w w1) {p : Addr} (hp : B ≤ p.block ∨ S p.block) (u : Value) : Fr B S w (w1.setCell p u) :=
  h.trans ⟨rfl, rfl, rfl, by simp [World.setCell], fun k hk hs => Below.heap_setCell _ _ _ _ (fun e => by
    rcases hp with hp | hp
    · omega
    · exact hs (e ▸ hp))⟩
theorem Fr.grown (h : Fr B S w w1) {row : Option Nat} (hg : w1.grownBy w2 row) (hB : B ≤ w1.heap.size) (hr : ∀ k, row = some k → B ≤ k ∨ S k) : Fr B S w w2 :=
  h.trans ⟨hg.os, hg.tape, hg.output, hg.size, fun k hk hs => hg.block k (by omega) (fun e => by
    rcases hr k e.symm with h | h
    · omega
    · exact hs h)⟩
end
theorem below_drewN {B : Nat} {a w : World} (h : Below B a w) (n : Nat) : Below B a (w.drewN n) := ⟨h.os, h.tape, h.output, h.size, h.block⟩
/-- the slice value v reads as n things of the cells xs, in a block of T -/
def RdC (w : World) (T : TypeId) (sz : Nat) (v : Value) (n : Nat) (xs : List Value) : Prop :=
  xs.length = n * sz ∧ ∃ A c, v = .slice A n c ∧ n ≤ c ∧ c ≤ maxLen ∧ (0 < n → ∃ gb off cs, A = some ⟨gb, off, none⟩ ∧ w.heap[gb]? = some (.cells cs T (0, 0)) ∧ ∀ i x, xs[i]? = some x → cs[off + i]? = some x)
section
variable {w w' : World} {T : TypeId} {sz : Nat} {v : Value} {n : Nat} {xs : List Value}
theorem RdC.keep (h : RdC w T sz v n xs) (hk : ∀ (g : Nat) (cs : Array Value), w.heap[g]? = some (Obj.cells cs T (0, 0)) → w'.heap[g]? = w.heap[g]?) : RdC w' T sz v n xs := by
  obtain ⟨hl, A, c, rfl, hc, hm, hr⟩ := h
  refine ⟨hl, A, c, rfl, hc, hm, fun h0 => ?_⟩
  obtain ⟨gb, off, cs, rfl, hg, hx⟩ := hr h0
  exact ⟨gb, off, cs, rfl, (hk gb cs hg).trans hg, hx⟩
theorem RdC.below (h : RdC w T sz v n xs) (hb : Below w.heap.size w w') : RdC w' T sz v n xs :=
  h.keep fun g cs hg => hb.block g (Array.getElem?_eq_some_iff.1 hg).1
theorem RdC.keep1 (h : RdC w T sz v n xs) (hk : ∀ g, v.ownBlock = some g → g < w.heap.size → w'.heap[g]? = w.heap[g]?) : RdC w' T sz v n xs := by
  obtain ⟨hl, A, c, rfl, hc, hm, hr⟩ := h
  refine ⟨hl, A, c, rfl, hc, hm, fun h0 => ?_⟩
  obtain ⟨gb, off, cs, rfl, hg, hx⟩ := hr h0
  exact ⟨gb, off, cs, rfl, (hk gb rfl (Array.getElem?_eq_some_iff.1 hg).1).trans hg, hx⟩
/-- an owned row reads as its cells -/
theorem RdC.of_own {base : Nat} (h : w.ownsRow base T sz v n xs) : RdC w T sz v n xs := by
  obtain ⟨h1, h2⟩ := h
  refine ⟨h1, ?_⟩
  rcases h2 with ⟨rfl, rfl⟩ | ⟨g, cap, cur, rfl, hb, hg, hnc, hcm, hcs, htake⟩
  · exact ⟨none, 0, rfl, Nat.le_refl _, Nat.zero_le _, fun h => absurd h (by omega)⟩
  · refine ⟨_, _, rfl, hnc, hcm, fun _ => ⟨g, 0, cur, rfl, hg, fun i x hi => ?_⟩⟩
    rw [← htake] at hi
    have hlt : i < n * sz := by
      have := (List.getElem?_eq_some_iff.1 hi).1
      simp at this; omega
    rw [List.getElem?_take, if_pos hlt] at hi
    simpa using hi
theorem RdC.nil (w : World) (T : TypeId) (sz : Nat) : RdC w T sz (.slice none 0 0) 0 [] := ⟨by simp, none, 0, rfl, Nat.le_refl _, Nat.zero_le _, fun h => absurd h (by omega)⟩
/-- one cell of it -/
theorem RdC.cell (h : RdC w T sz v n xs) {i : Nat} {x : Value} (hi : xs[i]? = some x) : ∃ gb off c, v = .slice (some ⟨gb, off, none⟩) n c ∧ n ≤ c ∧ c ≤ maxLen ∧ w.cell? ⟨gb, off + i, none⟩ = some x := by
  obtain ⟨hl, A, c, rfl, hc, hm, hr⟩ := h
  have h0 : 0 < n := by
    have := (List.getElem?_eq_some_iff.1 hi).1
    apply Nat.pos_of_ne_zero; rintro rfl; simp at hl; subst hl; simp at this
  obtain ⟨gb, off, cs, rfl, hg, hx⟩ := hr h0
  exact ⟨gb, off, c, rfl, hc, hm, (cell_of_row w gb (off + i) cs T (0, 0) hg).trans (hx i x hi)⟩
end
/-- the slice value v reads as n things of the cells xs, whatever block they lie in -/
def RdX (w : World) (sz : Nat) (v : Value) (n : Nat) (xs : List Value) : Prop :=
  xs.length = n * sz ∧ ∃ A c, v = .slice A n c ∧ n ≤ c ∧ c ≤ maxLen ∧ (0 < n → ∃ gb off, A = some ⟨gb, off, none⟩ ∧ gb < w.heap.size ∧ ∀ (i : Nat) x, xs[i]? = some x → w.cell? ⟨gb, off + i, none⟩ = some x)
theorem RdC.weak {w : World} {T : TypeId} {sz : Nat} {v : Value} {n : Nat} {xs : List Value} (h : RdC w T sz v n xs) : RdX w sz v n xs := by
  obtain ⟨hl, A, c, rfl, hc, hm, hr⟩ := h
  refine ⟨hl, A, c, rfl, hc, hm, fun h0 => ?_⟩
  obtain ⟨gb, off, cs, rfl, hg, hx⟩ := hr h0
  exact ⟨gb, off, rfl, (Array.getElem?_eq_some_iff.1 hg).1, fun i x hi => (cell_of_row w gb (off + i) cs T (0, 0) hg).trans (hx i x hi)⟩
theorem RdX.below {w w' : World} {sz : Nat} {v : Value} {n : Nat} {xs : List Value} (h : RdX w sz v n xs) (hb : Below w.heap.size w w') : RdX w' sz v n xs := by
  obtain ⟨hl, A, c, rfl, hc, hm, hr⟩ := h
  refine ⟨hl, A, c, rfl, hc, hm, fun h0 => ?_⟩
  obtain ⟨gb, off, rfl, hlt, hx⟩ := hr h0
  exact ⟨gb, off, rfl, Nat.lt_of_lt_of_le hlt hb.size, fun i x hi => (World.cell?_of_block (w := w) (hb.block gb hlt)).trans (hx i x hi)⟩
theorem RdX.drew {w : World} {sz : Nat} {v : Value} {n : Nat} {xs : List Value} (h : RdX w sz v n xs) : RdX w.drew sz v n xs := h.below ((Below.refl _ _).drew)
theorem setCell_self (w : World) (g i : Nat) (v : Value) (cs : Array Value) (T : TypeId) (h : w.heap[g]? = some (.cells cs T (0, 0))) (hv : cs[i]? = some v) : w.setCell ⟨g, i, none⟩ v = w := by
  obtain ⟨hlt, hg⟩ := Array.getElem?_eq_some_iff.1 h
  have : w.heap.modify g (fun | .cells c elem frozen => .cells (c.setIfInBounds i v) elem frozen | o => o) = w.heap := by
    apply Array.ext
    · simp
    · intro j h1 h2
      rw [Array.getElem_modify]
      split
      · subst_vars
        rw [hg]
        simp only
        congr 1
        apply Array.ext
        · simp
        · intro m k1 k2
          rw [Array.getElem_setIfInBounds]
          split
          · subst_vars
            exact ((Array.getElem?_eq_some_iff.1 hv).2).symm
          · rfl
      · rfl
  unfold World.setCell
  simp only [Option.isSome_none, Bool.false_eq_true, if_false]
  exact congrArg (fun h => { w with heap := h }) this
theorem setCell_block {w : World} {g i : Nat} {cs : Array Value} {T : TypeId} (h : w.heap[g]? = some (.cells cs T (0, 0))) (u : Value) : (w.setCell ⟨g, i, none⟩ u).heap[g]? = some (.cells (cs.setIfInBounds i u) T (0, 0)) := by
  simp [World.setCell, Array.getElem?_modify, h]
theorem setCell_far {w : World} {g i k : Nat} (hk : k ≠ g) (u : Value) : (w.setCell ⟨g, i, none⟩ u).heap[k]? = w.heap[k]? := Below.heap_setCell _ _ _ _ hk
theorem size_setCell (w : World) (a : Addr) (u : Value) : (w.setCell a u).heap.size = w.heap.size := by simp [World.setCell]
theorem lt_of_block {w : World} {g : Nat} {o : Obj} (h : w.heap[g]? = some o) : g < w.heap.size := (Array.getElem?_eq_some_iff.1 h).1
theorem frozen_of_block {w : World} {g off : Nat} {cs : Array Value} {T : TypeId} (h : w.heap[g]? = some (.cells cs T (0, 0))) : w.frozen? ⟨g, off, none⟩ = false := by
  simp [World.frozen?, h]
end Go.Proofs.Ytaogndianciogaa.Mm
