/- A region that draws its order, whose calls may make memory but turn nothing that was there: one walk of the text's order. -/
import Derived.Test.YtaogndianciogaaSameT
namespace Go.Proofs.Ytaogndianciogaa.Mm
open Go.RowKit
set_option linter.unusedVariables false
set_option linter.unusedSimpArgs false
/-- a world in which all that lay in w lies unturned -/
structure BW (w : World) where
  W : World
  h : Below w.heap.size w W
instance (w : World) : Nonempty (BW w) := ⟨⟨w, Below.refl _ _⟩⟩
theorem BW.next {w : World} (s : BW w) {W' : World} (hb : Below s.W.heap.size s.W W') : ∃ s' : BW w, W' = s'.W := ⟨⟨W', s.h.trans (hb.mono s.h.size)⟩, rfl⟩
theorem BW.cell {w : World} (s : BW w) {b o : Nat} {v : Value} (h : w.cell? ⟨b, o, none⟩ = some v) (hb : b < w.heap.size) : s.W.cell? ⟨b, o, none⟩ = some v := (s.h.cell (p := ⟨b, o, none⟩) hb).trans h
section
variable {P : Program}
theorem wp_region_below {id : Nat} {Q : Exit → Act → World → Prop} {a : Act} {w : World} {l : List Oper} (hm : P.follows .mixedOrders = true) (hB : Region.lexB .any l.toArray = true)
    (h : wpQuiet P l.toArray (fun w' => ∃ s : BW w, w' = s.W) (fun a' => ∀ w', (∃ s : BW w, w' = s.W) → Q .normal a' w') l a) : (Code.region id l.toArray true).wp P Q a w :=
  wp_region_quiet (C := fun w' => ∃ s : BW w, w' = s.W) hm hB ⟨⟨_, Below.drew (Below.refl _ _)⟩, rfl⟩ (by simpa using h)
end
theorem Below.then {w w1 w2 : World} (h : Below w.heap.size w w1) (k : Below w1.heap.size w1 w2) : Below w.heap.size w w2 := h.trans (k.mono h.size)
theorem own_sl {w : World} {B : Nat} {T : TypeId} {sz : Nat} {v : Value} {n : Nat} {xs : List Value} (h : w.ownsRow B T sz v n xs) : ∃ A c, v = .slice A n c := by
  obtain ⟨_, A, c, e, _⟩ := RdC.of_own h
  exact ⟨A, c, e⟩
theorem own_sl9 {w : World} {B : Nat} {T : TypeId} {sz : Nat} {v : Value} {n : Nat} {xs : List Value} (h : w.ownsRow B T sz v n xs) : ∃ A c, v = .slice A n c ∧ n ≤ c ∧ c ≤ 9223372036854775807 := by
  obtain ⟨_, A, c, e, h1, h2, _⟩ := RdC.of_own h
  exact ⟨A, c, e, h1, by unfold maxLen at h2; omega⟩
end Go.Proofs.Ytaogndianciogaa.Mm
