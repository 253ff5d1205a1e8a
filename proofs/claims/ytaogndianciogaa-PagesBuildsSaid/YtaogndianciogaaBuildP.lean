/- What pages.build makes, as a plain function; the facts of right rows. -/
import Derived.Test.YtaogndianciogaaPage
namespace Go.Proofs.Ytaogndianciogaa.Mm
open Go.RowKit
set_option linter.unusedVariables false
set_option linter.unusedSimpArgs false
/-- the pages of one row: c to go, i done; false: there are too many tables -/
def rowP (base : Int) (x : Lf) : Nat → Nat → Bp → Bp × Bool
  | 0, _, s => (s, true)
  | c + 1, i, s =>
    if 1024 < (pageP base s (x.virt + i * unitP x).toNat (x.phys + i * unitP x) x).m then (pageP base s (x.virt + i * unitP x).toNat (x.phys + i * unitP x) x, false)
    else rowP base x c (i + 1) (pageP base s (x.virt + i * unitP x).toNat (x.phys + i * unitP x) x)
def rowsP (base : Int) : List Lf → Bp → Bp × Bool
  | [], s => (s, true)
  | x :: r, s => if (rowP base x (x.pages * 4096 / unitP x).toNat 0 s).2 then rowsP base r (rowP base x (x.pages * 4096 / unitP x).toNat 0 s).1 else ((rowP base x (x.pages * 4096 / unitP x).toNat 0 s).1, false)
def startP : Bp := ⟨1, List.replicate 512 0, 0, 0, 0⟩
/-- the tables, or why there are none -/
def buildP (base : Int) (l : List Lf) : Except Int Bp :=
  if rightP 0 l ≠ 0 then .error (rightP 0 l) else if (rowsP base l startP).2 then .ok (rowsP base l startP).1 else .error 4
/-- what is true of a builder between two pages -/
structure BOk (s : Bp) : Prop where
  mid : s.mid < s.m
  low : s.low < s.m
  virt0 : 0 ≤ s.virt
  virt1 : s.virt < 18446744073709551616
theorem openMid_ok {base : Int} {s : Bp} {v : Nat} (h : BOk s) : BOk (openMid base s v) ∧ s.m ≤ (openMid base s v).m ∧ (openMid base s v).m ≤ s.m + 1 := by
  unfold openMid
  split
  · exact ⟨⟨Nat.lt_succ_self _, Nat.succ_pos _, h.virt0, h.virt1⟩, Nat.le_succ _, Nat.le_refl _⟩
  · exact ⟨h, Nat.le_refl _, Nat.le_succ _⟩
theorem openLow_ok {base : Int} {s : Bp} {v : Nat} (h : BOk s) : BOk (openLow base s v) ∧ s.m ≤ (openLow base s v).m ∧ (openLow base s v).m ≤ s.m + 1 := by
  unfold openLow
  split
  · exact ⟨⟨Nat.lt_succ_of_lt h.mid, Nat.lt_succ_self _, h.virt0, h.virt1⟩, Nat.le_succ _, Nat.le_refl _⟩
  · exact ⟨h, Nat.le_refl _, Nat.le_succ _⟩
theorem pageP_ok {base : Int} {s : Bp} {v : Nat} {ph : Int} {x : Lf} (h : BOk s) (hv : v < 549755813888) : BOk (pageP base s v ph x) ∧ (pageP base s v ph x).m ≤ s.m + 2 := by
  obtain ⟨h1, h2, h3⟩ := openMid_ok (base := base) (v := v) h
  obtain ⟨h4, h5, h6⟩ := openLow_ok (base := base) (v := v) h1
  unfold pageP
  split
  · exact ⟨⟨h1.mid, by have := h1.mid; show 0 < (openMid base s v).m; omega, by show (0 : Int) ≤ (v : Int); omega, by show (v : Int) < _; omega⟩, by show (openMid base s v).m ≤ _; omega⟩
  · exact ⟨⟨h4.mid, h4.low, by show (0 : Int) ≤ (v : Int); omega, by show (v : Int) < _; omega⟩, by show (openLow base (openMid base s v) v).m ≤ _; omega⟩
theorem startP_ok : BOk startP := ⟨by decide, by decide, by decide, by decide⟩
/-- what right rows are -/
theorem rightP_rows : ∀ {l : List Lf} {b : Int}, rightP b l = 0 → ∀ x ∈ l, sizeP x ∧ fitsP x.virt x.pages 549755813888 ∧ fitsP x.phys x.pages 4294967296 := by
  intro l
  induction l with
  | nil => intro b _ x hx; cases hx
  | cons y r ih =>
    intro b h x hx
    unfold rightP at h
    split at h
    · cases h
    · rename_i h1
      split at h
      · cases h
      · split at h
        · cases h
        · rename_i h3
          split at h
          · cases h
          · rename_i h4
            split at h
            · cases h
            · rcases List.mem_cons.1 hx with rfl | hx
              · exact ⟨Decidable.not_not.1 h1, Decidable.not_not.1 h3, Decidable.not_not.1 h4⟩
              · exact ih h x hx
end Go.Proofs.Ytaogndianciogaa.Mm
