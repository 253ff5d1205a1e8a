/- Plain law: the document's walk over windows of 2 MiB names what the pages want. -/
import Derived.Test.YtaogndianciogaaRefP
namespace Go.Proofs.Ytaogndianciogaa.Mm
open Go.RowKit
set_option linter.unusedVariables false
set_option linter.unusedSimpArgs false
def tabW (big : Bool) (e : Int) : Nat → Int → Nm → Nm
  | 0, _, D => D
  | c + 1, v, D => if v < e ∧ D.length ≤ 1024 then tabW big e c (v + 2097152) (winP big D v) else D
def rowEnd (x : Lf) : Int := x.virt + x.pages * 4096
/-- how many windows a row touches -/
def rowWins (x : Lf) : Nat := ((rowEnd x - 1) / 2097152 - x.virt / 2097152).toNat + 1
def tabR (D : Nm) (l : List Lf) : Nm := l.foldl (fun D x => tabW x.big (rowEnd x) (rowWins x + 1) (x.virt / 2097152 * 2097152) D) D
def winsU (big : Bool) (v : Int) : Nat → Nm → Nm
  | 0, D => D
  | c + 1, D => winP big (winsU big v c D) (v + c * 2097152)
theorem winP_congr {big : Bool} {D : Nm} {v w : Int} (h1 : v / 2097152 = w / 2097152) : winP big D v = winP big D w := by
  have e1 : m21 v = m21 w := by unfold m21; rw [h1]
  have e2 : m30 v = m30 w := by
    unfold m30
    have : v / 1073741824 = w / 1073741824 := by omega
    rw [this]
  unfold winP
  rw [e1, e2]
theorem addN_self (D : Nm) (e : Int × Int) : e ∈ addN D e := by
  unfold addN
  split
  · assumption
  · simp
theorem addN_sub {D : Nm} {e f : Int × Int} (h : f ∈ D) : f ∈ addN D e := by
  unfold addN
  split
  · exact h
  · exact List.mem_append.2 (.inl h)
theorem winP_twice (big : Bool) (D : Nm) (v : Int) : winP big (winP big D v) v = winP big D v := by
  unfold winP
  cases big with
  | true => exact addN_mem (addN_self _ _)
  | false =>
    show addN (addN (addN (addN D (m30 v)) (m21 v)) (m30 v)) (m21 v) = addN (addN D (m30 v)) (m21 v)
    rw [addN_mem (addN_sub (addN_self D (m30 v))), addN_mem (addN_self _ _)]
theorem foldN_append (D : Nm) (l r : List Lf) : foldN D (l ++ r) = foldN (foldN D l) r := by
  unfold foldN; rw [List.foldl_append]
theorem foldN_one (D : Nm) (y : Lf) : foldN D [y] = winP y.big D y.virt := rfl
/-- the first c + 1 pages of a row -/
theorem fold_steps {x : Lf} (hx : goodP x) (D : Nm) : ∀ c : Nat, foldN D ((List.range (c + 1)).map (stepP x)) = winsU x.big (x.virt / 2097152 * 2097152) (((x.virt + c * unitP x) / 2097152 - x.virt / 2097152).toNat + 1) D := by
  have hv0 := hx.v0
  have hva := hx.virt
  intro c
  induction c with
  | zero =>
    have e1 : ((x.virt + ((0 : Nat) : Int) * unitP x) / 2097152 - x.virt / 2097152).toNat = 0 := by simp
    rw [e1]
    show winP x.big D (stepP x 0).virt = winP x.big D (x.virt / 2097152 * 2097152 + ((0 : Nat) : Int) * 2097152)
    apply winP_congr
    show (x.virt + ((0 : Nat) : Int) * unitP x) / 2097152 = _
    simp
  | succ c ih =>
    rw [List.range_succ, List.map_append, foldN_append, ih]
    show winP x.big _ (x.virt + ((c + 1 : Nat) : Int) * unitP x) = _
    have hmul : ((c + 1 : Nat) : Int) * unitP x = c * unitP x + unitP x := by rw [Int.natCast_add, Int.add_mul]; simp
    rw [hmul]
    have hcu : 0 ≤ (c : Int) * unitP x := Int.mul_nonneg (by omega) (by have := (unitP_pos x).1; omega)
    obtain ⟨u0, u1⟩ := unitP_pos x
    generalize (c : Int) * unitP x = q at *
    have hcase : (x.virt + (q + unitP x)) / 2097152 = (x.virt + q) / 2097152 ∨ (x.virt + (q + unitP x)) / 2097152 = (x.virt + q) / 2097152 + 1 := by omega
    rcases hcase with h | h
    · rw [h]
      obtain ⟨n, hn⟩ : ∃ n, ((x.virt + q) / 2097152 - x.virt / 2097152).toNat = n := ⟨_, rfl⟩
      rw [hn]
      show winP x.big (winP x.big (winsU x.big (x.virt / 2097152 * 2097152) n D) (x.virt / 2097152 * 2097152 + (n : Int) * 2097152)) _ = winP x.big (winsU x.big (x.virt / 2097152 * 2097152) n D) (x.virt / 2097152 * 2097152 + (n : Int) * 2097152)
      rw [winP_congr (v := x.virt + (q + unitP x)) (w := x.virt / 2097152 * 2097152 + (n : Int) * 2097152) (by omega), winP_twice]
    · rw [h]
      obtain ⟨n, hn⟩ : ∃ n, ((x.virt + q) / 2097152 - x.virt / 2097152).toNat = n := ⟨_, rfl⟩
      have hn2 : ((x.virt + q) / 2097152 + 1 - x.virt / 2097152).toNat = n + 1 := by omega
      rw [hn, hn2]
      show winP x.big (winsU x.big (x.virt / 2097152 * 2097152) (n + 1) D) _ = winP x.big (winsU x.big (x.virt / 2097152 * 2097152) (n + 1) D) (x.virt / 2097152 * 2097152 + ((n + 1 : Nat) : Int) * 2097152)
      apply winP_congr
      omega
theorem fold_row {x : Lf} (hx : goodP x) (D : Nm) : foldN D (eachR x) = winsU x.big (x.virt / 2097152 * 2097152) (rowWins x) D := by
  obtain ⟨c1, c2, c3⟩ := cnt_eq hx
  obtain ⟨c, hc⟩ : ∃ c, cntP x = c + 1 := ⟨cntP x - 1, by omega⟩
  have hva := hx.virt
  have hv0 := hx.v0
  unfold eachR
  rw [hc, fold_steps hx]
  congr 2
  unfold rowEnd
  have hmul : ((c + 1 : Nat) : Int) * unitP x = c * unitP x + unitP x := by rw [Int.natCast_add, Int.add_mul]; simp
  rw [hc, hmul] at c1
  have hcu : 0 ≤ (c : Int) * unitP x := Int.mul_nonneg (by omega) (by have := (unitP_pos x).1; omega)
  have hdiv : (c : Int) * unitP x % unitP x = 0 := Int.mul_emod_left _ _
  generalize (c : Int) * unitP x = q at *
  have hx1 := hx.pages
  rcases unitP_cases x with ⟨e, _⟩ | ⟨e, _⟩
  · rw [e] at c1 hva hdiv
    have : (x.virt + x.pages * 4096 - 1) / 2097152 = (x.virt + q) / 2097152 := by omega
    rw [this]
  · rw [e] at c1 hva hdiv
    have : (x.virt + x.pages * 4096 - 1) / 2097152 = (x.virt + q) / 2097152 := by omega
    rw [this]
theorem winsU_shift (big : Bool) (v : Int) : ∀ (c : Nat) (D : Nm), winsU big v (c + 1) D = winsU big (v + 2097152) c (winP big D v) := by
  intro c
  induction c with
  | zero => intro D; show winP big D (v + ((0 : Nat) : Int) * 2097152) = winP big D v; simp
  | succ c ih =>
    intro D
    show winP big (winsU big v (c + 1) D) (v + ((c + 1 : Nat) : Int) * 2097152) = winP big (winsU big (v + 2097152) c (winP big D v)) (v + 2097152 + (c : Int) * 2097152)
    rw [ih]
    congr 1
    omega
theorem winsU_len (big : Bool) (v : Int) : ∀ (c : Nat) (D : Nm), D.length ≤ (winsU big v c D).length := by
  intro c
  induction c with
  | zero => intro D; exact Nat.le_refl _
  | succ c ih => intro D; exact Nat.le_trans (ih D) (winP_len _ _ _)
theorem tabW_full (big : Bool) (e : Int) (c : Nat) (v : Int) {D : Nm} (h : 1024 < D.length) : tabW big e c v D = D := by
  cases c with
  | zero => rfl
  | succ c => unfold tabW; rw [if_neg (by omega)]
theorem tabW_wins (big : Bool) (e : Int) : ∀ (n : Nat) (v : Int) (D : Nm), (∀ i : Nat, i < n → v + i * 2097152 < e) → ¬ v + n * 2097152 < e → ∀ fuel, n < fuel →
    ((winsU big v n D).length ≤ 1024 → tabW big e fuel v D = winsU big v n D) ∧ (1024 < (winsU big v n D).length → 1024 < (tabW big e fuel v D).length) := by
  intro n
  induction n with
  | zero =>
    intro v D _ hv fuel hf
    obtain ⟨f, rfl⟩ : ∃ f, fuel = f + 1 := ⟨fuel - 1, by omega⟩
    have : tabW big e (f + 1) v D = D := by unfold tabW; rw [if_neg (fun h => hv (by simpa using h.1))]
    rw [this]
    exact ⟨fun _ => rfl, fun h => h⟩
  | succ n ih =>
    intro v D h1 h2 fuel hf
    obtain ⟨f, rfl⟩ : ∃ f, fuel = f + 1 := ⟨fuel - 1, by omega⟩
    rw [winsU_shift]
    by_cases hl : D.length ≤ 1024
    · have hv : v < e := by have := h1 0 (by omega); simpa using this
      have : tabW big e (f + 1) v D = tabW big e f (v + 2097152) (winP big D v) := by
        rw [tabW, if_pos ⟨hv, hl⟩]
      rw [this]
      refine ih (v + 2097152) (winP big D v) (fun i hi => ?_) (fun hh => h2 (by rw [Int.natCast_add, Int.add_mul]; simp; omega)) f (by omega)
      have := h1 (i + 1) (by omega)
      rw [Int.natCast_add, Int.add_mul] at this
      simp at this; omega
    · rw [tabW_full big e (f + 1) v (by omega)]
      have h3 := winP_len big D v
      have h4 := winsU_len big (v + 2097152) n (winP big D v)
      exact ⟨fun h => by omega, fun _ => by omega⟩
theorem tab_row {x : Lf} (hx : goodP x) (D : Nm) : ((foldN D (eachR x)).length ≤ 1024 → tabW x.big (rowEnd x) (rowWins x + 1) (x.virt / 2097152 * 2097152) D = foldN D (eachR x)) ∧
    (1024 < (foldN D (eachR x)).length → 1024 < (tabW x.big (rowEnd x) (rowWins x + 1) (x.virt / 2097152 * 2097152) D).length) := by
  rw [fold_row hx]
  have h1 := hx.pages
  have h2 := hx.v0
  refine tabW_wins x.big (rowEnd x) (rowWins x) _ D (fun i hi => ?_) ?_ _ (Nat.lt_succ_self _)
  · unfold rowWins rowEnd at *
    omega
  · unfold rowWins rowEnd
    omega
theorem tabR_full : ∀ (l : List Lf) {D : Nm}, 1024 < D.length → tabR D l = D := by
  intro l
  induction l with
  | nil => intro D _; rfl
  | cons x r ih =>
    intro D h
    show tabR (tabW x.big (rowEnd x) (rowWins x + 1) (x.virt / 2097152 * 2097152) D) r = D
    rw [tabW_full _ _ _ _ h]
    exact ih h
theorem tab_rows : ∀ {l : List Lf} (h : ∀ x ∈ l, goodP x) (D : Nm), ((foldN D (l.flatMap eachR)).length ≤ 1024 → tabR D l = foldN D (l.flatMap eachR)) ∧ (1024 < (foldN D (l.flatMap eachR)).length → 1024 < (tabR D l).length) := by
  intro l
  induction l with
  | nil => intro _ D; exact ⟨fun _ => rfl, fun h => h⟩
  | cons x r ih =>
    intro h D
    obtain ⟨a1, a2⟩ := tab_row (h x (by simp)) D
    have hrest := foldN_len (r.flatMap eachR) (foldN D (eachR x))
    rw [List.flatMap_cons, foldN_append]
    show (_ → tabR (tabW x.big (rowEnd x) (rowWins x + 1) (x.virt / 2097152 * 2097152) D) r = _) ∧ (_ → 1024 < (tabR (tabW x.big (rowEnd x) (rowWins x + 1) (x.virt / 2097152 * 2097152) D) r).length)
    by_cases hl : (foldN D (eachR x)).length ≤ 1024
    · rw [a1 hl]
      exact ih (fun y hy => h y (by simp [hy])) _
    · have h2 := a2 (by omega)
      rw [tabR_full _ h2]
      exact ⟨fun hh => by omega, fun _ => h2⟩
/-- the tables that the document names -/
def tabsP (l : List Lf) : Nm := tabR [(0, 0)] l
theorem tabs_names {l : List Lf} (h : ∀ x ∈ l, goodP x) : ((namesP l).length ≤ 1024 → tabsP l = namesP l) ∧ (1024 < (namesP l).length → 1024 < (tabsP l).length) := tab_rows h _
end Go.Proofs.Ytaogndianciogaa.Mm
