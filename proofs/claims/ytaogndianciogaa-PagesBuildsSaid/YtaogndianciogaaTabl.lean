/- The document's tables in memory; bulkheadref12.reach, has, find, unit. -/
import Derived.Test.YtaogndianciogaaFillP
import Derived.Test.YtaogndianciogaaFew
import Derived.Great.BuildSlice
namespace Go.Proofs.Ytaogndianciogaa.Mm
open Go.RowKit
set_option linter.unusedVariables false
set_option linter.unusedSimpArgs false
def tbCell (D : Nm) (G : List Int) (j : Nat) : Value :=
  if j % 514 = 0 then .int .i64 (D[j / 514]?.getD (0, 0)).1 else if j % 514 = 1 then .int .u64 (D[j / 514]?.getD (0, 0)).2 else .int .u64 (tbl G (j / 514) (j % 514 - 2))
/-- the cells of the tables: names D, entries G -/
def tbV (D : Nm) (G : List Int) : List Value := (List.range (D.length * 514)).map (tbCell D G)
theorem tbV_length (D : Nm) (G : List Int) : (tbV D G).length = D.length * 514 := by simp [tbV]
theorem tbV_get (D : Nm) (G : List Int) {j : Nat} (h : j < D.length * 514) : (tbV D G)[j]? = some (tbCell D G j) := by
  simp [tbV, List.getElem?_range h]
theorem tbV_lv {D : Nm} {G : List Int} {i : Nat} {e : Int × Int} (h : D[i]? = some e) : (tbV D G)[i * 514]? = some (.int .i64 e.1) := by
  have hi := lt_of_get h
  rw [tbV_get D G (by omega)]
  unfold tbCell
  rw [if_pos (by omega), show i * 514 / 514 = i from by omega, h]; rfl
theorem tbV_virt {D : Nm} {G : List Int} {i : Nat} {e : Int × Int} (h : D[i]? = some e) : (tbV D G)[i * 514 + 1]? = some (.int .u64 e.2) := by
  have hi := lt_of_get h
  rw [tbV_get D G (by omega)]
  unfold tbCell
  rw [if_neg (by omega), if_pos (by omega), show (i * 514 + 1) / 514 = i from by omega, h]; rfl
theorem tbV_ent {D : Nm} {G : List Int} {i k : Nat} (hi : i < D.length) (hk : k < 512) : (tbV D G)[i * 514 + 2 + k]? = some (.int .u64 (tbl G i k)) := by
  rw [tbV_get D G (by omega)]
  unfold tbCell
  rw [if_neg (by omega), if_neg (by omega), show (i * 514 + 2 + k) / 514 = i from by omega, show (i * 514 + 2 + k) % 514 - 2 = k from by omega]
theorem tbV_set {D : Nm} {G : List Int} {m : Nat} (hG : G.length = m * 512) (hD : D.length = m) {t k : Nat} (ht : t < m) (hk : k < 512) (w : Int) : (tbV D G).set (t * 514 + 2 + k) (.int .u64 w) = tbV D (setS G (t, k) w) := by
  apply List.ext_getElem?
  intro j
  by_cases hj : j < D.length * 514
  · rw [tbV_get D _ hj, List.getElem?_set]
    by_cases he : t * 514 + 2 + k = j
    · subst he
      rw [if_pos rfl, if_pos (by rw [tbV_length]; exact hj)]
      unfold tbCell
      rw [if_neg (by omega), if_neg (by omega), show (t * 514 + 2 + k) / 514 = t from by omega, show (t * 514 + 2 + k) % 514 - 2 = k from by omega, tbl_setS hG ht hk _ _ _ hk, if_pos rfl]
    · rw [if_neg he, tbV_get D G hj]
      unfold tbCell
      by_cases h0 : j % 514 = 0
      · rw [if_pos h0, if_pos h0]
      · by_cases h1 : j % 514 = 1
        · rw [if_neg h0, if_neg h0, if_pos h1, if_pos h1]
        · rw [if_neg h0, if_neg h0, if_neg h1, if_neg h1, tbl_setS hG ht hk _ _ _ (by omega), if_neg]
          intro e
          simp only [Prod.mk.injEq] at e
          omega
  · rw [List.getElem?_eq_none (by rw [List.length_set, tbV_length]; omega), List.getElem?_eq_none (by rw [tbV_length]; omega)]
/-- a new table's cells -/
def newV (e : Int × Int) : List Value := .int .i64 e.1 :: .int .u64 e.2 :: List.replicate 512 (.int .u64 0)
set_option maxRecDepth 10000 in
theorem newV_length (e : Int × Int) : (newV e).length = 514 := by unfold newV; rw [List.length_cons, List.length_cons, List.length_replicate]
theorem tbV_append {D : Nm} {G : List Int} (hG : G.length = D.length * 512) (e : Int × Int) : tbV D G ++ newV e = tbV (D ++ [e]) (G ++ List.replicate 512 0) := by
  have hlen : (D ++ [e]).length = D.length + 1 := by simp
  apply List.ext_getElem?
  intro j
  by_cases hj : j < D.length * 514
  · have hj3 : j < (D ++ [e]).length * 514 := by rw [hlen]; exact Nat.lt_of_lt_of_le hj (Nat.mul_le_mul_right _ (Nat.le_succ _))
    rw [List.getElem?_append_left (by rw [tbV_length]; exact hj), tbV_get D G hj, tbV_get (D ++ [e]) (G ++ List.replicate 512 0) hj3]
    unfold tbCell
    rw [tbl_zeros, List.getElem?_append_left (show j / 514 < D.length by omega)]
  · rw [List.getElem?_append_right (by rw [tbV_length]; omega), tbV_length]
    by_cases hj2 : j < (D.length + 1) * 514
    · have hj3 : j < (D ++ [e]).length * 514 := by rw [hlen]; exact hj2
      rw [tbV_get (D ++ [e]) (G ++ List.replicate 512 0) hj3]
      unfold tbCell
      have hq : j / 514 = D.length := by omega
      have hlast : (D ++ [e])[j / 514]? = some e := by rw [hq, List.getElem?_append_right (Nat.le_refl _), Nat.sub_self]; rfl
      have hG2 : G.length ≤ j / 514 * 512 := by rw [hq]; exact Nat.le_of_eq hG
      rw [hlast, tbl_zeros, tbl_out hG2]
      unfold newV
      by_cases h0 : j % 514 = 0
      · rw [if_pos h0, show j - D.length * 514 = 0 from by omega]; rfl
      · by_cases h1 : j % 514 = 1
        · rw [if_neg h0, if_pos h1, show j - D.length * 514 = 1 from by omega]; rfl
        · rw [if_neg h0, if_neg h1]
          obtain ⟨r, hr⟩ : ∃ r, j - D.length * 514 = r + 2 := ⟨j - D.length * 514 - 2, by omega⟩
          rw [hr, List.getElem?_cons_succ, List.getElem?_cons_succ, List.getElem?_replicate, if_pos (by omega)]
    · rw [List.getElem?_eq_none (by rw [newV_length]; omega), List.getElem?_eq_none (by rw [tbV_length, hlen]; omega)]
theorem zeros_tbl (n t k : Nat) : tbl (List.replicate n 0) t k = 0 := by
  unfold tbl
  rw [List.getD_eq_getElem?_getD, List.getElem?_replicate]
  split <;> rfl
def reachP (lv : Int) : Int := if lv = 0 then 549755813888 else if lv = 1 then 1073741824 else 2097152
theorem reach_any (lv : Int) (h : lv = 0 ∨ lv = 1 ∨ lv = 2) (w : World) :
    Calls Try.prog 56 #[.int .i64 lv] w (fun e w' => e = .returned (.int .u64 (reachP lv)) ∧ Below w.heap.size w w') := by
  have hb : Hid (∀ o, Below w.heap.size w (w.alloc o)) := fun o => (Below.refl _ _).alloc (Nat.le_refl _) _
  rcases h with rfl | rfl | rfl
  all_goals
    unfold reachP
    go_enter Try.func56, Try.ntmps56
    go_wp2
    go_returns
    exact ⟨rfl, hb.out _⟩
theorem runit_any (x : Lf) (w : World) : Calls Try.prog 44 #[x.val] w (fun e w' => e = .returned (.int .u64 (unitP x)) ∧ Below w.heap.size w w') := by
  have hb : Hid (∀ cs, Below w.heap.size w (w.alloc cs)) := fun cs => (Below.refl _ _).alloc (Nat.le_refl _) _
  obtain ⟨a, b, c, d, e, f⟩ := x
  unfold Lf.val unitP
  dsimp only
  cases d
  all_goals
    go_enter Try.func44, Try.ntmps44
    go_wp2
    go_returns
    exact ⟨rfl, hb.out _⟩
/-- what a row of tables is in memory -/
theorem tab_cell {w : World} {B : Nat} {T : TypeId} {v : Value} {D : Nm} {G : List Int} (h : w.ownsRow B T 514 v D.length (tbV D G)) {i : Nat} {e : Int × Int} (hi : D[i]? = some e) :
    ∃ g cap, v = .slice (some ⟨g, 0, none⟩) D.length cap ∧ D.length ≤ cap ∧ cap ≤ maxLen ∧ B ≤ g ∧ g < w.heap.size ∧ w.cell? ⟨g, i * 514, none⟩ = some (.int .i64 e.1) ∧ w.cell? ⟨g, i * 514 + 1, none⟩ = some (.int .u64 e.2) := by
  have hlt := lt_of_get hi
  obtain ⟨g, cap, cur, rfl, hb, hg, hnc, hcm, hcs, ht⟩ := own_obj h (by omega)
  have hx : ∀ j y, (tbV D G)[j]? = some y → w.cell? ⟨g, j, none⟩ = some y := by
    intro j y hy
    refine (cell_of_row w g j cur T (0, 0) hg).trans ?_
    rw [← ht, List.getElem?_take] at hy
    split at hy
    · simpa using hy
    · cases hy
  exact ⟨g, cap, rfl, hnc, hcm, hb, lt_of_block hg, hx _ _ (tbV_lv hi), hx _ _ (tbV_virt hi)⟩
set_option maxHeartbeats 1000000 in
set_option maxRecDepth 100000 in
theorem has_any (v : Value) (D : Nm) (G : List Int) (B : Nat) (lv vt : Int) (w : World) (hD : D.length ≤ 100000) (hv : w.ownsRow B 109 514 v D.length (tbV D G)) :
    Calls Try.prog 61 #[v, .int .i64 lv, .int .u64 vt] w (fun e w' => e = .returned (.bool (decide ((lv, vt) ∈ D))) ∧ w' = w) := by
  obtain ⟨A, c, rfl⟩ : ∃ A c, v = .slice A D.length c := by
    obtain ⟨_, A, c, e, _⟩ := RdC.of_own hv
    exact ⟨A, c, e⟩
  have hv' := Lib.hid hv
  clear hv
  go_enter Try.func61, Try.ntmps61
  go_wp2
  go_loopg [7] (D.length + 1) (fun g1 v7 wr => ∃ k : Nat, k + 1 = g1 ∧ k ≤ D.length ∧ v7 = .int .i64 ((k : Int) - 1) ∧ wr = w ∧ Hid (∀ i, k ≤ i → D[i]? ≠ some (lv, vt)))
  case atStart => exact ⟨D.length, rfl, Nat.le_refl _, rfl, rfl, fun i hi => by rw [List.getElem?_eq_none hi]; simp⟩
  case round =>
    obtain ⟨k, hk, hkn, rfl, rfl, hs⟩ := hrel
    by_cases hlt : 0 < k
    · obtain ⟨i, rfl⟩ : ∃ i, k = i + 1 := ⟨k - 1, by omega⟩
      have hx : D[i]? = some (D[i]'(by omega)) := List.getElem?_eq_getElem _
      generalize D[i]'(by omega) = x at hx
      obtain ⟨g, cap, hve, _, _, _, _, c0, c1⟩ := tab_cell hv'.out hx
      cases hve
      have hki : ((i + 1 : Nat) : Int) - 1 = i := by omega
      rw [hki]
      have hiI : (i : Int) < (D.length : Int) := by omega
      have hxx := Lib.hid hx
      clear hx hki
      obtain ⟨a, b⟩ := x
      by_cases ha : a = lv
      · by_cases hb : b = vt
        · have hres : Hid ((lv, vt) ∈ D) := by subst ha hb; exact mem_of_get hxx.out
          subst ha hb
          go_wp2
          go_returns
          exact ⟨by rw [decide_eq_true hres.out]; rfl, rfl⟩
        · have hb' : (b == vt) = false := by simpa using hb
          have hs2 : Hid (∀ j, i ≤ j → D[j]? ≠ some (lv, vt)) := by
            intro j hj e
            by_cases h2 : j = i
            · subst h2; rw [hxx.out] at e; exact hb (congrArg Prod.snd (Option.some.inj e))
            · exact hs.out j (by omega) e
          subst ha
          clear hb
          go_wp2
          go_roundg (i + 1)
          case rel => exact ⟨i, rfl, by omega, rfl, rfl, hs2⟩
          case measure => omega
      · have ha' : (a == lv) = false := by simpa using ha
        have hs2 : Hid (∀ j, i ≤ j → D[j]? ≠ some (lv, vt)) := by
          intro j hj e
          by_cases h2 : j = i
          · subst h2; rw [hxx.out] at e; exact ha (congrArg Prod.fst (Option.some.inj e))
          · exact hs.out j (by omega) e
        clear ha
        go_wp2
        go_roundg (i + 1)
        case rel => exact ⟨i, rfl, by omega, rfl, rfl, hs2⟩
        case measure => omega
    · obtain rfl : k = 0 := by omega
      have hres : Hid ((lv, vt) ∉ D) := by
        intro hm
        obtain ⟨i, hi, he⟩ := List.getElem_of_mem hm
        exact hs.out i (Nat.zero_le _) (by rw [List.getElem?_eq_getElem hi, he])
      have h0 : ((0 : Nat) : Int) - 1 = -1 := by omega
      rw [h0]
      go_wp2
      go_returns
      exact ⟨by rw [decide_eq_false hres.out]; rfl, rfl⟩
set_option maxHeartbeats 1000000 in
set_option maxRecDepth 100000 in
theorem find_any (v : Value) (D : Nm) (G : List Int) (B : Nat) (lv vt : Int) (w : World) (hD : D.length ≤ 100000) (hv : w.ownsRow B 109 514 v D.length (tbV D G)) (hmem : (lv, vt) ∈ D) :
    Calls Try.prog 57 #[v, .int .i64 lv, .int .u64 vt] w (fun e w' => e = .returned (.int .i64 (idxN D (lv, vt))) ∧ w' = w) := by
  obtain ⟨A, c, rfl⟩ : ∃ A c, v = .slice A D.length c := by
    obtain ⟨_, A, c, e, _⟩ := RdC.of_own hv
    exact ⟨A, c, e⟩
  have hv' := Lib.hid hv
  have hidx := Lib.hid (And.intro (idx_lt hmem) (idx_get hmem))
  have hfirst : Hid (∀ j, j < idxN D (lv, vt) → D[j]? ≠ some (lv, vt)) := by
    intro j hj e
    have hjl := lt_of_get e
    have := List.not_of_lt_findIdx (p := fun x => decide (x = (lv, vt))) (xs := D) hj
    rw [List.getElem?_eq_getElem hjl] at e
    rw [Option.some.inj e] at this
    simp at this
  clear hv hmem
  generalize idxN D (lv, vt) = m at *
  go_enter Try.func57, Try.ntmps57
  go_wp2
  go_loopg [7] (D.length + 1) (fun g1 v7 wr => ∃ k : Nat, k + g1 = D.length + 1 ∧ k ≤ m ∧ v7 = .int .i64 k ∧ wr = w)
  case atStart => exact ⟨0, by omega, by omega, rfl, rfl⟩
  case round =>
    obtain ⟨k, hk, hkm, rfl, rfl⟩ := hrel
    have hml := hidx.out.1
    have hx : D[k]? = some (D[k]'(by omega)) := List.getElem?_eq_getElem _
    generalize D[k]'(by omega) = x at hx
    obtain ⟨g, cap, hve, _, _, _, _, c0, c1⟩ := tab_cell hv'.out hx
    cases hve
    have hiI : (k : Int) < (D.length : Int) := by omega
    have hxx := Lib.hid hx
    clear hx
    obtain ⟨a, b⟩ := x
    by_cases he : k = m
    · subst he
      have := hidx.out.2
      rw [hxx.out] at this
      cases this
      go_wp2
      go_returns
      exact ⟨rfl, rfl⟩
    · have hne := hfirst.out k (by omega)
      rw [hxx.out] at hne
      have hor : a ≠ lv ∨ (a = lv ∧ b ≠ vt) := by
        by_cases ha : a = lv
        · exact .inr ⟨ha, fun hb => hne (by rw [ha, hb])⟩
        · exact .inl ha
      have hkm2 : k < m := by omega
      clear hne he
      rcases hor with ha | ⟨rfl, hb⟩
      · have ha' : (a == lv) = false := by simpa using ha
        clear ha
        go_wp2
        go_roundg (D.length - k)
        case rel => exact ⟨k + 1, by omega, by omega, by simp, rfl⟩
        case measure => omega
      · have hb' : (b == vt) = false := by simpa using hb
        clear hb
        go_wp2
        go_roundg (D.length - k)
        case rel => exact ⟨k + 1, by omega, by omega, by simp, rfl⟩
        case measure => omega
end Go.Proofs.Ytaogndianciogaa.Mm
