/- A row of one-cell things that may begin behind its block's beginning; one thing appended to it. -/
import Derived.Test.YtaogndianciogaaWidth
import Derived.ArgAppend
import Derived.Deep.AppendLies
namespace Go.Proofs.Ytaogndianciogaa.Mm
open Go.RowKit
set_option linter.unusedVariables false
set_option linter.unusedSimpArgs false
def RowO (w : World) (B : Nat) (T : TypeId) (v : Value) (n : Nat) (xs : List Value) : Prop :=
  xs.length = n ∧ ((v = .slice none 0 0 ∧ n = 0) ∨
    ∃ g off cap cur, v = .slice (some ⟨g, off, none⟩) n cap ∧ B ≤ g ∧ w.heap[g]? = some (.cells cur T (0, 0)) ∧ n ≤ cap ∧ cap ≤ maxLen ∧ off + cap ≤ cur.size ∧ ∀ i x, xs[i]? = some x → cur[off + i]? = some x)
section
variable {w w' : World} {B : Nat} {T : TypeId} {v : Value} {n : Nat} {xs : List Value}
theorem RowO.nil (w : World) (B : Nat) (T : TypeId) : RowO w B T (.slice none 0 0) 0 [] := ⟨rfl, .inl ⟨rfl, rfl⟩⟩
theorem RowO.of_own (h : w.ownsRow B T 1 v n xs) : RowO w B T v n xs := by
  obtain ⟨h1, h2⟩ := h
  refine ⟨by omega, ?_⟩
  rcases h2 with h | ⟨g, cap, cur, rfl, hb, hg, hnc, hcm, hcs, htake⟩
  · exact .inl h
  · refine .inr ⟨g, 0, cap, cur, rfl, hb, hg, hnc, hcm, by omega, fun i x hi => ?_⟩
    rw [← htake, List.getElem?_take] at hi
    split at hi
    · simpa using hi
    · cases hi
theorem RowO.keep (h : RowO w B T v n xs) (hk : ∀ g, v.ownBlock = some g → g < w.heap.size → w'.heap[g]? = w.heap[g]?) : RowO w' B T v n xs := by
  obtain ⟨h1, h2⟩ := h
  refine ⟨h1, ?_⟩
  rcases h2 with h | ⟨g, off, cap, cur, rfl, hb, hg, r⟩
  · exact .inl h
  · exact .inr ⟨g, off, cap, cur, rfl, hb, (hk g rfl (lt_of_block hg)).trans hg, r⟩
theorem RowO.lt (h : RowO w B T v n xs) {g : Nat} (e : v.ownBlock = some g) : B ≤ g ∧ g < w.heap.size := by
  obtain ⟨h1, h2⟩ := h
  rcases h2 with ⟨rfl, _⟩ | ⟨g', off, cap, cur, rfl, hb, hg, r⟩
  · cases e
  · cases e; exact ⟨hb, lt_of_block hg⟩
theorem RowO.type (h : RowO w B T v n xs) {g : Nat} (e : v.ownBlock = some g) : ∃ cur, w.heap[g]? = some (.cells cur T (0, 0)) := by
  obtain ⟨h1, h2⟩ := h
  rcases h2 with ⟨rfl, _⟩ | ⟨g', off, cap, cur, rfl, hb, hg, r⟩
  · cases e
  · cases e; exact ⟨_, hg⟩
theorem RowO.cell (h : RowO w B T v n xs) {i : Nat} {x : Value} (hi : xs[i]? = some x) : ∃ g off cap, v = .slice (some ⟨g, off, none⟩) n cap ∧ i < n ∧ n ≤ cap ∧ cap ≤ maxLen ∧ w.cell? ⟨g, off + i, none⟩ = some x := by
  obtain ⟨h1, h2⟩ := h
  have := (List.getElem?_eq_some_iff.1 hi).1
  rcases h2 with ⟨rfl, rfl⟩ | ⟨g', off, cap, cur, rfl, hb, hg, hnc, hcm, hsz, hx⟩
  · omega
  · exact ⟨g', off, cap, rfl, by omega, hnc, hcm, (cell_of_row w g' (off + i) cur T (0, 0) hg).trans (hx i x hi)⟩
/-- without its first thing -/
theorem RowO.tail {x : Value} {g off cap : Nat} (h : RowO w B T (.slice (some ⟨g, off, none⟩) (n + 1) cap) (n + 1) (x :: xs)) (hc : cap ≠ 1) : RowO w B T (.slice (some ⟨g, off + 1, none⟩) n (cap - 1)) n xs := by
  obtain ⟨h1, h2⟩ := h
  rcases h2 with ⟨e, _⟩ | ⟨g', off', cap', cur, e, hb, hg, hnc, hcm, hsz, hx⟩
  · cases e
  · cases e
    refine ⟨by simpa using h1, .inr ⟨g, off + 1, cap - 1, cur, rfl, hb, hg, by omega, by omega, by omega, fun i y hi => ?_⟩⟩
    have := hx (i + 1) y (by simpa using hi)
    rwa [show off + (i + 1) = off + 1 + i from by omega] at this
end
/-- one thing appended, by the builtin's run -/
theorem run_append_one {P : Program} (w : World) (t ty e : TypeId) (i : TypeInfo) (z : Value) (bytes : Nat) (ht : P.underlying t = some (.slice e)) (hi : P.info? e = some i) (hz : i.zero = some z)
    (hsize : i.size = 1) (hby : i.bytes = bytes) (hzs : z.cells.size = 1) {B : Nat} {v : Value} {n : Nat} {xs : List Value} (h : RowO w B e v n xs)
    (ad : Addr) (c : Nat) (x : Value) (hx : w.cell? ad = some x) (h1 : x.oneCell' = true) (h63 : n + 1 ≤ maxLen) (hb : (n + 1) * bytes ≤ 140737488355328) (hB : B ≤ w.heap.size) :
    ∃ g off cap w', (Builtin.append_ #[t, t] ty #[v, .slice (some ad) 1 c]).run P w = .ok (.slice (some ⟨g, off, none⟩) (n + 1) cap) w' ∧
      RowO w' B e (.slice (some ⟨g, off, none⟩) (n + 1) cap) (n + 1) (xs ++ [x]) ∧ Fr w.heap.size (fun k => v.ownBlock = some k) w w' ∧ (v.ownBlock = some g ∨ w.heap.size ≤ g) := by
  have hnews : ∀ (j : Nat) u, [x][j]? = some u → w.cell? (ad.add j) = some u := by
    intro j u hj
    cases j with
    | zero =>
      have : x = u := by simpa using hj
      subst this
      obtain ⟨b, o, f⟩ := ad
      cases f <;> simpa [Addr.add] using hx
    | succ j => simp at hj
  have hone : ∀ u ∈ [x], u.oneCell' = true := by intro u hu; simp at hu; subst hu; exact h1
  obtain ⟨hl, h2⟩ := h
  have fin : ∀ v' w', w'.ownsRow w.heap.size e 1 v' (n + 1) (xs ++ [x]) → w.grownBy w' none → ∃ g cap, v' = .slice (some ⟨g, 0, none⟩) (n + 1) cap ∧ RowO w' B e v' (n + 1) (xs ++ [x]) ∧ Fr w.heap.size (fun k => v.ownBlock = some k) w w' ∧ w.heap.size ≤ g := by
    intro v' w' hown hgr
    obtain ⟨g, cap, rfl, hbg, _⟩ := hown.form (by omega)
    obtain ⟨r1, r2⟩ := RowO.of_own hown
    refine ⟨g, cap, rfl, ⟨r1, ?_⟩, (Fr.refl _ _ _).grown hgr (Nat.le_refl _) (fun k e => by cases e), hbg⟩
    rcases r2 with r | ⟨g', off, cap', cur, q1, q2, q3⟩
    · exact .inl r
    · exact .inr ⟨g', off, cap', cur, q1, Nat.le_trans hB q2, q3⟩
  rcases h2 with ⟨rfl, rfl⟩ | ⟨g, off, cap, cur, rfl, hbg, hg, hnc, hcm, hsz, hx2⟩
  · obtain rfl : xs = [] := List.eq_nil_of_length_eq_zero hl
    obtain ⟨v', w', hrun, r1, r2, _⟩ := run_append_own (P := P) w w.heap.size t ty e i z 1 bytes ht hi hz hsize hby hzs (by omega) (.slice none 0 0) 0 [] (World.ownsRow_nil w _ e 1) ad 1 c [x] rfl hnews hone h63 hb (Nat.le_refl _)
    obtain ⟨g, cap, rfl, q1, q2, q3⟩ := fin v' w' r1 r2
    exact ⟨g, 0, cap, w', hrun, q1, q2, .inr q3⟩
  · by_cases hr : n + 1 ≤ cap
    · have hrun := run_append_room_cells (P := P) w t ty e i ht hi g off n cap ad 1 c [x] (by simp [hsize]) hnews hone hr
        (fun j hj => by
          have : j = 0 := by simpa using hj
          subst this
          rw [hsize, cell_of_row w g _ cur e (0, 0) hg]
          rw [Array.getElem?_eq_getElem (by omega)]; rfl)
        (fun j hj => frozen_of_block hg)
      refine ⟨g, off, cap, _, hrun, ⟨by simp [hl], .inr ⟨g, off, cap, cur.setIfInBounds (off + n) x, rfl, hbg, ?_, hr, hcm, by simpa using hsz, ?_⟩⟩, ?_, .inl rfl⟩
      · rw [hsize]
        simp only [World.setCells, Nat.mul_one]
        exact setCell_block hg x
      · intro j y hj
        by_cases hjn : j = n
        · subst hjn
          rw [List.getElem?_append_right (by omega)] at hj
          simp [hl] at hj
          subst hj
          rw [Array.getElem?_setIfInBounds, if_pos rfl, if_pos (by omega)]
        · have hlt : j < n := by
            have := (List.getElem?_eq_some_iff.1 hj).1
            simp at this; omega
          rw [List.getElem?_append_left (by omega)] at hj
          rw [Array.getElem?_setIfInBounds_ne (by omega)]
          exact hx2 j y hj
      · simp only [World.setCells]
        exact Fr.setCell (S := fun k => Value.ownBlock (.slice (some ⟨g, off, none⟩) n cap) = some k) (Fr.refl _ _ w) (p := ⟨g, off + n * i.size, none⟩) (.inr rfl) x
    · obtain ⟨v', w', hrun, r1, r2⟩ := run_append_arg_grows (P := P) w t ty e i z 1 bytes ht hi hz hsize hby hzs (by omega) ⟨g, off, none⟩ n cap xs (by omega)
        (fun j u hj => by rw [Addr.add_lit]; exact (cell_of_row w g (off + j) cur e (0, 0) hg).trans (hx2 j u hj)) ad 1 c [x] rfl hnews (by omega) h63 hb
      obtain ⟨g', cap', rfl, q1, q2, q3⟩ := fin v' w' r1 r2
      exact ⟨g', 0, cap', w', hrun, q1, q2, .inr q3⟩
/-- at the operation -/
theorem wp_append_one {P : Program} {w : World} {o : Oper} {a : Act} {K : Act → World → Prop} {Q : Exit → Act → World → Prop} (s y : Operand) (t : TypeId)
    (ho : o.op = .call { callee := .builtin .append, args := #[s, y], argTypes := #[t, t] }) (e : TypeId) (i : TypeInfo) (z : Value) (bytes : Nat) (ht : P.underlying t = some (.slice e)) (hi : P.info? e = some i) (hz : i.zero = some z)
    (hsize : i.size = 1) (hby : i.bytes = bytes) (hzs : z.cells.size = 1) (B : Nat) (v : Value) (n : Nat) (xs : List Value) (hs : a.eval s = v) (h : RowO w B e v n xs)
    (ad : Addr) (c : Nat) (x : Value) (hy : a.eval y = .slice (some ad) 1 c) (hx : w.cell? ad = some x) (h1 : x.oneCell' = true) (h63 : n + 1 ≤ maxLen) (hb : (n + 1) * bytes ≤ 140737488355328) (hB : B ≤ w.heap.size)
    (hK : ∀ g off cap w', RowO w' B e (.slice (some ⟨g, off, none⟩) (n + 1) cap) (n + 1) (xs ++ [x]) → Fr w.heap.size (fun k => v.ownBlock = some k) w w' → (v.ownBlock = some g ∨ w.heap.size ≤ g) → K (a.put o.dst (.slice (some ⟨g, off, none⟩) (n + 1) cap)) w') : o.wp P a w K Q := by
  obtain ⟨g, off, cap, w', hr, h2, h3, h4⟩ := run_append_one (P := P) w t o.type e i z bytes ht hi hz hsize hby hzs h ad c x hx h1 h63 hb hB
  unfold Oper.wp execOp
  simp only [ho, resolve, invoke, builtin, Sem.run_bind, Sem.run_pure, Result.andThen_ok, List.map_toArray, List.map_cons, List.map_nil, hs, hy, hr]
  exact hK g off cap w' h2 h3 h4
theorem wpList_append_one {P : Program} {w : World} {ops : Array Oper} {rest : List Oper} {o : Oper} {a : Act} {Q : Exit → Act → World → Prop} (hgd : o.guard = none) (s y : Operand) (t : TypeId)
    (ho : o.op = .call { callee := .builtin .append, args := #[s, y], argTypes := #[t, t] }) (e : TypeId) (i : TypeInfo) (z : Value) (bytes : Nat) (ht : P.underlying t = some (.slice e)) (hi : P.info? e = some i) (hz : i.zero = some z)
    (hsize : i.size = 1) (hby : i.bytes = bytes) (hzs : z.cells.size = 1) (B : Nat) (v : Value) (n : Nat) (xs : List Value) (hs : a.eval s = v) (h : RowO w B e v n xs)
    (ad : Addr) (c : Nat) (x : Value) (hy : a.eval y = .slice (some ad) 1 c) (hx : w.cell? ad = some x) (h1 : x.oneCell' = true) (h63 : n + 1 ≤ maxLen) (hb : (n + 1) * bytes ≤ 140737488355328) (hB : B ≤ w.heap.size)
    (hK : ∀ g off cap w', RowO w' B e (.slice (some ⟨g, off, none⟩) (n + 1) cap) (n + 1) (xs ++ [x]) → Fr w.heap.size (fun k => v.ownBlock = some k) w w' → (v.ownBlock = some g ∨ w.heap.size ≤ g) → wpList P ops Q rest (a.put o.dst (.slice (some ⟨g, off, none⟩) (n + 1) cap)) w') :
    wpList P ops Q (o :: rest) a w :=
  wpList_plain hgd fun _ hK' => wp_append_one s y t ho e i z bytes ht hi hz hsize hby hzs B v n xs hs h ad c x hy hx h1 h63 hb hB fun g off cap w' h2 h3 h4 => hK' _ _ (hK g off cap w' h2 h3 h4)
theorem step_append_one {P : Program} {w : World} {ops : Array Oper} {o : Oper} {a : Act} {K : Act → World → Prop} {Q : Exit → Act → World → Prop} {E : Prop} (hgd : o.guard = none) (s y : Operand) (t : TypeId)
    (ho : o.op = .call { callee := .builtin .append, args := #[s, y], argTypes := #[t, t] }) (e : TypeId) (i : TypeInfo) (z : Value) (bytes : Nat) (ht : P.underlying t = some (.slice e)) (hi : P.info? e = some i) (hz : i.zero = some z)
    (hsize : i.size = 1) (hby : i.bytes = bytes) (hzs : z.cells.size = 1) (B : Nat) (v : Value) (n : Nat) (xs : List Value) (hs : a.eval s = v) (h : RowO w B e v n xs)
    (ad : Addr) (c : Nat) (x : Value) (hy : a.eval y = .slice (some ad) 1 c) (hx : w.cell? ad = some x) (h1 : x.oneCell' = true) (h63 : n + 1 ≤ maxLen) (hb : (n + 1) * bytes ≤ 140737488355328) (hB : B ≤ w.heap.size)
    (hK : ∀ g off cap w', RowO w' B e (.slice (some ⟨g, off, none⟩) (n + 1) cap) (n + 1) (xs ++ [x]) → Fr w.heap.size (fun k => v.ownBlock = some k) w w' → (v.ownBlock = some g ∨ w.heap.size ≤ g) → K (a.put o.dst (.slice (some ⟨g, off, none⟩) (n + 1) cap)) w') :
    if Region.wanted o (yielded ops a.tmps) = true then Oper.wp P o a w K Q else E := by
  have hw : Region.wanted o (yielded ops a.tmps) = true := by simp [Region.wanted, hgd]
  rw [if_pos hw]
  exact wp_append_one s y t ho e i z bytes ht hi hz hsize hby hzs B v n xs hs h ad c x hy hx h1 h63 hb hB hK
end Go.Proofs.Ytaogndianciogaa.Mm
