/- bulkheadref12.Count, Build. -/
import Derived.Test.YtaogndianciogaaTables
import Derived.Deep.MidRow
import Derived.Great.FillDense
namespace Go.Proofs.Ytaogndianciogaa.Mm
open Go.RowKit
set_option linter.unusedVariables false
set_option linter.unusedSimpArgs false
def countR (l : List Lf) : Int × Int := if rightP 0 l ≠ 0 then (0, rightP 0 l) else if 1024 < (tabsP l).length then (0, 4) else (((tabsP l).length : Int), 0)
theorem tabsP_bound (l : List Lf) : (tabsP l).length ≤ 1026 := by
  have key : ∀ (l : List Lf) (D : Nm), D.length ≤ 1026 → (tabR D l).length ≤ 1026 := by
    intro l
    induction l with
    | nil => intro D h; exact h
    | cons x r ih => intro D h; exact ih _ (tabW_bound _ _ _ _ _ h)
  exact key l _ (by decide)
set_option maxHeartbeats 1000000 in
set_option maxRecDepth 100000 in
theorem rcount_any (v : Value) (n : Nat) (l : List Lf) (hok : ∀ x ∈ l, x.ok) (w : World) (hv : RdX w 6 v n (lfV l)) :
    Calls Try.prog 38 #[v] w (fun e w' => e = .returned (.tuple #[.int .i64 (countR l).1, .int .i64 (countR l).2]) ∧ Below w.heap.size w w') := by
  have h1 := Lib.hid (refuses_any v n l hok w hv)
  have hnn : ∀ x ∈ l, 0 ≤ x.virt ∧ 0 ≤ x.phys := fun x hx => ⟨(hok x hx).1, (hok x hx).2.2.1⟩
  by_cases hr : rightP 0 l = 0
  · have hg := okRows_all ((right_ok hnn).1 hr)
    have h2 := Lib.hid (fun w1 (hb : Below w.heap.size w w1) => tables_any v n l hg w1 (hv.below hb))
    have hbd := tabsP_bound l
    have hc : Hid (countR l = if 1024 < (tabsP l).length then (0, 4) else (((tabsP l).length : Int), 0)) := by show _ = _; unfold countR; rw [if_neg (fun h => h hr)]
    rw [hr] at h1
    clear hr hnn hg hv hok
    go_enter Try.func38, Try.ntmps38
    go_wp2_with fail
    refine h1.out.mono ?_
    rintro en w1 ⟨rfl, hb1'⟩
    have hb1 := Lib.hid hb1'
    clear hb1'
    go_wp2_with fail
    refine (h2.out w1 hb1.out).mono ?_
    rintro en w2 ⟨v2, rfl, hown, hb2'⟩
    obtain ⟨A2, c2, rfl⟩ := own_sl hown
    have hb2 : Hid (Below w.heap.size w w2) := hb1.out.trans (hb2'.mono hb1.out.size)
    clear hown hb2' h1 h2
    generalize (tabsP l).length = m at *
    by_cases hm : 1024 < m
    · have hmI : (1024 : Int) < (m : Int) := by omega
      rw [if_pos hm] at hc
      clear hm
      go_wp2
      go_returns
      exact ⟨by rw [hc.out]; rfl, hb2.out⟩
    · have hmI : (m : Int) ≤ 1024 := by omega
      rw [if_neg hm] at hc
      clear hm
      go_wp2
      go_returns
      exact ⟨by rw [hc.out]; rfl, hb2.out⟩
  · have hne : (rightP 0 l != 0) = true := by simpa using hr
    have hc : Hid (countR l = (0, rightP 0 l)) := by show _ = _; unfold countR; rw [if_pos hr]
    clear hr hv
    go_enter Try.func38, Try.ntmps38
    go_wp2_with fail
    refine h1.out.mono ?_
    rintro en w1 ⟨rfl, hb1'⟩
    have hb1 := Lib.hid hb1'
    clear hb1'
    go_wp2
    go_returns
    exact ⟨by rw [hc.out]; rfl, hb1.out⟩
end Go.Proofs.Ytaogndianciogaa.Mm
/- bulkheadref12.Build: what its second and third loops need, in plain words. -/
namespace Go.Proofs.Ytaogndianciogaa.Mm
open Go.RowKit
set_option linter.unusedVariables false
set_option linter.unusedSimpArgs false
theorem or_low' {f n : Int} (h0 : 0 ≤ f) (h1 : f < 18446744073709551616) (h16 : f % 16 = 0) (hn0 : 0 ≤ n) (hn1 : n < 16) : bits .or .u64 f n = f + n := by
  rw [u64_or f n h0 h1 hn0 (by omega)]
  obtain ⟨q, hq⟩ : ∃ q : Nat, f.toNat = 2 ^ 4 * q := ⟨f.toNat / 16, by omega⟩
  rw [hq, ← Nat.two_pow_add_eq_or_of_lt (show n.toNat < 2 ^ 4 by omega) q]
  omega
theorem or_eight {f n : Int} (h0 : 0 ≤ f) (h1 : f < 18446744073709551600) (h16 : f % 16 = 0) (hn0 : 0 ≤ n) (hn1 : n < 8) : bits .or .u64 (f + n) 8 = f + n + 8 := by
  rw [u64_or (f + n) 8 (by omega) (by omega) (by omega) (by omega)]
  obtain ⟨q, hq⟩ : ∃ q : Nat, f.toNat = 2 ^ 4 * q := ⟨f.toNat / 16, by omega⟩
  obtain ⟨k, rfl⟩ : ∃ k : Nat, n = k := ⟨n.toNat, by omega⟩
  have e1 : (f + (k : Int)).toNat = 2 ^ 4 * q + k := by omega
  have hk : k < 2 ^ 4 := by omega
  have e2 : k ||| 8 = k + 8 := by
    have : ∀ k : Nat, k < 8 → k ||| 8 = k + 8 := by decide
    exact this k (by omega)
  rw [e1, Nat.two_pow_add_eq_or_of_lt hk q, Nat.or_assoc]
  show (((2 ^ 4 * q ||| (k ||| 8)) : Nat) : Int) = _
  rw [e2, ← Nat.two_pow_add_eq_or_of_lt (show k + 8 < 2 ^ 4 by omega) q]
  omega
theorem each_at {x : Lf} {j : Nat} (hj : j < cntP x) : (eachR x).drop j = stepP x j :: (eachR x).drop (j + 1) := by
  have hl : j < (eachR x).length := by unfold eachR; rw [List.length_map, List.length_range]; exact hj
  rw [List.drop_eq_getElem_cons hl]
  congr 1
  simp [eachR]
theorem each_all (x : Lf) : (eachR x).drop (cntP x) = [] := by
  apply List.drop_of_length_le
  unfold eachR; rw [List.length_map, List.length_range]; exact Nat.le_refl _
theorem fillL_append (D : Nm) (l r : List Lf) (G : List Int) : fillL D (l ++ r) G = fillL D r (fillL D l G) := by
  unfold fillL; exact List.foldl_append
theorem fillL_cons (D : Nm) (y : Lf) (r : List Lf) (G : List Int) : fillL D (y :: r) G = fillL D r (setS G (slotOf D y) (leafOf y)) := rfl
def flagP (x : Lf) : Int := 1 + (if x.write then 2 else 0) + (if x.exec then 4 else 0)
theorem flagP_cases (x : Lf) : 1 ≤ flagP x ∧ flagP x < 8 := by
  unfold flagP; cases x.write <;> cases x.exec <;> decide
/-- the j-th page of a good row: where it lies, what its entry holds -/
theorem step_facts {x : Lf} (hx : goodP x) {j : Nat} (hj : j < cntP x) :
    0 ≤ (j : Int) * unitP x ∧ x.virt + j * unitP x < 549755813888 ∧ x.phys + j * unitP x < 4294967296 ∧ (x.phys + j * unitP x) % 4096 = 0 ∧
    leafOf (stepP x j) = x.phys + j * unitP x + flagP x + (if x.big then 8 else 0) := by
  obtain ⟨h1, h2⟩ := step_good hx hj
  have a1 := h1.v1
  have a2 := h1.p1
  have a3 := h1.pages
  have a4 := h1.phys
  have e := leafOf_eq h1
  rw [show (stepP x j).virt = x.virt + j * unitP x from rfl] at a1
  rw [show (stepP x j).phys = x.phys + j * unitP x from rfl] at a2 a4 e
  rw [show unitP (stepP x j) = unitP x from rfl] at a4
  refine ⟨?_, by omega, by omega, ?_, ?_⟩
  · rcases unitP_cases x with h | h <;> rw [h.1] <;> omega
  · rcases unitP_cases x with h | h <;> rw [h.1] at a4 ⊢ <;> omega
  · rw [e]
    show _ + (1 + (if x.write then 2 else 0) + (if x.exec then 4 else 0)) + (if x.big then 8 else 0) = _
    unfold flagP; omega
theorem slot_big {D : Nm} {x : Lf} {j : Nat} (h : x.big = true) : slotOf D (stepP x j) = (idxN D (m30 (x.virt + j * unitP x)), ((x.virt + j * unitP x) / 2097152 % 512).toNat) := by
  unfold slotOf
  rw [show (stepP x j).big = x.big from rfl, h]; rfl
theorem slot_small {D : Nm} {x : Lf} {j : Nat} (h : x.big = false) : slotOf D (stepP x j) = (idxN D (m21 (x.virt + j * unitP x)), ((x.virt + j * unitP x) / 4096 % 512).toNat) := by
  unfold slotOf
  rw [show (stepP x j).big = x.big from rfl, h]; rfl
theorem step_mem {l : List Lf} {x : Lf} (hx : x ∈ l) {j : Nat} (hj : j < cntP x) : stepP x j ∈ l.flatMap eachR :=
  List.mem_flatMap.2 ⟨x, hx, List.mem_map.2 ⟨j, List.mem_range.2 hj, rfl⟩⟩
/-- the entries of table i, as a range -/
def chunk (F : List Int) (i : Nat) : List Int := (F.drop (i * 512)).take 512
theorem chunk_len {F : List Int} {i m : Nat} (hF : F.length = m * 512) (hi : i < m) : (chunk F i).length = 512 := by
  unfold chunk; rw [List.length_take, List.length_drop]; omega
theorem chunk_range {w : World} {B g cap : Nat} {T : TypeId} {D : Nm} {F : List Int} (h : w.ownsRow B T 514 (.slice (some ⟨g, 0, none⟩) D.length cap) D.length (tbV D F)) (hF : F.length = D.length * 512) {i : Nat} (hi : i < D.length) :
    w.rangeAt g (i * 514 + 2) ((chunk F i).map (Value.int .u64)) := by
  intro j u hj
  have hjl : j < 512 := by
    have := (List.getElem?_eq_some_iff.1 hj).1
    rw [List.length_map, chunk_len hF hi] at this; exact this
  obtain ⟨g', cap', cur, e, hb, hg, hnc, hcm, hcs, hta⟩ := own_obj h (by omega)
  cases e
  have hx : (tbV D F)[i * 514 + 2 + j]? = some (.int .u64 (tbl F i j)) := tbV_ent hi hjl
  refine (cell_of_row w g _ cur T (0, 0) hg).trans ?_
  rw [← hta, List.getElem?_take] at hx
  have hval : u = .int .u64 (tbl F i j) := by
    rw [List.getElem?_map] at hj
    unfold chunk at hj
    rw [List.getElem?_take, if_pos hjl, List.getElem?_drop] at hj
    unfold tbl
    rw [List.getD_eq_getElem?_getD]
    cases hq : F[i * 512 + j]? with
    | none => rw [hq] at hj; cases hj
    | some q => rw [hq] at hj; simpa using hj.symm
  rw [hval]
  split at hx
  · simpa using hx
  · cases hx
theorem chunk_grow (F : List Int) (i : Nat) : u64V (F.take (i * 512)) ++ (chunk F i).map (Value.int .u64) = u64V (F.take ((i + 1) * 512)) := by
  unfold u64V chunk
  rw [← List.map_append, show (i + 1) * 512 = i * 512 + 512 from by omega, List.take_add]
theorem chunk_all {F : List Int} {m : Nat} (hF : F.length = m * 512) : F.take (m * 512) = F := List.take_of_length_le (by omega)
theorem fill_512 {cs : List Value} (h : cs.length = 512) (f : Nat → Value) : Instr.fill (fun i => some (i * 512, 512)) ((Array.range (1 * 512)).map f) [(0, .agg cs.toArray)] = some cs.toArray := by
  have h9 := Great.fill_whole (s := 512) (by omega) [Value.agg cs.toArray] ((Array.range (1 * 512)).map f) (by
    intro v hv
    have : v = .agg cs.toArray := by simpa using hv
    rw [this]
    show cs.toArray.size = 512
    rw [List.size_toArray, h]) (by simp)
  have h2 : (([Value.agg cs.toArray].zipIdx 0).map fun x => (x.2, x.1)) = [(0, .agg cs.toArray)] := rfl
  rw [h2] at h9
  rw [h9]
  simp [Value.cells]
theorem u64_one {l : List Int} : ∀ u ∈ l.map (Value.int .u64), u.oneCell' = true := by
  intro u hu
  obtain ⟨x, _, rfl⟩ := List.mem_map.1 hu
  rfl
theorem cells_lie (w : World) (cs : List Value) (T : TypeId) : ∀ (j : Nat) u, cs[j]? = some u → (w.alloc (.cells cs.toArray T)).cell? ((⟨w.heap.size, 0, none⟩ : Addr).add j) = some u := by
  intro j u hj
  rw [Addr.add_lit]
  exact (cell_of_row _ _ _ _ _ _ (heap_alloc_new w (.cells cs.toArray T))).trans (by simpa using hj)
end Go.Proofs.Ytaogndianciogaa.Mm
