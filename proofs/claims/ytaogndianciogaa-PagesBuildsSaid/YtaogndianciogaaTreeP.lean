/- Plain law: the tables that the builder makes are a tree in pre-order. -/
import Derived.Test.YtaogndianciogaaAlikeP
namespace Go.Proofs.Ytaogndianciogaa.Mm
open Go.RowKit
set_option linter.unusedVariables false
set_option linter.unusedSimpArgs false
theorem flags_eq {f : Int} (h0 : 0 ≤ f) (h16 : f % 16 = 0) (a b c : Bool) : flags f a b c = f + 1 + (if a then 2 else 0) + (if b then 4 else 0) + (if c then 8 else 0) := by
  obtain ⟨q, hq⟩ : ∃ q : Nat, f.toNat = 2 ^ 4 * q := ⟨f.toNat / 16, by omega⟩
  have hf : f = ((2 ^ 4 * q : Nat) : Int) := by rw [← hq]; omega
  unfold flags
  rw [hq, hf]
  have key : ∀ x : Nat, x < 2 ^ 4 → 2 ^ 4 * q ||| x = 2 ^ 4 * q + x := fun x hx => (Nat.two_pow_add_eq_or_of_lt hx q).symm
  cases a <;> cases b <;> cases c <;> simp only [Bool.false_eq_true, if_false, if_true, Nat.or_zero, Nat.or_assoc, Int.add_zero]
  · rw [key 1 (by decide)]; omega
  · rw [show (1 ||| 8 : Nat) = 9 from rfl, key 9 (by decide)]; omega
  · rw [show (1 ||| 4 : Nat) = 5 from rfl, key 5 (by decide)]; omega
  · rw [show (1 ||| (4 ||| 8) : Nat) = 13 from rfl, key 13 (by decide)]; omega
  · rw [show (1 ||| 2 : Nat) = 3 from rfl, key 3 (by decide)]; omega
  · rw [show (1 ||| (2 ||| 8) : Nat) = 11 from rfl, key 11 (by decide)]; omega
  · rw [show (1 ||| (2 ||| 4) : Nat) = 7 from rfl, key 7 (by decide)]; omega
  · rw [show (1 ||| (2 ||| (4 ||| 8)) : Nat) = 15 from rfl, key 15 (by decide)]; omega
theorem kid_entry {f : Int} (h0 : 0 ≤ f) (h1 : f < 4294967296) (h2 : f % 4096 = 0) {lv : Int} (hl : lv = 0 ∨ lv = 1) : entryB (f + 1) lv = (⟨f, true, false, false, false⟩, 0) := by
  unfold entryB
  rw [if_neg (by omega), if_neg (by omega), if_neg (by omega), if_pos (by omega), if_neg (by omega)]
  have : (f + 1) / 4096 % 1048576 * 4096 = f := by omega
  rw [this]
theorem kidW_eq {base : Int} (hb : base % 4096 = 0) (m : Nat) : kidW base m = (base + m * 4096) % 4294967296 + 1 := by
  have h0 : 0 ≤ (base + (m : Int) * 4096) % 4294967296 := by omega
  have h1 : (base + (m : Int) * 4096) % 4294967296 < 4294967296 := by omega
  have h2 : (base + (m : Int) * 4096) % 4294967296 % 4096 = 0 := by omega
  unfold kidW makeA
  rw [if_neg (by omega)]
  dsimp only
  rw [flags_eq h0 (by omega)]
  simp only [Bool.false_eq_true, if_false, Int.add_zero]
  rw [kid_entry h0 h1 h2 (.inl rfl), if_neg (by simp)]
theorem big_entry {f : Int} (h0 : 0 ≤ f) (h1 : f < 4294967296) (h2 : f % 2097152 = 0) (a b : Bool) : entryB (f + 1 + (if a then 2 else 0) + (if b then 4 else 0) + 8) 1 = (⟨f, false, true, a, b⟩, 0) := by
  obtain ⟨A, hA, hA2⟩ : ∃ A : Int, (if a then 2 else 0 : Int) = A ∧ ((A = 0 ∧ a = false) ∨ (A = 2 ∧ a = true)) := by cases a <;> exact ⟨_, rfl, by simp⟩
  obtain ⟨B, hB, hB2⟩ : ∃ B : Int, (if b then 4 else 0 : Int) = B ∧ ((B = 0 ∧ b = false) ∨ (B = 4 ∧ b = true)) := by cases b <;> exact ⟨_, rfl, by simp⟩
  rw [hA, hB]
  unfold entryB
  have e1 : (f + 1 + A + B + 8) / 4096 % 1048576 * 4096 = f := by omega
  have e2 : (f + 1 + A + B + 8) / 8 % 2 = 1 := by omega
  have e3 : ((f + 1 + A + B + 8) / 2 % 2 == 1) = a := by
    rcases hA2 with ⟨h, rfl⟩ | ⟨h, rfl⟩
    · simp; omega
    · simp; omega
  have e4 : ((f + 1 + A + B + 8) / 4 % 2 == 1) = b := by
    rcases hB2 with ⟨h, rfl⟩ | ⟨h, rfl⟩
    · simp; omega
    · simp; omega
  rw [if_neg (by omega), if_neg (by omega), e1, if_neg (by omega), if_neg (by omega), if_neg (by omega), e2, e3, e4]
  rfl
theorem leafW_big {ph : Int} {x : Lf} (hx : x.big = true) (h0 : 0 ≤ ph) (h1 : ph < 4294967296) (h2 : ph % 2097152 = 0) : (entryB (leafW ph x 1) 1).2 = 0 ∧ (entryB (leafW ph x 1) 1).1.big = true ∧ leafW ph x 1 ≠ 0 := by
  have e : leafW ph x 1 = ph + 1 + (if x.write then 2 else 0) + (if x.exec then 4 else 0) + 8 := by
    unfold leafW makeA
    rw [if_neg (by omega)]
    dsimp only
    rw [hx, flags_eq h0 (by omega)]
    simp only [if_true]
    rw [big_entry h0 h1 h2, if_neg (by simp)]
  rw [e, big_entry h0 h1 h2]
  exact ⟨rfl, rfl, by split <;> split <;> omega⟩
/-- entry k of table t -/
def tbl (F : List Int) (t k : Nat) : Int := F.getD (t * 512 + k) 0
def bigW (w : Int) : Prop := (entryB w 1).2 = 0 ∧ (entryB w 1).1.big = true
instance (w : Int) : Decidable (bigW w) := by unfold bigW; infer_instance
/-- entries of a middle table, one by one: c to go, k done, n: the table that must be named next -/
def scanM (base : Int) (T : Nat → Nat → Int) (t : Nat) : Nat → Nat → Nat → Option Nat
  | 0, _, n => some n
  | c + 1, k, n => if T t k = 0 ∨ bigW (T t k) then scanM base T t c (k + 1) n else if T t k = kidW base n then scanM base T t c (k + 1) (n + 1) else none
def scanR (base : Int) (T : Nat → Nat → Int) : Nat → Nat → Nat → Option Nat
  | 0, _, n => some n
  | c + 1, j, n => if T 0 j = 0 then scanR base T c (j + 1) n else if T 0 j = kidW base n then (scanM base T n 512 0 (n + 1)).bind fun r => scanR base T c (j + 1) r else none
section
variable {base : Int} {T T' : Nat → Nat → Int}
theorem scanM_succ (t c k n : Nat) : scanM base T t (c + 1) k n = if T t k = 0 ∨ bigW (T t k) then scanM base T t c (k + 1) n else if T t k = kidW base n then scanM base T t c (k + 1) (n + 1) else none := rfl
theorem scanR_succ (c j n : Nat) : scanR base T (c + 1) j n = if T 0 j = 0 then scanR base T c (j + 1) n else if T 0 j = kidW base n then (scanM base T n 512 0 (n + 1)).bind fun r => scanR base T c (j + 1) r else none := rfl
theorem scanM_add (t : Nat) : ∀ (c d k n : Nat), scanM base T t (c + d) k n = (scanM base T t c k n).bind (fun r => scanM base T t d (k + c) r) := by
  intro c
  induction c with
  | zero => intro d k n; simp [scanM]
  | succ c ih =>
    intro d k n
    rw [show c + 1 + d = (c + d) + 1 from by omega]
    rw [scanM_succ, scanM_succ]
    split
    · rw [ih, show k + 1 + c = k + (c + 1) from by omega]
    · split
      · rw [ih, show k + 1 + c = k + (c + 1) from by omega]
      · rfl
theorem scanR_add : ∀ (c d j n : Nat), scanR base T (c + d) j n = (scanR base T c j n).bind (fun r => scanR base T d (j + c) r) := by
  intro c
  induction c with
  | zero => intro d j n; simp [scanR]
  | succ c ih =>
    intro d j n
    rw [show c + 1 + d = (c + d) + 1 from by omega]
    rw [scanR_succ, scanR_succ]
    split
    · rw [ih, show j + 1 + c = j + (c + 1) from by omega]
    · split
      · cases scanM base T n 512 0 (n + 1) with
        | none => rfl
        | some r =>
          show scanR base T (c + d) (j + 1) r = (scanR base T c (j + 1) r).bind _
          rw [ih, show j + 1 + c = j + (c + 1) from by omega]
      · rfl
theorem scanM_zeros (t : Nat) : ∀ (c k n : Nat), (∀ i, k ≤ i → i < k + c → T t i = 0) → scanM base T t c k n = some n := by
  intro c
  induction c with
  | zero => intros; rfl
  | succ c ih =>
    intro k n h
    unfold scanM
    rw [if_pos (.inl (h k (by omega) (by omega)))]
    exact ih _ _ (fun i h1 h2 => h i (by omega) (by omega))
theorem scanR_zeros : ∀ (c j n : Nat), (∀ i, j ≤ i → i < j + c → T 0 i = 0) → scanR base T c j n = some n := by
  intro c
  induction c with
  | zero => intros; rfl
  | succ c ih =>
    intro j n h
    unfold scanR
    rw [if_pos (h j (by omega) (by omega))]
    exact ih _ _ (fun i h1 h2 => h i (by omega) (by omega))
theorem scanM_congr (t : Nat) : ∀ (c k n : Nat), (∀ i, k ≤ i → i < k + c → T t i = T' t i) → scanM base T t c k n = scanM base T' t c k n := by
  intro c
  induction c with
  | zero => intros; rfl
  | succ c ih =>
    intro k n h
    unfold scanM
    rw [h k (by omega) (by omega), ih _ n (fun i h1 h2 => h i (by omega) (by omega)), ih _ (n + 1) (fun i h1 h2 => h i (by omega) (by omega))]
theorem scanM_le (t : Nat) : ∀ (c k n r : Nat), scanM base T t c k n = some r → n ≤ r := by
  intro c
  induction c with
  | zero => intro k n r h; cases h; exact Nat.le_refl _
  | succ c ih =>
    intro k n r h
    unfold scanM at h
    split at h
    · exact ih _ _ _ h
    · split at h
      · have := ih _ _ _ h; omega
      · cases h
theorem scanR_le : ∀ (c j n r : Nat), scanR base T c j n = some r → n ≤ r := by
  intro c
  induction c with
  | zero => intro j n r h; cases h; exact Nat.le_refl _
  | succ c ih =>
    intro j n r h
    unfold scanR at h
    split at h
    · exact ih _ _ _ h
    · split at h
      · cases hm : scanM base T n 512 0 (n + 1) with
        | none => rw [hm] at h; cases h
        | some q =>
          rw [hm] at h
          have h1 := scanM_le _ _ _ _ _ hm
          have h2 := ih _ _ _ h
          omega
      · cases h
theorem scanR_congr : ∀ (c j n r : Nat), scanR base T c j n = some r → (∀ i, j ≤ i → i < j + c → T 0 i = T' 0 i) → (∀ t, n ≤ t → t < r → ∀ i, i < 512 → T t i = T' t i) → scanR base T' c j n = some r := by
  intro c
  induction c with
  | zero => intro j n r h _ _; exact h
  | succ c ih =>
    intro j n r h h0 ht
    unfold scanR at h ⊢
    rw [← h0 j (by omega) (by omega)]
    split at h
    · rename_i hz
      rw [if_pos hz]
      exact ih _ _ _ h (fun i h1 h2 => h0 i (by omega) (by omega)) ht
    · rename_i hz
      rw [if_neg hz]
      split at h
      · rename_i hk
        rw [if_pos hk]
        cases hm : scanM base T n 512 0 (n + 1) with
        | none => rw [hm] at h; cases h
        | some q =>
          rw [hm] at h
          have h1 := scanM_le _ _ _ _ _ hm
          have h2 := scanR_le _ _ _ _ h
          rw [← scanM_congr n 512 0 (n + 1) (fun i _ hi => ht n (Nat.le_refl _) (by omega) i (by omega)), hm]
          exact ih _ _ _ h (fun i h1 h2 => h0 i (by omega) (by omega)) (fun t k1 k2 => ht t (by omega) k2)
      · cases h
end
theorem tbl_zeros (F : List Int) (n : Nat) : tbl (F ++ List.replicate n 0) = tbl F := by
  funext t k
  unfold tbl
  simp only [List.getD_eq_getElem?_getD, List.getElem?_append, List.getElem?_replicate]
  split
  · rfl
  · rename_i h
    rw [List.getElem?_eq_none (show F.length ≤ t * 512 + k by omega)]
    split <;> rfl
theorem tbl_set {F : List Int} {t i : Nat} (hi : i < 512) (h : t * 512 + i < F.length) (w : Int) (t' k : Nat) (hk : k < 512) : tbl (F.set (t * 512 + i) w) t' k = if t' = t ∧ k = i then w else tbl F t' k := by
  unfold tbl
  simp only [List.getD_eq_getElem?_getD, List.getElem?_set]
  by_cases e : t' = t ∧ k = i
  · obtain ⟨rfl, rfl⟩ := e
    rw [if_pos rfl, if_pos h, if_pos ⟨rfl, rfl⟩]; rfl
  · rw [if_neg (by omega), if_neg e]
theorem tbl_out {F : List Int} {t k : Nat} (h : F.length ≤ t * 512) : tbl F t k = 0 := by
  have h2 : F.length ≤ t * 512 + k := Nat.le_trans h (Nat.le_add_right _ _)
  unfold tbl
  rw [List.getD_eq_getElem?_getD, List.getElem?_eq_none h2, Option.getD_none]
/-- the open path is the last in pre-order -/
structure Path (base : Int) (s : Bp) (j : Nat) : Prop where
  len : s.F.length = s.m * 512
  jlt : j < 512
  mid0 : 0 < s.mid
  mid1 : s.mid < s.m
  low1 : s.low < s.m
  low0 : s.low = 0 ∨ s.mid < s.low
  ahead : scanR base (tbl s.F) j 0 1 = some s.mid
  here : tbl s.F 0 j = kidW base s.mid
  behind : ∀ i, j < i → i < 512 → tbl s.F 0 i = 0
/-- the middle table's first k entries name what is there; the rest are empty -/
structure Done (base : Int) (s : Bp) (k : Nat) : Prop where
  klt : k ≤ 512
  upto : scanM base (tbl s.F) s.mid k 0 (s.mid + 1) = some s.m
  rest : ∀ i, k ≤ i → i < 512 → tbl s.F s.mid i = 0
/-- a builder behind pages that end at b -/
structure Inv (base : Int) (s : Bp) (b : Int) : Prop where
  len : s.F.length = s.m * 512
  v0 : 0 ≤ s.virt
  v1 : s.virt < 549755813888
  emp : s.mid = 0 → s.m = 1 ∧ s.low = 0 ∧ ∀ k, k < 512 → tbl s.F 0 k = 0
  opn : s.mid ≠ 0 → Path base s (s.virt / 1073741824).toNat ∧ Done base s ((s.virt / 2097152 % 512).toNat + 1) ∧ s.virt < b ∧ (s.low = 0 → s.virt % 2097152 = 0 ∧ s.virt + 2097152 ≤ b)
theorem Done.more {base : Int} {s : Bp} {k k' : Nat} (h : Done base s k) (hk : k ≤ k') (hk' : k' ≤ 512) : Done base s k' := by
  refine ⟨hk', ?_, fun i h1 h2 => h.rest i (by omega) h2⟩
  obtain ⟨d, rfl⟩ : ∃ d, k' = k + d := ⟨k' - k, by omega⟩
  rw [scanM_add, h.upto]
  show scanM _ _ _ _ _ _ = _
  rw [scanM_zeros _ _ _ _ (fun i h1 h2 => h.rest i (by omega) (by omega))]
theorem Path.whole {base : Int} {s : Bp} {j k : Nat} (h : Path base s j) (hd : Done base s k) (hne : kidW base s.mid ≠ 0) {j' : Nat} (hj : j < j') (hj' : j' ≤ 512) : scanR base (tbl s.F) j' 0 1 = some s.m := by
  obtain ⟨d, rfl⟩ : ∃ d, j' = j + (1 + d) := ⟨j' - j - 1, by omega⟩
  rw [scanR_add, h.ahead]
  show scanR _ _ _ _ _ = _
  rw [show 1 + d = d + 1 from by omega, Nat.zero_add]
  unfold scanR
  rw [h.here, if_neg hne, if_pos rfl, (hd.more (k' := 512) hd.klt (Nat.le_refl _)).upto]
  show scanR _ _ _ _ _ = _
  exact scanR_zeros _ _ _ (fun i h1 h2 => h.behind i (by omega) (by omega))
/-- the next page's middle table is open -/
structure Mid (base : Int) (s : Bp) (v : Nat) : Prop where
  path : Path base s (v / 1073741824)
  virt0 : 0 ≤ s.virt
  way : (Done base s (v / 2097152 % 512) ∧ (s.low = 0 ∨ (v : Int) / 2097152 ≠ s.virt / 2097152)) ∨
    (s.low ≠ 0 ∧ (v : Int) / 2097152 = s.virt / 2097152 ∧ s.virt < v ∧ Done base s (v / 2097152 % 512 + 1))
theorem kid_ne {base : Int} (hb : base % 4096 = 0) (m : Nat) : kidW base m ≠ 0 := by
  rw [kidW_eq hb]; omega
theorem openMid_inv {base : Int} (hb : base % 4096 = 0) {s : Bp} {b : Int} (h : Inv base s b) {v : Nat} (hv : (v : Int) < 549755813888) (hbv : b ≤ v) : Mid base (openMid base s v) v := by
  have hj : v / 1073741824 < 512 := by omega
  unfold openMid
  by_cases hc : s.mid = 0 ∨ (v : Int) / 1073741824 ≠ s.virt / 1073741824
  · rw [if_pos hc]
    have hlen := h.len
    have hm1 : 1 ≤ s.m := by
      by_cases hz : s.mid = 0
      · have := (h.emp hz).1; omega
      · have := (h.opn hz).1.mid1; omega
    have hT : ∀ t k, k < 512 → tbl (childF base s.F s.m 0 (v / 1073741824)) t k = if t = 0 ∧ k = v / 1073741824 then kidW base s.m else tbl s.F t k := by
      intro t k hk
      unfold childF
      rw [tbl_set hj (by rw [List.length_append, List.length_replicate]; omega) _ _ _ hk, tbl_zeros]
    have hnew : ∀ k, k < 512 → tbl (childF base s.F s.m 0 (v / 1073741824)) s.m k = 0 := by
      intro k hk
      rw [hT _ _ hk, if_neg (by omega), tbl_out (by omega)]
    refine ⟨⟨?_, hj, ?_, Nat.lt_succ_self _, Nat.succ_pos _, .inl rfl, ?_, ?_, ?_⟩, h.v0, .inl ⟨⟨by omega, ?_, ?_⟩, .inl rfl⟩⟩
    · show (childF base s.F s.m 0 (v / 1073741824)).length = (s.m + 1) * 512
      unfold childF
      rw [List.length_set, List.length_append, List.length_replicate]; omega
    · exact hm1
    · show scanR base (tbl (childF base s.F s.m 0 (v / 1073741824))) (v / 1073741824) 0 1 = some s.m
      by_cases hz : s.mid = 0
      · obtain ⟨n1, n2, n3⟩ := h.emp hz
        rw [n1] at hT ⊢
        exact scanR_zeros _ _ _ (fun i h1 h2 => by rw [hT _ _ (by omega), if_neg (by omega), n3 i (by omega)])
      · obtain ⟨p, d, e1, e2⟩ := h.opn hz
        have hne : (v : Int) / 1073741824 ≠ s.virt / 1073741824 := hc.resolve_left hz
        have hv0 := h.v0
        refine scanR_congr (T := tbl s.F) _ _ _ _ (p.whole d (kid_ne hb _) (by omega) (by omega)) ?_ ?_
        · intro i h1 h2; rw [hT _ _ (by omega), if_neg (by omega)]
        · intro t h1 h2 i hi; rw [hT _ _ hi, if_neg (by omega)]
    · show tbl (childF base s.F s.m 0 (v / 1073741824)) 0 (v / 1073741824) = kidW base s.m
      rw [hT _ _ hj, if_pos ⟨rfl, rfl⟩]
    · intro i h1 h2
      show tbl (childF base s.F s.m 0 (v / 1073741824)) 0 i = 0
      rw [hT _ _ h2, if_neg (by omega)]
      by_cases hz : s.mid = 0
      · exact (h.emp hz).2.2 i h2
      · obtain ⟨p, d, e1, e2⟩ := h.opn hz
        have hv0 := h.v0
        exact p.behind i (by omega) h2
    · show scanM base (tbl (childF base s.F s.m 0 (v / 1073741824))) s.m _ 0 (s.m + 1) = some (s.m + 1)
      exact scanM_zeros _ _ _ _ (fun i h1 h2 => hnew i (by omega))
    · intro i h1 h2
      exact hnew i h2
  · rw [if_neg hc]
    have hz : s.mid ≠ 0 := fun e => hc (.inl e)
    have he : (v : Int) / 1073741824 = s.virt / 1073741824 := Decidable.not_not.1 (fun e => hc (.inr e))
    obtain ⟨p, d, e1, e2⟩ := h.opn hz
    have hv0 := h.v0
    have hjj : (s.virt / 1073741824).toNat = v / 1073741824 := by omega
    rw [hjj] at p
    refine ⟨p, hv0, ?_⟩
    by_cases hk : (v : Int) / 2097152 = s.virt / 2097152
    · have hkk : (s.virt / 2097152 % 512).toNat = v / 2097152 % 512 := by omega
      rw [hkk] at d
      have hl : s.low ≠ 0 := by
        intro hl
        obtain ⟨g1, g2⟩ := e2 hl
        omega
      exact .inr ⟨hl, hk, by omega, d⟩
    · refine .inl ⟨d.more (by omega) (by omega), .inr hk⟩
theorem Path.low {base : Int} {s : Bp} {j : Nat} (h : Path base s j) {t i : Nat} (ht : s.mid < t) (ht2 : t < s.m) (hi : i < 512) (w : Int) (vt : Int) : Path base { s with F := s.F.set (t * 512 + i) w, virt := vt } j := by
  have hT : ∀ t' k, k < 512 → tbl (s.F.set (t * 512 + i) w) t' k = if t' = t ∧ k = i then w else tbl s.F t' k := fun t' k hk => tbl_set hi (by rw [h.len]; omega) w t' k hk
  have hj := h.jlt
  refine ⟨by show (s.F.set _ _).length = _; rw [List.length_set]; exact h.len, hj, h.mid0, h.mid1, h.low1, h.low0, ?_, ?_, ?_⟩
  · refine scanR_congr (T := tbl s.F) _ _ _ _ h.ahead ?_ ?_
    · intro i' h1 h2; show _ = tbl (s.F.set _ _) _ _; rw [hT _ _ (by omega), if_neg (by omega)]
    · intro t' h1 h2 i' hi'; replace h2 : t' < s.mid := h2; show _ = tbl (s.F.set _ _) _ _; rw [hT _ _ hi', if_neg (by omega)]
  · show tbl (s.F.set _ _) _ _ = _; rw [hT _ _ hj, if_neg (by omega)]; exact h.here
  · intro i' h1 h2; show tbl (s.F.set _ _) _ _ = _; rw [hT _ _ h2, if_neg (by omega)]; exact h.behind i' h1 h2
theorem Done.low {base : Int} {s : Bp} {j k : Nat} (h : Path base s j) (hd : Done base s k) {t i : Nat} (ht : s.mid < t) (ht2 : t < s.m) (hi : i < 512) (w : Int) (vt : Int) : Done base { s with F := s.F.set (t * 512 + i) w, virt := vt } k := by
  have hT : ∀ t' k, k < 512 → tbl (s.F.set (t * 512 + i) w) t' k = if t' = t ∧ k = i then w else tbl s.F t' k := fun t' k hk => tbl_set hi (by rw [h.len]; omega) w t' k hk
  have hk := hd.klt
  refine ⟨hk, ?_, ?_⟩
  · show scanM base (tbl (s.F.set _ _)) _ _ _ _ = _
    rw [← scanM_congr (T := tbl s.F) s.mid k 0 (s.mid + 1) (fun i' h1 h2 => by rw [hT _ _ (by omega), if_neg (by omega)])]
    exact hd.upto
  · intro i' h1 h2; show tbl (s.F.set _ _) s.mid _ = _; rw [hT _ _ h2, if_neg (by omega)]; exact hd.rest i' h1 h2
/-- entry k of the middle table is set; m and low may turn -/
theorem Path.midSet {base : Int} {s : Bp} {j k : Nat} (h : Path base s j) (hd : Done base s k) (hk : k < 512) (w : Int) (F : List Int) (hF : F = s.F ∨ F = s.F ++ List.replicate 512 0) (m low : Nat) (vt : Int)
    (hlen : F.length = m * 512) (hm : s.m ≤ m) (hl1 : low < m) (hl0 : low = 0 ∨ s.mid < low) (hw : scanM base (fun _ _ => w) s.mid 1 k s.m = some m) :
    Path base ⟨m, F.set (s.mid * 512 + k) w, s.mid, low, vt⟩ j ∧ Done base ⟨m, F.set (s.mid * 512 + k) w, s.mid, low, vt⟩ (k + 1) := by
  have hmid1 := h.mid1
  have hmid0 := h.mid0
  have hj := h.jlt
  have hFt : tbl F = tbl s.F := by rcases hF with rfl | rfl
                                   · rfl
                                   · exact tbl_zeros _ _
  have hT : ∀ t' i, i < 512 → tbl (F.set (s.mid * 512 + k) w) t' i = if t' = s.mid ∧ i = k then w else tbl s.F t' i := by
    intro t' i hi
    rw [tbl_set hk (by rw [hlen]; omega) w t' i hi, hFt]
  refine ⟨⟨by show (F.set _ _).length = _; rw [List.length_set]; exact hlen, hj, hmid0, by show s.mid < m; omega, hl1, hl0, ?_, ?_, ?_⟩, ⟨by omega, ?_, ?_⟩⟩
  · refine scanR_congr (T := tbl s.F) _ _ _ _ h.ahead ?_ ?_
    · intro i' h1 h2; show _ = tbl (F.set _ _) _ _; rw [hT _ _ (by omega), if_neg (by omega)]
    · intro t' h1 h2 i' hi'; replace h2 : t' < s.mid := h2; show _ = tbl (F.set _ _) _ _; rw [hT _ _ hi', if_neg (by omega)]
  · show tbl (F.set _ _) _ _ = _; rw [hT _ _ hj, if_neg (by omega)]; exact h.here
  · intro i' h1 h2; show tbl (F.set _ _) _ _ = _; rw [hT _ _ h2, if_neg (by omega)]; exact h.behind i' h1 h2
  · show scanM base (tbl (F.set _ _)) s.mid (k + 1) 0 (s.mid + 1) = some m
    rw [scanM_add, ← scanM_congr (T := tbl s.F) s.mid k 0 (s.mid + 1) (fun i' h1 h2 => by rw [hT _ _ (by omega), if_neg (by omega)]), hd.upto]
    show scanM _ _ _ _ _ _ = _
    rw [← hw, Nat.zero_add]
    exact scanM_congr (T' := fun _ _ => w) s.mid 1 k s.m (fun i' h1 h2 => by rw [hT _ _ (by omega), if_pos (by omega)])
  · intro i' h1 h2; show tbl (F.set _ _) _ _ = _; rw [hT _ _ h2, if_neg (by omega)]; exact hd.rest i' (by omega) h2
theorem kid_big {base : Int} (hb : base % 4096 = 0) (m : Nat) : ¬ bigW (kidW base m) := by
  rw [kidW_eq hb]
  rintro ⟨_, h⟩
  rw [kid_entry (by omega) (by omega) (by omega) (.inr rfl)] at h
  cases h
theorem pageP_inv {base : Int} (hb : base % 4096 = 0) {s : Bp} {b : Int} (h : Inv base s b) {y : Lf} (hy : goodP y) (hp : y.pages * 4096 = unitP y) (hbv : b ≤ y.virt) : Inv base (pageP base s y.virt.toNat y.phys y) (y.virt + y.pages * 4096) := by
  have g2 := hy.virt
  have g3 := hy.phys
  have g4 := hy.v0
  have g5 := hy.p0
  have g6 := hy.v1
  have g7 := hy.p1
  obtain ⟨v, hv⟩ : ∃ v : Nat, y.virt = v := ⟨y.virt.toNat, by omega⟩
  rw [hv] at g2 g4 g6 hbv ⊢
  rw [Int.toNat_natCast]
  have hvlt : (v : Int) < 549755813888 := by
    rcases unitP_cases y with ⟨e, _⟩ | ⟨e, _⟩ <;> rw [e] at hp <;> omega
  have hm := openMid_inv hb h hvlt hbv
  rw [hp] at g6 g7 ⊢
  unfold pageP
  obtain ⟨hpath, hv0, hway⟩ := hm
  generalize openMid base s v = s1 at *
  have e30 : ((v : Int) / 1073741824).toNat = v / 1073741824 := by omega
  have e21 : ((v : Int) / 2097152 % 512).toNat = v / 2097152 % 512 := by omega
  have hmid0 := hpath.mid0
  have hmid1 := hpath.mid1
  have hlen1 := hpath.len
  by_cases hbig : y.big = true
  · rw [if_pos hbig]
    have hu : unitP y = 2097152 := by
      rcases unitP_cases y with ⟨_, e⟩ | ⟨e, _⟩
      · rw [hbig] at e; cases e
      · exact e
    rw [hu] at g2 g3 g6 g7 ⊢
    have hd : Done base s1 (v / 2097152 % 512) := by
      rcases hway with ⟨hd, _⟩ | ⟨_, k2, k3, _⟩
      · exact hd
      · exfalso; omega
    obtain ⟨w1, w2, w3⟩ := leafW_big hbig g5 (by omega) g3
    obtain ⟨p1, d1⟩ := hpath.midSet hd (by omega) (leafW y.phys y 1) s1.F (.inl rfl) s1.m 0 (v : Int) hlen1 (Nat.le_refl _) (by omega) (.inl rfl) (by
      unfold scanM
      rw [if_pos (.inr ⟨w1, w2⟩)]; rfl)
    refine ⟨p1.len, by show (0 : Int) ≤ (v : Int); omega, hvlt, fun e => ?_, fun _ => ⟨?_, ?_, ?_, fun _ => ⟨?_, ?_⟩⟩⟩
    · exact absurd e (by show s1.mid ≠ 0; omega)
    · show Path base _ ((v : Int) / 1073741824).toNat; rw [e30]; exact p1
    · show Done base _ (((v : Int) / 2097152 % 512).toNat + 1); rw [e21]; exact d1
    · show (v : Int) < v + 2097152; omega
    · exact g2
    · show (v : Int) + 2097152 ≤ v + 2097152; omega
  · rw [if_neg hbig]
    have hu : unitP y = 4096 := by
      rcases unitP_cases y with ⟨e, _⟩ | ⟨_, e⟩
      · exact e
      · exact absurd e hbig
    rw [hu] at g6 ⊢
    have fin : ∀ s2 : Bp, Path base s2 (v / 1073741824) → Done base s2 (v / 2097152 % 512 + 1) → s2.low ≠ 0 →
        Inv base { s2 with F := s2.F.set (s2.low * 512 + v / 4096 % 512) (leafW y.phys y 2), virt := (v : Int) } ((v : Int) + 4096) := by
      intro s2 p d hl
      have hl2 : s2.mid < s2.low := p.low0.resolve_left hl
      have p' := p.low (w := leafW y.phys y 2) (vt := (v : Int)) (i := v / 4096 % 512) hl2 p.low1 (by omega)
      have d' := Done.low p d (w := leafW y.phys y 2) (vt := (v : Int)) (i := v / 4096 % 512) hl2 p.low1 (by omega)
      refine ⟨p'.len, by show (0 : Int) ≤ (v : Int); omega, hvlt, fun e => ?_, fun _ => ⟨?_, ?_, ?_, fun e => ?_⟩⟩
      · exact absurd e (by have := p.mid0; show s2.mid ≠ 0; omega)
      · show Path base _ ((v : Int) / 1073741824).toNat; rw [e30]; exact p'
      · show Done base _ (((v : Int) / 2097152 % 512).toNat + 1); rw [e21]; exact d'
      · show (v : Int) < v + 4096; omega
      · exact absurd e hl
    rcases hway with ⟨hd, ho⟩ | ⟨k1, k2, k3, k4⟩
    · have e : openLow base s1 v = ⟨s1.m + 1, (s1.F ++ List.replicate 512 0).set (s1.mid * 512 + v / 2097152 % 512) (kidW base s1.m), s1.mid, s1.m, s1.virt⟩ := by
        unfold openLow
        rw [if_pos ho]; rfl
      rw [e]
      obtain ⟨p1, d1⟩ := hpath.midSet hd (by omega) (kidW base s1.m) (s1.F ++ List.replicate 512 0) (.inr rfl) (s1.m + 1) s1.m s1.virt (by rw [List.length_append, List.length_replicate, hlen1]; omega) (by omega) (by omega) (.inr hmid1) (by
        unfold scanM
        rw [if_neg (fun h => h.elim (kid_ne hb _) (kid_big hb _)), if_pos rfl]; rfl)
      exact fin _ p1 d1 (by show s1.m ≠ 0; omega)
    · have e : openLow base s1 v = s1 := by
        unfold openLow
        rw [if_neg (fun h => h.elim k1 (fun h => h k2))]
      rw [e]
      exact fin s1 hpath k4 k1
theorem startP_inv (base : Int) : Inv base startP 0 := by
  refine ⟨List.length_replicate, by decide, by decide, fun _ => ⟨rfl, rfl, fun k hk => ?_⟩, fun h => absurd rfl h⟩
  unfold tbl startP
  rw [List.getD_eq_getElem?_getD, List.getElem?_replicate, if_pos (by omega)]; rfl
theorem foldP_inv {base : Int} (hb : base % 4096 = 0) : ∀ {l : List Lf} {s : Bp} {b : Int}, okRows b l → (∀ y ∈ l, y.pages * 4096 = unitP y) → Inv base s b → ∃ b', Inv base (foldP base l s).1 b' := by
  intro l
  induction l with
  | nil => intro s b _ _ h; exact ⟨b, h⟩
  | cons y r ih =>
    intro s b ho hp h
    have h' := pageP_inv hb h ho.1 (hp y (by simp)) ho.2.1
    unfold foldP
    split
    · exact ⟨_, h'⟩
    · exact ih ho.2.2 (fun z hz => hp z (by simp [hz])) h'
theorem each_unit {l : List Lf} : ∀ y ∈ l.flatMap eachR, y.pages * 4096 = unitP y := by
  intro y hy
  obtain ⟨x, _, hx⟩ := List.mem_flatMap.1 hy
  unfold eachR at hx
  obtain ⟨j, _, rfl⟩ := List.mem_map.1 hx
  rw [unitP_step]
  exact unit_4096 x
theorem Inv.scan {base : Int} (hb : base % 4096 = 0) {s : Bp} {b : Int} (h : Inv base s b) : scanR base (tbl s.F) 512 0 1 = some s.m ∧ s.F.length = s.m * 512 := by
  refine ⟨?_, h.len⟩
  by_cases hz : s.mid = 0
  · obtain ⟨n1, _, n3⟩ := h.emp hz
    rw [n1]
    exact scanR_zeros _ _ _ (fun i h1 h2 => n3 i (by omega))
  · obtain ⟨p, d, _⟩ := h.opn hz
    have := p.jlt
    exact p.whole d (kid_ne hb _) (by omega) (Nat.le_refl _)
/-- the statement's own look at the tables -/
def midT (base : Int) (F : List Int) (m mid : Nat) : Nat → Nat → Nat → Option Nat
  | 0, _, n => some n
  | c + 1, k, n =>
    if ((entryB (tbl F mid k) 1).2 = 41 ∧ tbl F mid k = 0) ∨ bigW (tbl F mid k) then midT base F m mid c (k + 1) n
    else if (entryB (tbl F mid k) 1).2 ≠ 0 ∨ (entryB (tbl F mid k) 1).1.frame ≠ (base + n * 4096) % 18446744073709551616 ∨ m ≤ n then none
    else midT base F m mid c (k + 1) (n + 1)
def rootT (base : Int) (F : List Int) (m : Nat) : Nat → Nat → Nat → Bool
  | 0, _, n => decide (n = m)
  | c + 1, j, n =>
    if (entryB (tbl F 0 j) 0).2 = 41 ∧ tbl F 0 j = 0 then rootT base F m c (j + 1) n
    else if (entryB (tbl F 0 j) 0).2 ≠ 0 ∨ (entryB (tbl F 0 j) 0).1.frame ≠ (base + n * 4096) % 18446744073709551616 ∨ m ≤ n then false
    else match midT base F m n 512 0 (n + 1) with
      | none => false
      | some r => rootT base F m c (j + 1) r
theorem entry_zero {lv : Int} (hl : lv = 0 ∨ lv = 1) : (entryB 0 lv).2 = 41 := by
  unfold entryB
  rw [if_neg (by omega), if_pos (by omega)]
section
variable {base : Int} (hb : base % 4096 = 0) (hb0 : 0 ≤ base) {F : List Int} {m : Nat} (hm : base + m * 4096 ≤ 4294967296)
include hb hb0 hm
theorem midT_scan (t : Nat) : ∀ (c k n r : Nat), scanM base (tbl F) t c k n = some r → r ≤ m → midT base F m t c k n = some r := by
  intro c
  induction c with
  | zero => intro k n r h _; exact h
  | succ c ih =>
    intro k n r h hr
    unfold scanM at h
    unfold midT
    split at h
    · rename_i hz
      have : ((entryB (tbl F t k) 1).2 = 41 ∧ tbl F t k = 0) ∨ bigW (tbl F t k) := by
        rcases hz with hz | hz
        · rw [hz]; exact .inl ⟨entry_zero (.inr rfl), rfl⟩
        · exact .inr hz
      rw [if_pos this]
      exact ih _ _ _ h hr
    · rename_i hz
      rw [if_neg (fun h => hz (h.elim (fun h => .inl h.2) .inr))]
      split at h
      · rename_i hk
        have hle := scanM_le _ _ _ _ _ h
        rw [hk, kidW_eq hb]
        have e : (base + (n : Int) * 4096) % 4294967296 = base + n * 4096 := Int.emod_eq_of_lt (by omega) (by omega)
        have e2 : (base + (n : Int) * 4096) % 18446744073709551616 = base + n * 4096 := Int.emod_eq_of_lt (by omega) (by omega)
        rw [e, e2, kid_entry (by omega) (by omega) (by omega) (.inr rfl)]
        rw [if_neg (by simp; omega)]
        exact ih _ _ _ h hr
      · cases h
theorem rootT_scan : ∀ (c j n : Nat), scanR base (tbl F) c j n = some m → rootT base F m c j n = true := by
  intro c
  induction c with
  | zero => intro j n h; unfold scanR at h; unfold rootT; simpa using h
  | succ c ih =>
    intro j n h
    unfold scanR at h
    unfold rootT
    split at h
    · rename_i hz
      rw [if_pos ⟨by rw [hz]; exact entry_zero (.inl rfl), hz⟩]
      exact ih _ _ h
    · rename_i hz
      rw [if_neg (fun h => hz h.2)]
      split at h
      · rename_i hk
        cases hq : scanM base (tbl F) n 512 0 (n + 1) with
        | none => rw [hq] at h; cases h
        | some q =>
          rw [hq] at h
          have h' : scanR base (tbl F) c (j + 1) q = some m := h
          have hle := scanR_le _ _ _ _ h'
          have hle2 := scanM_le _ _ _ _ _ hq
          rw [hk, kidW_eq hb]
          have e : (base + (n : Int) * 4096) % 4294967296 = base + n * 4096 := Int.emod_eq_of_lt (by omega) (by omega)
          have e2 : (base + (n : Int) * 4096) % 18446744073709551616 = base + n * 4096 := Int.emod_eq_of_lt (by omega) (by omega)
          rw [e, e2, kid_entry (by omega) (by omega) (by omega) (.inl rfl)]
          rw [if_neg (by simp; omega), midT_scan hb hb0 hm n 512 0 (n + 1) q hq hle]
          exact ih _ _ h'
      · cases h
end
/-- tables that were made are a tree in pre-order -/
theorem tables_tree {base : Int} (hb0 : 0 ≤ base) {l : List Lf} (h0 : ∀ x ∈ l, 0 ≤ x.virt ∧ 0 ≤ x.phys) {s : Bp} (h : tablesP base l = .ok s) : rootT base s.F s.m 512 0 1 = true ∧ s.F.length = s.m * 512 ∧ 1 ≤ s.m := by
  obtain ⟨h1, h2, h3⟩ := tablesP_ok.1 h
  obtain ⟨k1, k2⟩ := buildP_ok.1 h1
  have ho := (right_ok h0).1 k1
  have hm1 : base + s.m * 4096 ≤ 4294967296 := by
    obtain ⟨f1, f2⟩ := h3
    have := (Int.le_ediv_iff_mul_le (show (0 : Int) < 4096 by omega)).1 f2
    omega
  have hbb : base / 4096 * 4096 % 4294967296 = base := by
    obtain ⟨f1, f2⟩ := h3
    omega
  rw [hbb] at k2
  obtain ⟨b', hi⟩ := foldP_inv h2 (okRows_each ho) each_unit (startP_inv base)
  rw [k2] at hi
  obtain ⟨i1, i2⟩ := hi.scan h2
  exact ⟨rootT_scan h2 hb0 hm1 512 0 1 i1, i2, scanR_le _ _ _ _ i1⟩
end Go.Proofs.Ytaogndianciogaa.Mm
