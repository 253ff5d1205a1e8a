/- bulkheadlaw12.few; small facts for PagesAlike. -/
import Derived.Test.YtaogndianciogaaSameT
import Derived.Test.YtaogndianciogaaTree
namespace Go.Proofs.Ytaogndianciogaa.Mm
open Go.RowKit
set_option linter.unusedVariables false
set_option linter.unusedSimpArgs false
def FewPost (n : Nat) (e : Ending) : Prop := ∃ b : Bool, e = .returned (.bool b) ∧ (b = true → n ≤ 20000)
set_option maxHeartbeats 1000000 in
theorem few_any (v : Value) (n : Nat) (l : List Lf) (w : World) (hv : RdX w 6 v n (lfV l)) :
    Calls Try.prog 20 #[v] w (fun e w' => FewPost n e ∧ w' = w) := by
  have hln : l.length = n := by have := hv.1; rw [lfV_length] at this; omega
  obtain ⟨A, c, rfl, hcm⟩ : ∃ A c, v = .slice A n c ∧ c ≤ 9223372036854775807 := by
    obtain ⟨_, A, c, e, h1, hm, _⟩ := hv
    exact ⟨A, c, e, by unfold maxLen at hm; omega⟩
  have hnm : n ≤ 9223372036854775807 := by
    obtain ⟨_, A, c, e, h1, hm, _⟩ := hv
    unfold maxLen at hm; omega
  have hv' := Lib.hid hv
  clear hv
  go_enter Try.func20, Try.ntmps20
  go_wp2
  go_loopg [3, 4] (n + 1) (fun g1 v3 v4 wr => ∃ (k : Nat) (s : Int), k + g1 = n + 1 ∧ k ≤ n ∧ v4 = .int .i64 k ∧ v3 = .int .i64 s ∧ wr = w)
  case atStart => exact ⟨0, 0, by omega, by omega, rfl, rfl, rfl⟩
  case round =>
    obtain ⟨k, s, hk, hkn, rfl, rfl, rfl⟩ := hrel
    have hend : ∀ b : Bool, (b = true → n ≤ 20000) → FewPost n (.returned (.bool b)) := fun b h => ⟨b, rfl, h⟩
    by_cases hlt : k < n
    · have hx : l[k]? = some (l[k]'(by omega)) := List.getElem?_eq_getElem _
      generalize l[k]'(by omega) = x at hx
      obtain ⟨g, off, c', hve, _, _, hgl, hL⟩ := RdX.leaf hv'.out hx hlt
      cases hve
      obtain ⟨c0, c1, c2, c3, c4, c5⟩ := hL
      have hltI : (k : Int) < (n : Int) := by omega
      clear hx c0 c1 c3 c4 c5
      by_cases hs : s ≤ 1048576
      · go_wp2
        go_roundg (n - k)
        case rel => exact ⟨k + 1, _, by omega, by omega, by simp, rfl, rfl⟩
        case measure => omega
      · have hf := Lib.hid (hend false (fun h => by cases h))
        clear hend
        go_wp2
        go_returns
        exact ⟨hf.out, rfl⟩
    · obtain rfl : k = n := by omega
      by_cases hs : s ≤ 1048576
      · by_cases h2 : k ≤ 20000
        · have h2I : (k : Int) ≤ 20000 := by omega
          have hf := Lib.hid (hend true (fun _ => h2))
          clear hend h2
          go_wp2
          go_returns
          exact ⟨hf.out, rfl⟩
        · have h2I : ¬ (k : Int) ≤ 20000 := by omega
          have hf := Lib.hid (hend false (fun h => by cases h))
          clear hend h2
          go_wp2
          go_returns
          exact ⟨hf.out, rfl⟩
      · have hf := Lib.hid (hend false (fun h => by cases h))
        clear hend
        go_wp2
        go_returns
        exact ⟨hf.out, rfl⟩
theorem tablesP_err {base : Int} {l : List Lf} {c : Int} (h : tablesP base l = .error c) : c ≠ 0 := by
  unfold tablesP at h
  cases hb : buildP (base / 4096 * 4096 % 4294967296) l with
  | error d => rw [hb] at h; cases h; exact buildP_err hb
  | ok s =>
    rw [hb] at h
    dsimp only at h
    split at h
    · cases h; decide
    · split at h
      · cases h
      · cases h; decide
theorem good_ok {x : Lf} (h : goodP x) : x.ok := by
  have h1 := h.pages
  have h2 := h.v0
  have h3 := h.p0
  have h4 := h.v1
  have h5 := h.p1
  refine ⟨h2, by omega, h3, by omega, by omega, by omega⟩
def firstLf : Lf := ⟨1073741824, 0, 1, false, false, false⟩
theorem first_ok : ∀ x ∈ [firstLf], x.ok := by
  intro x hx
  simp at hx; subst hx
  unfold Lf.ok firstLf
  decide
theorem page_m (base : Int) (v : Nat) (ph : Int) : (pageP base startP v ph firstLf).m = 3 := by
  unfold pageP
  rw [if_neg (by decide)]
  have h1 : openMid base startP v = ⟨2, childF base (List.replicate 512 0) 1 0 (v / 1073741824), 1, 0, 0⟩ := by
    unfold openMid
    rw [if_pos (.inl rfl)]; rfl
  rw [h1]
  unfold openLow
  rw [if_pos (.inl rfl)]
theorem first_tables {base : Int} (h0 : 0 ≤ base) (h1 : base < 2147483648) (h2 : base % 4096 = 0) : ∃ s, tablesP base [firstLf] = .ok s ∧ s.m = 3 := by
  have hb : base / 4096 * 4096 % 4294967296 = base := by omega
  have hr : rightP 0 [firstLf] = 0 := by decide
  have hm := page_m base (firstLf.virt + ((0 : Nat) : Int) * unitP firstLf).toNat (firstLf.phys + ((0 : Nat) : Int) * unitP firstLf)
  have hrow : rowsP base [firstLf] startP = (pageP base startP (firstLf.virt + ((0 : Nat) : Int) * unitP firstLf).toNat (firstLf.phys + ((0 : Nat) : Int) * unitP firstLf) firstLf, true) := by
    have hc : (firstLf.pages * 4096 / unitP firstLf).toNat = 1 := by decide
    rw [rowsP, hc, rowP, hm]
    rfl
  refine ⟨_, tablesP_ok.2 ⟨?_, h2, ?_⟩, hm⟩
  · rw [hb]
    unfold buildP
    rw [if_neg (fun h => h hr), hrow]
    rfl
  · rw [hm]
    exact (fits_iff (by omega)).2 (by show base + 3 * 4096 ≤ _; omega)
def U64 (F : List Int) : Prop := ∀ x ∈ F, 0 ≤ x ∧ x < 18446744073709551616
theorem makeA_u64 {x : Ent} {lv : Int} (h0 : 0 ≤ x.frame) (h1 : x.frame < 18446744073709551616) : 0 ≤ (makeA x lv).1 ∧ (makeA x lv).1 < 18446744073709551616 := by
  unfold makeA
  split
  · exact ⟨by decide, by decide⟩
  · split
    · exact ⟨by decide, by decide⟩
    · exact flags_lt h0 h1 _ _ _
theorem U64.set {F : List Int} (h : U64 F) (i : Nat) {w : Int} (hw : 0 ≤ w ∧ w < 18446744073709551616) : U64 (F.set i w) := by
  intro x hx
  rcases List.mem_or_eq_of_mem_set hx with hx | rfl
  · exact h x hx
  · exact hw
theorem U64.child {F : List Int} (h : U64 F) (base : Int) (m o e : Nat) : U64 (childF base F m o e) := by
  unfold childF
  refine U64.set ?_ _ ?_
  · intro x hx
    rcases List.mem_append.1 hx with hx | hx
    · exact h x hx
    · rw [(List.mem_replicate.1 hx).2]; exact ⟨by decide, by decide⟩
  · unfold kidW
    exact makeA_u64 (by show 0 ≤ (base + m * 4096) % 4294967296; omega) (by show (base + m * 4096) % 4294967296 < _; omega)
theorem pageP_u64 {base : Int} {s : Bp} (h : U64 s.F) {v : Nat} {ph : Int} {x : Lf} (h0 : 0 ≤ ph) (h1 : ph < 18446744073709551616) : U64 (pageP base s v ph x).F := by
  have hm : U64 (openMid base s v).F := by
    unfold openMid
    split
    · exact h.child _ _ _ _
    · exact h
  have hl : U64 (openLow base (openMid base s v) v).F := by
    unfold openLow
    split
    · exact hm.child _ _ _ _
    · exact hm
  have hw : ∀ lv, 0 ≤ leafW ph x lv ∧ leafW ph x lv < 18446744073709551616 := fun lv => makeA_u64 h0 h1
  unfold pageP
  split
  · exact hm.set _ (hw _)
  · exact hl.set _ (hw _)
theorem foldP_u64 {base : Int} : ∀ {l : List Lf} {s : Bp}, (∀ x ∈ l, goodP x) → U64 s.F → U64 (foldP base l s).1.F := by
  intro l
  induction l with
  | nil => intro s _ h; exact h
  | cons y r ih =>
    intro s hg h
    have hy := hg y (by simp)
    have := pageP_u64 (base := base) (v := y.virt.toNat) (x := y) h hy.p0 (by have := hy.p1; have := hy.pages; omega)
    unfold foldP
    split
    · exact this
    · exact ih (fun z hz => hg z (by simp [hz])) this
theorem foldP_m {base : Int} : ∀ {l : List Lf} {s t : Bp}, foldP base l s = (t, true) → s.m ≤ 1024 → t.m ≤ 1024 := by
  intro l
  induction l with
  | nil => intro s t h hs; cases h; exact hs
  | cons y r ih =>
    intro s t h hs
    unfold foldP at h
    split at h
    · cases h
    · rename_i hm
      exact ih h (by omega)
theorem tables_u64 {base : Int} {l : List Lf} (h0 : ∀ x ∈ l, 0 ≤ x.virt ∧ 0 ≤ x.phys) {s : Bp} (h : tablesP base l = .ok s) : U64 s.F ∧ s.m ≤ 1024 ∧ base < 4294967296 := by
  obtain ⟨h1, h2, h3⟩ := tablesP_ok.1 h
  obtain ⟨k1, k2⟩ := buildP_ok.1 h1
  have ho := (right_ok h0).1 k1
  have := foldP_u64 (base := base / 4096 * 4096 % 4294967296) (okRows_all (okRows_each ho)) (s := startP) (fun x hx => by
    rw [(List.mem_replicate.1 hx).2]; exact ⟨by decide, by decide⟩)
  rw [k2] at this
  have hlt := h3.1
  exact ⟨this, foldP_m k2 (by decide), hlt⟩
end Go.Proofs.Ytaogndianciogaa.Mm
