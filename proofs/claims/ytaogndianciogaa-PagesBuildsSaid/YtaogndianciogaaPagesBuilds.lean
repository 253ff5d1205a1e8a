/- bulkheadlaw12.PagesBuilds. -/
import Derived.Test.YtaogndianciogaaAsked
import Derived.Test.YtaogndianciogaaOther
import Derived.Test.YtaogndianciogaaMapart
import Derived.Test.YtaogndianciogaaFew
namespace Go.Proofs.Ytaogndianciogaa.Mm
open Go.RowKit
set_option linter.unusedVariables false
set_option linter.unusedSimpArgs false
theorem RdX.still {w w' : World} {B sz : Nat} {v : Value} {n : Nat} {xs : List Value} (h : RdX w sz v n xs) (hB : B = w.heap.size) (hs : w.heap.size ≤ w'.heap.size) (hk : ∀ k, k < B → w'.heap[k]? = w.heap[k]?) : RdX w' sz v n xs := by
  subst hB
  obtain ⟨hl, A, c, rfl, hc, hm, hr⟩ := h
  refine ⟨hl, A, c, rfl, hc, hm, fun h0 => ?_⟩
  obtain ⟨gb, off, rfl, hlt, hx⟩ := hr h0
  exact ⟨gb, off, rfl, Nat.lt_of_lt_of_le hlt hs, fun i x hi => (World.cell?_of_block (w := w) (hk gb hlt)).trans (hx i x hi)⟩
def x0 : Lf := ⟨12288, 32768, 2, false, true, false⟩
theorem x0_ok : ∀ x ∈ [x0], x.ok := by
  intro x hx
  simp at hx; subst hx
  unfold Lf.ok x0; dsimp only; omega
theorem one_start {w w' : World} {b : Nat} (hb : w.heap.size ≤ b) (h : w'.heap[b]? = some (.cells #[.slice none 0 0, .slice none 0 0, .int .i64 0, .bool false] 55 (0, 0))) (S : Nat) : OneT w' w.heap.size b S :=
  ⟨.slice none 0 0, .slice none 0 0, [], ⟨hb, ⟨0, h⟩, RowO.nil _ _ _, RowO.nil _ _ _, fun g e => (by cases e), fun k hk => (by cases hk), List.Pairwise.nil⟩, by simp, fun q hq => by cases hq⟩
theorem one_startL {w w' : World} {b : Nat} (hb : w.heap.size ≤ b) (h : w'.heap[b]? = some (.cells #[.slice none 0 0, .slice none 0 0, .int .i64 0, .bool false] 59 (0, 0))) (S : Nat) : OneL w' w.heap.size b S :=
  ⟨.slice none 0 0, .slice none 0 0, [], ⟨hb, ⟨0, h⟩, RowO.nil _ _ _, RowO.nil _ _ _, fun g e => (by cases e), fun k hk => (by cases hk), List.Pairwise.nil⟩, by simp, fun q hq => by cases hq⟩
/-- Apart, said of a book of which nothing else is known -/
theorem apartT_one (B b S : Nat) (w : World) (h : OneT w B b S) (hB : B ≤ w.heap.size) :
    Calls Try.prog 22 #[.pointer (some ⟨b, 0, none⟩), .func (.func 23) #[] #[]] w
      (fun e w' => e = .returned (.bool true) ∧ Below B w w' ∧ ∀ (k : Nat) (cs : Array Value) (U : TypeId), w.heap[k]? = some (.cells cs U (0, 0)) → U ≠ 55 → U ≠ 24 → w'.heap[k]? = w.heap[k]?) := by
  obtain ⟨lv, wv, L, h1, h2, _⟩ := h
  exact Tb.apart_any B b lv wv L w h1 h2 hB
theorem apartL_one (B b S : Nat) (w : World) (h : OneL w B b S) (hB : B ≤ w.heap.size) :
    Calls Try.prog 24 #[.pointer (some ⟨b, 0, none⟩), .func (.func 25) #[] #[]] w
      (fun e w' => e = .returned (.bool true) ∧ Below B w w') := by
  obtain ⟨lv, wv, L, h1, h2, _⟩ := h
  refine (Lv.apart_any B b lv wv L w h1 h2 hB).mono ?_
  rintro e w' ⟨k1, k2, _⟩
  exact ⟨k1, k2⟩
theorem x0_still {w w' : World} {B : Nat} (h : Still B (w.alloc (.cells #[.int .u64 12288, .int .u64 32768, .int .i64 2, .bool false, .bool true, .bool false] 47)) w') : RdX w' 6 (.slice (some ⟨w.heap.size, 0, none⟩) 1 1) 1 (lfV [x0]) := by
  have hg := heap_alloc_new w (.cells #[.int .u64 12288, .int .u64 32768, .int .i64 2, .bool false, .bool true, .bool false] 47)
  have hg2 := (h.leaf _ _ hg).trans hg
  exact ⟨rfl, _, 1, rfl, Nat.le_refl _, by decide, fun _ => ⟨w.heap.size, 0, rfl, lt_of_block hg2, fun i x hi => (cell_of_row _ _ _ _ _ _ hg2).trans (by rw [Nat.zero_add]; simpa [lfV, Lf.cells, x0] using hi)⟩⟩
set_option maxHeartbeats 8000000 in
set_option maxRecDepth 100000 in
theorem pagesBuilds_any (v : Value) (n : Nat) (l : List Lf) (hok : ∀ x ∈ l, x.ok) (base : Int) (hb0 : 0 ≤ base) (hb1 : base < 18446744073709551616) (at_ : Int) (ha : -9223372036854775808 ≤ at_) (ha2 : at_ < 9223372036854775808) (w : World) (hv : RdX w 6 v n (lfV l)) :
    Calls Try.prog 5 #[v, .int .u64 base, .int .i64 at_] w (fun e w' => e = .returned (.bool true) ∧ Below w.heap.size w w') := by
  obtain ⟨A, c, rfl, hcm, hnc⟩ : ∃ A c, v = .slice A n c ∧ c ≤ 9223372036854775807 ∧ n ≤ c := by
    obtain ⟨_, A, c, e, h1, hm, _⟩ := hv
    exact ⟨A, c, e, by unfold maxLen at hm; omega, h1⟩
  have hv' := Lib.hid hv
  have hok' := Lib.hid hok
  clear hv hok
  go_enter Try.func5, Try.ntmps5
  go_upto_region 3 with (fail)
  have hT := (Below.heap_alloc (w.alloc (.cells #[.slice none 0 0, .slice none 0 0, .int .i64 0, .bool false] 55)) (.cells #[.slice none 0 0, .slice none 0 0, .int .i64 0, .bool false] 59) w.heap.size (by simp)).trans (heap_alloc_new w (.cells #[.slice none 0 0, .slice none 0 0, .int .i64 0, .bool false] 55))
  have hL := heap_alloc_new (w.alloc (.cells #[.slice none 0 0, .slice none 0 0, .int .i64 0, .bool false] 55)) (.cells #[.slice none 0 0, .slice none 0 0, .int .i64 0, .bool false] 59)
  rw [World.size_alloc] at hL
  have hb2 : Hid (Below w.heap.size w ((w.alloc (.cells #[.slice none 0 0, .slice none 0 0, .int .i64 0, .bool false] 55)).alloc (.cells #[.slice none 0 0, .slice none 0 0, .int .i64 0, .bool false] 59))) := ((Below.refl _ _).alloc (Nat.le_refl _) _).alloc (by simp) _
  generalize (w.alloc (.cells #[.slice none 0 0, .slice none 0 0, .int .i64 0, .bool false] 55)).alloc (.cells #[.slice none 0 0, .slice none 0 0, .int .i64 0, .bool false] 59) = w2 at *
  obtain ⟨bl, hbl⟩ : ∃ bl, w.heap.size + 1 = bl := ⟨_, rfl⟩
  rw [hbl] at hL ⊢
  have hblI : Hid (w.heap.size ≤ bl) := by show _ ≤ _; omega
  clear hbl
  have hoT : Hid (∀ S, OneT w2 w.heap.size w.heap.size S) := fun S => one_start (Nat.le_refl _) hT S
  have hoL : Hid (∀ S, OneL w2 w.heap.size bl S) := fun S => one_startL hblI.out hL S
  clear hT hL
  have hB2 : w.heap.size ≤ w2.heap.size := hb2.out.size
  have hask1 : Hid (Calls Try.prog 18 #[.slice (some ⟨w2.heap.size, 0, none⟩) 1 1, .int .u64 65536, .pointer (some ⟨w.heap.size, 0, none⟩), .pointer (some ⟨bl, 0, none⟩)] (w2.alloc (.cells #[.int .u64 12288, .int .u64 32768, .int .i64 2, .bool false, .bool true, .bool false] 47))
      (fun e w' => e = .returned (.bool true) ∧ OneT w' w.heap.size w.heap.size w'.heap.size ∧ OneL w' w.heap.size bl w'.heap.size ∧ Below w.heap.size w w')) := by
    have hb3 : Below w2.heap.size w2 (w2.alloc (.cells #[.int .u64 12288, .int .u64 32768, .int .i64 2, .bool false, .bool true, .bool false] 47)) := (Below.refl _ _).alloc (Nat.le_refl _) _
    refine (asked_any w.heap.size w.heap.size bl _ 1 [x0] x0_ok (by omega) 65536 (by omega) (by omega) _ (Nat.le_trans hB2 hb3.size) (fun w' h => x0_still h) ((hoT.out _).below hb3) ((hoL.out _).below hb3)).mono ?_
    rintro e w' ⟨k1, k2, k3, k4⟩
    exact ⟨k1, k2, k3, (hb2.out.trans (hb3.mono hB2)).trans k4.bel⟩
  have hask2 : Hid (∀ w3, Below w.heap.size w w3 → n ≤ 20000 → OneT w3 w.heap.size w.heap.size w3.heap.size → OneL w3 w.heap.size bl w3.heap.size → Calls Try.prog 18 #[.slice A n c, .int .u64 base, .pointer (some ⟨w.heap.size, 0, none⟩), .pointer (some ⟨bl, 0, none⟩)] w3
      (fun e w' => e = .returned (.bool true) ∧ OneT w' w.heap.size w.heap.size w'.heap.size ∧ OneL w' w.heap.size bl w'.heap.size ∧ Below w.heap.size w w')) := by
    intro w3 hb hn h1 h2
    refine (asked_any w.heap.size w.heap.size bl _ n l hok'.out hn base hb0 hb1 w3 hb.size (fun w' h => hv'.out.below (hb.trans h.bel)) h1 h2).mono ?_
    rintro e w' ⟨k1, k2, k3, k4⟩
    exact ⟨k1, k2, k3, hb.trans k4.bel⟩
  have hask3 : Hid (∀ w3 w4 v3 l3, Below w.heap.size w w3 → Below w3.heap.size w3 w4 → n ≤ 20000 → (∀ x ∈ l3, x.ok) → w4.ownsRow w3.heap.size 47 6 v3 n (lfV l3) → OneT w4 w.heap.size w.heap.size w4.heap.size → OneL w4 w.heap.size bl w4.heap.size → Calls Try.prog 18 #[v3, .int .u64 base, .pointer (some ⟨w.heap.size, 0, none⟩), .pointer (some ⟨bl, 0, none⟩)] w4
      (fun e w' => e = .returned (.bool true) ∧ OneT w' w.heap.size w.heap.size w'.heap.size ∧ OneL w' w.heap.size bl w'.heap.size ∧ Below w.heap.size w w')) := by
    intro w3 w4 v3 l3 hb hb4 hn ho hown h1 h2
    have hb34 := hb.trans (hb4.mono hb.size)
    refine (asked_any w.heap.size w.heap.size bl _ n l3 ho hn base hb0 hb1 w4 hb34.size (fun w' h => ((RdC.of_own hown).keep fun k cs hk => h.leaf k cs hk).weak) h1 h2).mono ?_
    rintro e w' ⟨k1, k2, k3, k4⟩
    exact ⟨k1, k2, k3, hb34.trans k4.bel⟩
  clear hoT hoL
  go_upto_region 5 with (first
    | (go_at_call 18; refine hask1.out.mono ?_; rintro en w3 ⟨rfl, hT3', hL3', hb3'⟩
       have hT3 := Lib.hid hT3'
       have hL3 := Lib.hid hL3'
       have hb3 := Lib.hid hb3'
       clear hT3' hL3' hb3'))
  clear hask1 hb2 hB2
  by_cases hn : n ≤ 20000
  · have hnI : (n : Int) ≤ 20000 := by omega
    have href := Lib.hid (refuses_any _ n l hok'.out w3 (hv'.out.below hb3.out))
    by_cases hr : rightP 0 l = 0
    · rw [hr] at href
      go_upto_region 7 with (first
        | (go_at_call 19; refine href.out.mono ?_; rintro en w4 ⟨rfl, hb4'⟩
           have hb4 : Hid (Below w.heap.size w w4) := hb3.out.trans (hb4'.mono hb3.out.size)
           have hT4 : Hid (OneT w4 w.heap.size w.heap.size w4.heap.size) := (hT3.out.below hb4').grow
           have hL4 : Hid (OneL w4 w.heap.size bl w4.heap.size) := (hL3.out.below hb4').grow
           clear hb4')
        | (go_at_call 20; refine (few_any _ n l w4 (hv'.out.below hb4.out)).mono ?_; rintro en w4b ⟨⟨bF, rfl, hbF⟩, hw4⟩; subst w4b
           clear hbF
           cases bF))
      · go_wp2
        go_returns
        exact ⟨rfl, hb4.out⟩
      · clear hT3 hL3 hb3
        have ha4 := Lib.hid (hask2.out w4 hb4.out hn hT4.out hL4.out)
        go_wp2_with (first
          | (go_at_call 18; refine ha4.out.mono ?_; rintro en w5 ⟨rfl, hT5', hL5', hb5'⟩
             have hT5 := Lib.hid hT5'
             have hL5 := Lib.hid hL5'
             have hb5 := Lib.hid hb5'
             have ho5 := Lib.hid (other_any _ n l hok'.out hn at_ ha ha2 w5 (hv'.out.below hb5'))
             clear hT5' hL5' hb5' ha4)
          | (go_at_call 21; refine ho5.out.mono ?_; rintro en w6 ⟨v6, l6, rfl, hok6, hown6, hb6'⟩
             have ha6 := Lib.hid (hask3.out w5 w6 v6 l6 hb5.out hb6' hn hok6 hown6 ((hT5.out.below hb6').grow) ((hL5.out.below hb6').grow))
             clear hok6 hown6 hb6' ho5)
          | (go_at_call 18; refine ha6.out.mono ?_; rintro en w7 ⟨rfl, hT7', hL7', hb7'⟩
             have ha7 := Lib.hid (hask2.out w7 hb7' hn hT7' hL7')
             clear hT7' hL7' hb7' ha6)
          | (go_at_call 18; refine ha7.out.mono ?_; rintro en w8 ⟨rfl, hT8', hL8', hb8'⟩
             have hap := Lib.hid (apartT_one w.heap.size w.heap.size w8.heap.size w8 hT8' hb8'.size)
             have hL8 := Lib.hid hL8'
             have hb8 := Lib.hid hb8'
             clear hT8' hL8' hb8' ha7)
          | (go_at_call 22; refine hap.out.mono ?_; rintro en w9 ⟨rfl, hb9', hf9'⟩
             have hb9 : Hid (Below w.heap.size w w9) := hb8.out.trans hb9'
             have hL9 : OneL w9 w.heap.size bl w8.heap.size := hL8.out.far fun k cs T hk hT => hf9' k cs T hk (by rcases hT with rfl | rfl | rfl <;> decide) (by rcases hT with rfl | rfl | rfl <;> decide)
             have hap2 := Lib.hid (apartL_one w.heap.size bl w8.heap.size w9 hL9 (hb8.out.trans hb9').size)
             clear hb9' hf9' hL9)
          | (go_at_call 24; refine hap2.out.mono ?_; rintro en w10 ⟨rfl, hb10'⟩
             have hb10 : Hid (Below w.heap.size w w10) := hb9.out.trans hb10'
             clear hb10'))
        go_returns
        exact ⟨rfl, hb10.out⟩
    · have hr2 : (rightP 0 l == 0) = false := by simpa using hr
      go_upto_region 7 with (first
        | (go_at_call 19; refine href.out.mono ?_; rintro en w4 ⟨rfl, hb4'⟩
           have hb4 : Hid (Below w.heap.size w w4) := hb3.out.trans (hb4'.mono hb3.out.size)
           have hT4 : Hid (OneT w4 w.heap.size w.heap.size w4.heap.size) := (hT3.out.below hb4').grow
           have hL4 : Hid (OneL w4 w.heap.size bl w4.heap.size) := (hL3.out.below hb4').grow
           clear hb4'))
      clear hT3 hL3 hb3 hr2 hr
      have ha4 := Lib.hid (hask2.out w4 hb4.out hn hT4.out hL4.out)
      go_wp2_with (first
        | (go_at_call 18; refine ha4.out.mono ?_; rintro en w5 ⟨rfl, hT5', hL5', hb5'⟩
           have hT5 := Lib.hid hT5'
           have hL5 := Lib.hid hL5'
           have hb5 := Lib.hid hb5'
           have ho5 := Lib.hid (other_any _ n l hok'.out hn at_ ha ha2 w5 (hv'.out.below hb5'))
           clear hT5' hL5' hb5' ha4)
        | (go_at_call 21; refine ho5.out.mono ?_; rintro en w6 ⟨v6, l6, rfl, hok6, hown6, hb6'⟩
           have ha6 := Lib.hid (hask3.out w5 w6 v6 l6 hb5.out hb6' hn hok6 hown6 ((hT5.out.below hb6').grow) ((hL5.out.below hb6').grow))
           clear hok6 hown6 hb6' ho5)
        | (go_at_call 18; refine ha6.out.mono ?_; rintro en w7 ⟨rfl, hT7', hL7', hb7'⟩
           have ha7 := Lib.hid (hask2.out w7 hb7' hn hT7' hL7')
           clear hT7' hL7' hb7' ha6)
        | (go_at_call 18; refine ha7.out.mono ?_; rintro en w8 ⟨rfl, hT8', hL8', hb8'⟩
           have hap := Lib.hid (apartT_one w.heap.size w.heap.size w8.heap.size w8 hT8' hb8'.size)
           have hL8 := Lib.hid hL8'
           have hb8 := Lib.hid hb8'
           clear hT8' hL8' hb8' ha7)
        | (go_at_call 22; refine hap.out.mono ?_; rintro en w9 ⟨rfl, hb9', hf9'⟩
           have hb9 : Hid (Below w.heap.size w w9) := hb8.out.trans hb9'
           have hL9 : OneL w9 w.heap.size bl w8.heap.size := hL8.out.far fun k cs T hk hT => hf9' k cs T hk (by rcases hT with rfl | rfl | rfl <;> decide) (by rcases hT with rfl | rfl | rfl <;> decide)
           have hap2 := Lib.hid (apartL_one w.heap.size bl w8.heap.size w9 hL9 (hb8.out.trans hb9').size)
           clear hb9' hf9' hL9)
        | (go_at_call 24; refine hap2.out.mono ?_; rintro en w10 ⟨rfl, hb10'⟩
           have hb10 : Hid (Below w.heap.size w w10) := hb9.out.trans hb10'
           clear hb10'))
      go_returns
      exact ⟨rfl, hb10.out⟩
  · have hnI : ¬ (n : Int) ≤ 20000 := by omega
    go_wp2
    go_returns
    exact ⟨rfl, hb3.out⟩
end Go.Proofs.Ytaogndianciogaa.Mm
