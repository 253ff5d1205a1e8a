/- bulkheadbook.Book.Apart of bytes, with the marks of bulkheadbook.Bytes. -/
import Derived.Test.YtaogndianciogaaStays
import Derived.Test.YtaogndianciogaaMark
namespace Go.Proofs.Ytaogndianciogaa.Mm
open Go.RowKit
set_option linter.unusedVariables false
set_option linter.unusedSimpArgs false
/-- the lists ahead of number i bear their marks, and number i bears its own as far as j -/
def Marked (w : World) (L : List Kp) (i jn : Nat) : Prop := ∀ (idx : Nat) (q : Kp) (g c : Nat), L[idx]? = some q → q.v = .slice (some ⟨g, 0, none⟩) q.n c →
  ∃ cs : Array Value, w.heap[g]? = some (.cells cs 5 (0, 0)) ∧ cs.size = c ∧ ∀ j, j < c → (idx < i ∨ idx = i ∧ j < jn) → cs[j]? = some (.int .u8 (markB idx j))
structure ApSt (w : World) (B b : Nat) (lv : Value) (L : List Kp) (w' : World) (i jn : Nat) : Prop where
  cell : ∃ wv, ∃ held : Int, w'.heap[b]? = some (.cells #[lv, wv, .int .i64 held, .bool false] 30 (0, 0))
  lists : RowO w' B 25 lv L.length (L.map Kp.v)
  below : Below B w w'
  marked : Marked w' L i jn
section
variable {w w' : World} {B b : Nat} {lv wv : Value} {L : List Kp} {i j : Nat}
theorem ApSt.start (h : BookSt w B b lv wv L) : ApSt w B b lv L w 0 0 := by
  refine ⟨⟨_, h.cell⟩, h.lists, Below.refl _ _, fun idx q g c hq he => ?_⟩
  obtain ⟨h1, h2⟩ := (h.own q (List.mem_of_getElem? hq)).1
  rcases h2 with ⟨e, _⟩ | ⟨g', cap, cur, e, hb, hg, hnc, hcm, hcs, _⟩
  · rw [he] at e; cases e
  · rw [he] at e; cases e
    exact ⟨cur, hg, by omega, fun j _ h => by rcases h with h | ⟨_, h⟩ <;> omega⟩
theorem ApSt.drewN (h : ApSt w B b lv L w' i j) (n : Nat) : ApSt w B b lv L (w'.drewN n) i j :=
  ⟨h.cell, h.lists.keep fun _ _ _ => rfl, below_drewN h.below n, h.marked⟩
theorem ApSt.next (h : ApSt w B b lv L w' i j) (hc : ∀ q g c, L[i]? = some q → q.v = .slice (some ⟨g, 0, none⟩) q.n c → j = c) : ApSt w B b lv L w' (i + 1) 0 := by
  refine ⟨h.cell, h.lists, h.below, fun idx q g c hq he => ?_⟩
  obtain ⟨cs, hg, hs, hm⟩ := h.marked idx q g c hq he
  refine ⟨cs, hg, hs, fun k hk hor => hm k hk ?_⟩
  rcases hor with hor | ⟨_, hor⟩
  · by_cases e : idx = i
    · subst e
      have := hc q g c hq he
      exact .inr ⟨rfl, by omega⟩
    · exact .inl (by omega)
  · omega
theorem two_ne (h : L.Pairwise (fun p q => ∀ g, p.v.ownBlock = some g → q.v.ownBlock ≠ some g)) {i k : Nat} {p q : Kp} {g g' : Nat} (hik : i ≠ k) (hp : L[i]? = some p) (hq : L[k]? = some q) (e1 : p.v.ownBlock = some g) (e2 : q.v.ownBlock = some g') : g ≠ g' := by
  rintro rfl
  rw [List.pairwise_iff_getElem] at h
  obtain ⟨hi, rfl⟩ := List.getElem?_eq_some_iff.1 hp
  obtain ⟨hk, rfl⟩ := List.getElem?_eq_some_iff.1 hq
  rcases Nat.lt_or_gt_of_ne hik with hlt | hlt
  · exact h i k hi hk hlt g e1 e2
  · exact h k i hk hi hlt g e2 e1
theorem ApSt.step (h : ApSt w B b lv L w' i j) (h2 : L.Pairwise (fun p q => ∀ g, p.v.ownBlock = some g → q.v.ownBlock ≠ some g)) {q : Kp} {g c : Nat} (hq : L[i]? = some q) (he : q.v = .slice (some ⟨g, 0, none⟩) q.n c) (hB : B ≤ g) (hj : j < c) :
    ApSt w B b lv L (w'.setCell ⟨g, j, none⟩ (.int .u8 (markB i j))) i (j + 1) := by
  obtain ⟨cs, hg, hs, hm⟩ := h.marked i q g c hq he
  obtain ⟨wv, held, hb⟩ := h.cell
  have hbg : b ≠ g := by rintro rfl; rw [hb] at hg; cases hg
  refine ⟨⟨wv, held, (setCell_far hbg _).trans hb⟩, h.lists.keep fun g' e hlt => setCell_far (fun e2 => ?_) _, h.below.setCell (by simpa using hB) _, fun idx p g' c' hp hpe => ?_⟩
  · subst e2
    obtain ⟨cur, hcur⟩ := h.lists.type e
    rw [hcur] at hg; cases hg
  · by_cases e : idx = i
    · subst e
      obtain rfl : p = q := Option.some.inj (hp.symm.trans hq)
      rw [hpe] at he; cases he
      refine ⟨cs.setIfInBounds j (.int .u8 (markB idx j)), setCell_block hg _, by simpa using hs, fun k hk hor => ?_⟩
      by_cases ek : k = j
      · subst ek
        rw [Array.getElem?_setIfInBounds, if_pos rfl, if_pos (by omega)]
      · rw [Array.getElem?_setIfInBounds_ne (by omega)]
        exact hm k hk (by omega)
    · obtain ⟨cs', hg', hs', hm'⟩ := h.marked idx p g' c' hp hpe
      have hne : g' ≠ g := two_ne h2 e hp hq (by rw [hpe]; rfl) (by rw [he]; rfl)
      exact ⟨cs', (setCell_far hne _).trans hg', hs', fun k hk hor => hm' k hk (by omega)⟩
end
set_option maxHeartbeats 8000000 in
set_option maxRecDepth 100000 in
theorem apart_any (B b : Nat) (lv wv : Value) (L : List Kp) (w : World) (hs : BookSt w B b lv wv L) (hL : L.length ≤ 4000) :
    Calls Try.prog 14 #[.pointer (some ⟨b, 0, none⟩), .func (.func 15) #[] #[]] w
      (fun e w' => e = .returned (.bool true) ∧ Below B w w') := by
  have hstay := Lib.hid (stays_any B b lv wv L w hs hL)
  have htwo := Lib.hid hs.two
  have hgB : Hid (∀ q ∈ L, ∀ g, q.v.ownBlock = some g → B ≤ g) := fun q hq g e => ((hs.own q hq).1.lt g e).1
  have hform : Hid (∀ q ∈ L, (q.v = .slice none 0 0 ∧ q.n = 0) ∨ ∃ g c, q.v = .slice (some ⟨g, 0, none⟩) q.n c ∧ q.n ≤ c ∧ c ≤ 9223372036854775807) := fun q hq => by
    rcases (hs.own q hq).1.2 with h | ⟨g, cap, cur, e, hb, hg, hnc, hcm, _⟩
    · exact .inl h
    · exact .inr ⟨g, cap, e, hnc, by unfold maxLen at hcm; omega⟩
  have hle := hs.le
  obtain ⟨A1, cap1, rfl⟩ : ∃ A c, lv = .slice A L.length c := by
    rcases hs.lists.2 with ⟨e, h0⟩ | ⟨g, off, cap, cur, e, _⟩
    · exact ⟨_, _, by rw [e, h0]⟩
    · exact ⟨_, _, e⟩
  have hst := Lib.hid (ApSt.start hs)
  clear hs
  go_enter Try.func14, Try.ntmps14
  go_wp2_with fail
  refine hstay.out.mono ?_
  rintro en w1 ⟨rfl, j0, rfl⟩
  have hst1 := Lib.hid (hst.out.drewN j0)
  clear hst hstay
  generalize w.drewN j0 = w1 at *
  go_wp2
  go_loopg [5] (L.length + 1) (fun g1 v5 wr => ∃ i : Nat, i + g1 = L.length + 1 ∧ i ≤ L.length ∧ v5 = .int .i64 i ∧ Hid (ApSt w B b (.slice A1 L.length cap1) L wr i 0))
  case atStart => exact ⟨0, by omega, by omega, rfl, hst1⟩
  case round =>
    clear hst1
    clear w1
    obtain ⟨i, hk, hi, rfl, hst⟩ := hrel
    obtain ⟨wv1, held1, hg1⟩ := hst.out.cell
    have c0 : wr.cell? ⟨b, 0, none⟩ = some (.slice A1 L.length cap1) := cell_of_row wr b 0 _ _ _ hg1
    clear hg1
    by_cases hlt : i < L.length
    · have hq : L[i]? = some (L[i]'hlt) := List.getElem?_eq_getElem _
      generalize L[i]'hlt = q at hq
      obtain ⟨qv, qu, qn, qx⟩ := q
      have hq' := Lib.hid hq
      obtain ⟨gl, ol, cl, hlE, _, hcl0, hcl1, cL⟩ := hst.out.lists.cell (i := i) (x := qv) (by simp [hq])
      cases hlE
      have hltI : (i : Int) < (L.length : Int) := by omega
      have h0I : (0 : Int) ≤ (i : Int) := by omega
      rcases hform.out _ (List.mem_of_getElem? hq) with ⟨e, e0⟩ | ⟨g, c, e, hnc, hcm⟩
      · dsimp only at e e0
        subst e e0
        clear hq hcl1
        go_wp2
        go_quiet (fail)
        go_wp2
        go_loopg [7] 1 (fun g2 v7 wq => g2 = 1 ∧ v7 = .int .i64 0 ∧ Hid (ApSt w B b (.slice (some ⟨gl, ol, none⟩) L.length cap1) L wq i 0))
        case atStart => exact ⟨rfl, rfl, hst.out.drewN _⟩
        case round =>
          obtain ⟨hg2, rfl, hst2⟩ := hrel
          have hst3 : Hid (ApSt w B b (.slice (some ⟨gl, ol, none⟩) L.length cap1) L wr i 0) := hst2
          have hnext := Lib.hid (hst3.out.next (fun q g c hq2 he2 => by
            have := Option.some.inj (hq'.out.symm.trans hq2)
            subst this; cases he2))
          clear hst2 hst3 hst c0 cL
          go_wp2
          go_roundg (L.length - i)
          case rel => exact ⟨i + 1, by omega, by omega, by simp, hnext⟩
          case measure => omega
      · dsimp only at e hnc
        subst e
        have hBg : B ≤ g := hgB.out _ (List.mem_of_getElem? hq) g rfl
        clear hq hcl1
        go_wp2
        go_quiet (fail)
        go_wp2
        go_loopg [7] (c + 1) (fun g2 v7 wq => ∃ j : Nat, j + g2 = c + 1 ∧ j ≤ c ∧ v7 = .int .i64 j ∧ Hid (ApSt w B b (.slice (some ⟨gl, ol, none⟩) L.length cap1) L wq i j))
        case atStart => exact ⟨0, by omega, by omega, rfl, hst.out.drewN _⟩
        case round =>
          clear hst c0 cL
          obtain ⟨j, hj, hjc, rfl, hst⟩ := hrel
          by_cases hlt2 : j < c
          · obtain ⟨cs, hgc, hsz, hm⟩ := hst.out.marked i _ g c hq'.out rfl
            have hgj : cs[j]? = some (cs[j]'(by omega)) := Array.getElem?_eq_getElem _
            generalize cs[j]'(by omega) = y at hgj
            have ch : wr.cell? ⟨g, j, none⟩ = some y := (cell_of_row wr g j cs _ _ hgc).trans hgj
            have fh : wr.frozen? ⟨g, j, none⟩ = false := frozen_of_block hgc
            have hltI2 : (j : Int) < (c : Int) := by omega
            have hstep := Lib.hid (hst.out.step htwo.out hq'.out rfl hBg hlt2)
            clear hst hgc hsz hm hgj
            go_wp2_with fail
            refine (mark_any i j (by omega) (by omega) wr).mono ?_
            rintro en w2 ⟨rfl, rfl⟩
            go_wp2
            go_roundg (c - j)
            case rel => exact ⟨j + 1, by omega, by omega, by simp, hstep⟩
            case measure => omega
          · obtain rfl : j = c := by omega
            have hnext := Lib.hid (hst.out.next (fun q g' c' hq2 he2 => by
              have := Option.some.inj (hq'.out.symm.trans hq2)
              subst this; cases he2; rfl))
            clear hst
            go_wp2
            go_roundg (L.length - i)
            case rel => exact ⟨i + 1, by omega, by omega, by simp, hnext⟩
            case measure => omega
    · obtain rfl : i = L.length := by omega
      go_wp2
      go_loopg [8] (L.length + 1) (fun g1 v8 wr => ∃ i : Nat, i + g1 = L.length + 1 ∧ i ≤ L.length ∧ v8 = .int .i64 i ∧ Hid (ApSt w B b (.slice A1 L.length cap1) L wr L.length 0))
      case atStart => exact ⟨0, by omega, by omega, rfl, hst⟩
      case round =>
        clear c0 hst
        obtain ⟨i, hk, hi, rfl, hst⟩ := hrel
        obtain ⟨wv1, held1, hg1⟩ := hst.out.cell
        have c0 : wr.cell? ⟨b, 0, none⟩ = some (.slice A1 L.length cap1) := cell_of_row wr b 0 _ _ _ hg1
        have c1 : wr.cell? ⟨b, 1, none⟩ = some wv1 := cell_of_row wr b 1 _ _ _ hg1
        have c2 : wr.cell? ⟨b, 2, none⟩ = some (.int .i64 held1) := cell_of_row wr b 2 _ _ _ hg1
        have f0 : wr.frozen? ⟨b, 0, none⟩ = false := frozen_of_block hg1
        have f1 : wr.frozen? ⟨b, 1, none⟩ = false := frozen_of_block hg1
        have f2 : wr.frozen? ⟨b, 2, none⟩ = false := frozen_of_block hg1
        clear hg1
        by_cases hlt : i < L.length
        · have hq : L[i]? = some (L[i]'hlt) := List.getElem?_eq_getElem _
          generalize L[i]'hlt = q at hq
          obtain ⟨qv, qu, qn, qx⟩ := q
          have hq' := Lib.hid hq
          obtain ⟨gl, ol, cl, hlE, _, hcl0, hcl1, cL⟩ := hst.out.lists.cell (i := i) (x := qv) (by simp [hq])
          cases hlE
          have hltI : (i : Int) < (L.length : Int) := by omega
          have h0I : (0 : Int) ≤ (i : Int) := by omega
          clear c1 c2 f0 f1 f2
          rcases hform.out _ (List.mem_of_getElem? hq) with ⟨e, e0⟩ | ⟨g, c, e, hnc, hcm⟩
          · dsimp only at e e0
            subst e e0
            clear hq hcl1
            go_wp2
            go_quiet (fail)
            go_wp2
            go_loopg [10] 1 (fun g2 v10 wq => g2 = 1 ∧ v10 = .int .i64 0 ∧ Hid (ApSt w B b (.slice (some ⟨gl, ol, none⟩) L.length cap1) L wq L.length 0))
            case atStart => exact ⟨rfl, rfl, hst.out.drewN _⟩
            case round =>
              obtain ⟨hg2, rfl, hst2⟩ := hrel
              have hst3 : Hid (ApSt w B b (.slice (some ⟨gl, ol, none⟩) L.length cap1) L wr L.length 0) := hst2
              clear hst2 hst c0 cL
              go_wp2
              go_roundg (L.length - i)
              case rel => exact ⟨i + 1, by omega, by omega, by simp, hst3⟩
              case measure => omega
          · dsimp only at e hnc
            subst e
            clear hq hcl1
            go_wp2
            go_quiet (fail)
            go_wp2
            go_loopg [10] (c + 1) (fun g2 v10 wq => ∃ j : Nat, j + g2 = c + 1 ∧ j ≤ c ∧ v10 = .int .i64 j ∧ Hid (ApSt w B b (.slice (some ⟨gl, ol, none⟩) L.length cap1) L wq L.length 0))
            case atStart => exact ⟨0, by omega, by omega, rfl, hst.out.drewN _⟩
            case round =>
              clear hst c0 cL
              obtain ⟨j, hj, hjc, rfl, hst⟩ := hrel
              by_cases hlt2 : j < c
              · obtain ⟨cs, hgc, hsz, hm⟩ := hst.out.marked i _ g c hq'.out rfl
                have ch : wr.cell? ⟨g, j, none⟩ = some (.int .u8 (markB i j)) := (cell_of_row wr g j cs _ _ hgc).trans (hm j hlt2 (.inl hlt))
                have hltI2 : (j : Int) < (c : Int) := by omega
                have h0I2 : (0 : Int) ≤ (j : Int) := by omega
                clear hgc hsz hm
                have hmk := Lib.hid (mark_any i j (by omega) (by omega))
                generalize markB i j = y at *
                have hyy : (y != y) = false := by simp
                go_wp2
                go_quiet (first | (go_at_call 15; refine Calls.quiet_of_same (hmk.out _)))
                go_wp2
                go_roundg (c - j)
                case rel => exact ⟨j + 1, by omega, by omega, by simp, hst.out.drewN _⟩
                case measure => omega
              · obtain rfl : j = c := by omega
                go_wp2
                go_roundg (L.length - i)
                case rel => exact ⟨i + 1, by omega, by omega, by simp, hst⟩
                case measure => omega
        · obtain rfl : i = L.length := by omega
          have hbel := Lib.hid hst.out.below
          clear hst
          go_wp2
          go_returns
          exact ⟨rfl, ((hbel.out.setCell (by simpa using hle) _).setCell (by simpa using hle) _).setCell (by simpa using hle) _⟩
end Go.Proofs.Ytaogndianciogaa.Mm
