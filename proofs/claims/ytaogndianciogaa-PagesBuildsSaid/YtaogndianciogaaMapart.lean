/- bulkheadbook.Book.Apart of api.Table. -/
import Derived.Test.YtaogndianciogaaMbook
import Derived.Test.YtaogndianciogaaMarkTL
import Derived.Test.YtaogndianciogaaQuietB
namespace Go.Proofs.Ytaogndianciogaa.Mm.Tb
open Go.RowKit
set_option linter.unusedVariables false
set_option linter.unusedSimpArgs false
theorem ap_start {w : World} {B b : Nat} {lv wv : Value} {L : List Kp} (h : BookSt w B b lv wv L) (hB : B ≤ w.heap.size) : ApG 55 42 24 512 mkTV w B b lv (L.map fun k => (k.v, k.n)) w 0 0 := by
  refine ⟨⟨_, h.cell⟩, ?_, hB, Below.refl _ _, fun _ _ _ _ _ _ => rfl, fun idx q g c hq he => ?_⟩
  · have := h.lists
    rw [List.length_map, List.map_map]
    exact this
  · rw [List.getElem?_map] at hq
    obtain ⟨k, hk, rfl⟩ : ∃ k, L[idx]? = some k ∧ (k.v, k.n) = q := by
      cases e : L[idx]? with
      | none => rw [e] at hq; cases hq
      | some k => rw [e] at hq; exact ⟨k, rfl, Option.some.inj hq⟩
    obtain ⟨h1, h2⟩ := (h.own k (List.mem_of_getElem? hk)).1
    dsimp only at he
    rcases h2 with ⟨e, _⟩ | ⟨g', cap, cur, e, hb, hg, hnc, hcm, hcs, _⟩
    · rw [he] at e; cases e
    · rw [he] at e; cases e
      exact ⟨cur, hg, hcs, fun j _ h => by rcases h with h | ⟨_, h⟩ <;> omega⟩
set_option maxHeartbeats 4000000 in
set_option maxRecDepth 100000 in
theorem apart_any (B b : Nat) (lv wv : Value) (L : List Kp) (w : World) (hs : BookSt w B b lv wv L) (hL : L.length ≤ 4000) (hB : B ≤ w.heap.size) :
    Calls Try.prog 22 #[.pointer (some ⟨b, 0, none⟩), .func (.func 23) #[] #[]] w
      (fun e w' => e = .returned (.bool true) ∧ Below B w w' ∧ ∀ (k : Nat) (cs : Array Value) (U : TypeId), w.heap[k]? = some (.cells cs U (0, 0)) → U ≠ 55 → U ≠ 24 → w'.heap[k]? = w.heap[k]?) := by
  have hstay := Lib.hid (stays_any B b lv wv L w hs hL)
  have htwo : Hid ((L.map fun k => (k.v, k.n)).Pairwise (fun p q => ∀ g, p.1.ownBlock = some g → q.1.ownBlock ≠ some g)) := by
    show List.Pairwise _ _
    rw [List.pairwise_map]
    exact hs.two
  have hgB : Hid (∀ q ∈ (L.map fun k => (k.v, k.n)), ∀ g, q.1.ownBlock = some g → B ≤ g) := by
    intro q hq g e
    obtain ⟨k, hk, rfl⟩ := List.mem_map.1 hq
    exact ((hs.own k hk).1.lt g e).1
  have hform : Hid (∀ q ∈ (L.map fun k => (k.v, k.n)), (q.1 = .slice none 0 0 ∧ q.2 = 0) ∨ ∃ g c, q.1 = .slice (some ⟨g, 0, none⟩) q.2 c ∧ q.2 ≤ c ∧ c ≤ 9223372036854775807) := by
    intro q hq
    obtain ⟨k, hk, rfl⟩ := List.mem_map.1 hq
    rcases (hs.own k hk).1.2 with h | ⟨g, cap, cur, e, hb, hg, hnc, hcm, _⟩
    · exact .inl h
    · exact .inr ⟨g, cap, e, hnc, by unfold maxLen at hcm; omega⟩
  have hle := hs.le
  have hst := Lib.hid (ap_start hs hB)
  have hlen : (L.map fun k => (k.v, k.n)).length = L.length := List.length_map _
  obtain ⟨A1, cap1, rfl⟩ : ∃ A c, lv = .slice A L.length c := by
    rcases hs.lists.2 with ⟨e, h0⟩ | ⟨g, off, cap, cur, e, _⟩
    · exact ⟨_, _, by rw [e, h0]⟩
    · exact ⟨_, _, e⟩
  rw [← hlen] at hst hL
  clear hs hlen
  generalize (L.map fun k => (k.v, k.n)) = L' at *
  clear L
  have hml : Hid (∀ i j, (mkTV i j).length = 512) := mkTV_len
  have hmo : Hid (∀ i j, ∀ u ∈ mkTV i j, u.oneCell' = true) := fun i j => u64_one
  have hne : Hid (∀ i j W, (binOp .neq 24 (.agg (mkTV i j).toArray) (.agg (mkTV i j).toArray)).run Try.prog W = .ok (.bool false) W) := fun i j W => by
    have h := tab_neq (mkT i j) (mkT i j) (mkT_len _ _) (mkT_len _ _) W
    rwa [decide_eq_true rfl] at h
  go_enter Try.func22, Try.ntmps22
  go_wp2_with fail
  refine hstay.out.mono ?_
  rintro en w1 ⟨rfl, j0, rfl⟩
  have hst1 := Lib.hid (hst.out.drewN j0)
  clear hst hstay
  generalize w.drewN j0 = w1 at *
  go_wp2
  go_loopg [5] (L'.length + 1) (fun g1 v5 wr => ∃ i : Nat, i + g1 = L'.length + 1 ∧ i ≤ L'.length ∧ v5 = .int .i64 i ∧ Hid (ApG 55 42 24 512 mkTV w B b (.slice A1 L'.length cap1) L' wr i 0))
  case atStart => exact ⟨0, by omega, by omega, rfl, hst1⟩
  case round =>
    clear hst1
    clear w1
    obtain ⟨i, hk, hi, rfl, hst⟩ := hrel
    obtain ⟨wv1, held1, hg1⟩ := hst.out.cell
    have c0 : wr.cell? ⟨b, 0, none⟩ = some (.slice A1 L'.length cap1) := cell_of_row wr b 0 _ _ _ hg1
    clear hg1
    by_cases hlt : i < L'.length
    · have hq : L'[i]? = some (L'[i]'hlt) := List.getElem?_eq_getElem _
      generalize L'[i]'hlt = q at hq
      obtain ⟨qv, qn⟩ := q
      have hq' := Lib.hid hq
      obtain ⟨gl, ol, cl, hlE, _, hcl0, hcl1, cL⟩ := hst.out.lists.cell (i := i) (x := qv) (by simp [hq])
      cases hlE
      have hltI : (i : Int) < (L'.length : Int) := by omega
      have h0I : (0 : Int) ≤ (i : Int) := by omega
      rcases hform.out _ (List.mem_of_getElem? hq) with ⟨e, e0⟩ | ⟨g, c, e, hnc, hcm⟩
      · dsimp only at e e0
        subst e e0
        clear hq hcl1
        go_wp2
        go_quiet (fail)
        go_wp2
        go_loopg [7] 1 (fun g2 v7 wq => g2 = 1 ∧ v7 = .int .i64 0 ∧ Hid (ApG 55 42 24 512 mkTV w B b (.slice (some ⟨gl, ol, none⟩) L'.length cap1) L' wq i 0))
        case atStart => exact ⟨rfl, rfl, hst.out.drewN _⟩
        case round =>
          obtain ⟨hg2, rfl, hst2⟩ := hrel
          have hst3 : Hid (ApG 55 42 24 512 mkTV w B b (.slice (some ⟨gl, ol, none⟩) L'.length cap1) L' wr i 0) := hst2
          have hnext := Lib.hid (hst3.out.next (fun q g c hq2 he2 => by
            have := Option.some.inj (hq'.out.symm.trans hq2)
            subst this; cases he2))
          clear hst2 hst3 hst c0 cL
          go_wp2
          go_roundg (L'.length - i)
          case rel => exact ⟨i + 1, by omega, by omega, by simp, hnext⟩
          case measure => omega
      · dsimp only at e hnc
        subst e
        have hBg : B ≤ g := hgB.out _ (List.mem_of_getElem? hq) g rfl
        clear hq hcl1
        go_wp2
        go_quiet (fail)
        go_wp2
        go_loopg [7] (c + 1) (fun g2 v7 wq => ∃ j : Nat, j + g2 = c + 1 ∧ j ≤ c ∧ v7 = .int .i64 j ∧ Hid (ApG 55 42 24 512 mkTV w B b (.slice (some ⟨gl, ol, none⟩) L'.length cap1) L' wq i j))
        case atStart => exact ⟨0, by omega, by omega, rfl, hst.out.drewN _⟩
        case round =>
          clear hst c0 cL
          obtain ⟨j, hj, hjc, rfl, hst⟩ := hrel
          by_cases hlt2 : j < c
          · have hltI2 : (j : Int) < (c : Int) := by omega
            have h0I2 : (0 : Int) ≤ (j : Int) := by omega
            go_wp2_with fail
            refine (tmark_any i j (by omega) (by omega) wr).mono ?_
            rintro en w2 ⟨rfl, hb2⟩
            have hst2 := Lib.hid (hst.out.keep hb2)
            have hthere := Lib.hid (hst2.out.there hq'.out rfl hlt2)
            have hstep : Hid (ApG 55 42 24 512 mkTV w B b (.slice (some ⟨gl, ol, none⟩) L'.length cap1) L' (w2.setCells g (j * 512) (mkTV i j).toArray.toList) i (j + 1)) := hst2.out.step (by decide) (by decide) htwo.out hq'.out rfl hBg hlt2 (hml.out i j)
            have hins : Hid ((Try.prog.info? 24).map (·.size) = some (mkTV i j).toArray.size) := by show _ = _; rw [List.size_toArray, hml.out]; kernel_rfl
            have hsz : (mkTV i j).toArray.size = 512 := by rw [List.size_toArray, hml.out]
            have hone : Hid ((mkTV i j).toArray.all (·.oneCell') = true) := all_oneCell_toArray (hmo.out i j)
            have hth : Hid (w2.there g (j * 512) (mkTV i j).toArray.size) := by show World.there _ _ _ _; rw [hsz]; exact hthere.out
            clear hst hst2 hb2 hsz hthere
            skip
            generalize (mkTV i j).toArray = M at *
            go_wp2_with (refine wpList_store_mid rfl 24 (.tmp 51) (.tmp 50) rfl g (j * 512) M rfl rfl hth.out hins.out hone.out ?_)
            go_roundg (c - j)
            case rel => exact ⟨j + 1, by omega, by omega, by simp, hstep⟩
            case measure => omega
          · obtain rfl : j = c := by omega
            have hnext := Lib.hid (hst.out.next (fun q g' c' hq2 he2 => by
              have := Option.some.inj (hq'.out.symm.trans hq2)
              subst this; cases he2; rfl))
            clear hst
            go_wp2
            go_roundg (L'.length - i)
            case rel => exact ⟨i + 1, by omega, by omega, by simp, hnext⟩
            case measure => omega
    · obtain rfl : i = L'.length := by omega
      go_wp2
      go_loopg [8] (L'.length + 1) (fun g1 v8 wr => ∃ i : Nat, i + g1 = L'.length + 1 ∧ i ≤ L'.length ∧ v8 = .int .i64 i ∧ Hid (ApG 55 42 24 512 mkTV w B b (.slice A1 L'.length cap1) L' wr L'.length 0))
      case atStart => exact ⟨0, by omega, by omega, rfl, hst⟩
      case round =>
        clear c0 hst
        obtain ⟨i, hk, hi, rfl, hst⟩ := hrel
        obtain ⟨wv1, held1, hg1⟩ := hst.out.cell
        have c0 : wr.cell? ⟨b, 0, none⟩ = some (.slice A1 L'.length cap1) := cell_of_row wr b 0 _ _ _ hg1
        have c1 : wr.cell? ⟨b, 1, none⟩ = some wv1 := cell_of_row wr b 1 _ _ _ hg1
        have c2 : wr.cell? ⟨b, 2, none⟩ = some (.int .i64 held1) := cell_of_row wr b 2 _ _ _ hg1
        have f0 : wr.frozen? ⟨b, 0, none⟩ = false := frozen_of_block hg1
        have f1 : wr.frozen? ⟨b, 1, none⟩ = false := frozen_of_block hg1
        have f2 : wr.frozen? ⟨b, 2, none⟩ = false := frozen_of_block hg1
        clear hg1
        by_cases hlt : i < L'.length
        · have hq : L'[i]? = some (L'[i]'hlt) := List.getElem?_eq_getElem _
          generalize L'[i]'hlt = q at hq
          obtain ⟨qv, qn⟩ := q
          have hq' := Lib.hid hq
          obtain ⟨gl, ol, cl, hlE, _, hcl0, hcl1, cL⟩ := hst.out.lists.cell (i := i) (x := qv) (by simp [hq])
          cases hlE
          have hltI : (i : Int) < (L'.length : Int) := by omega
          have h0I : (0 : Int) ≤ (i : Int) := by omega
          clear c1 c2 f0 f1 f2
          rcases hform.out _ (List.mem_of_getElem? hq) with ⟨e, e0⟩ | ⟨g, c, e, hnc, hcm⟩
          · dsimp only at e e0
            subst e e0
            clear hq hcl1
            go_wp2
            go_quiet (fail)
            go_wp2
            go_loopg [10] 1 (fun g2 v10 wq => g2 = 1 ∧ v10 = .int .i64 0 ∧ Hid (ApG 55 42 24 512 mkTV w B b (.slice (some ⟨gl, ol, none⟩) L'.length cap1) L' wq L'.length 0))
            case atStart => exact ⟨rfl, rfl, hst.out.drewN _⟩
            case round =>
              obtain ⟨hg2, rfl, hst2⟩ := hrel
              have hst3 : Hid (ApG 55 42 24 512 mkTV w B b (.slice (some ⟨gl, ol, none⟩) L'.length cap1) L' wr L'.length 0) := hst2
              clear hst2 hst c0 cL
              go_wp2
              go_roundg (L'.length - i)
              case rel => exact ⟨i + 1, by omega, by omega, by simp, hst3⟩
              case measure => omega
          · dsimp only at e hnc
            subst e
            clear hq hcl1
            go_wp2
            go_quiet (fail)
            go_wp2
            go_loopg [10] (c + 1) (fun g2 v10 wq => ∃ j : Nat, j + g2 = c + 1 ∧ j ≤ c ∧ v10 = .int .i64 j ∧ Hid (ApG 55 42 24 512 mkTV w B b (.slice (some ⟨gl, ol, none⟩) L'.length cap1) L' wq L'.length 0))
            case atStart => exact ⟨0, by omega, by omega, rfl, hst.out.drewN _⟩
            case round =>
              clear hst c0 cL
              obtain ⟨j, hj, hjc, rfl, hst⟩ := hrel
              by_cases hlt2 : j < c
              · have hltI2 : (j : Int) < (c : Int) := by omega
                have h0I2 : (0 : Int) ≤ (j : Int) := by omega
                have hrg := hst.out.range hq'.out rfl hlt2 hlt (hml.out i j)
                have hmk : Hid (∀ W, Calls Try.prog 23 #[.int .i64 i, .int .i64 j] W (fun e w' => e = .returned (.agg (mkTV i j).toArray) ∧ Below W.heap.size W w')) := fun W => tmark_any i j (by omega) (by omega) W
                have hgq : g < wr.heap.size := by
                  obtain ⟨cs9, hg9, _⟩ := hst.out.marked i _ g c hq'.out rfl
                  exact lt_of_block hg9
                have hneq := hne.out i j
                have hguard := tab_guard
                have hund := Lib.hid Try.underlying24
                have hrB : Hid (∀ W, (∃ s : BW wr, W = s.W) → W.rangeAt g (j * 512) (mkTV i j)) := by
                  rintro W ⟨s, rfl⟩ o u hu
                  exact s.cell (hrg o u hu) hgq
                have hins : Hid ((Try.prog.info? 24).map (·.size) = some (mkTV i j).length) := by show _ = _; rw [hml.out]; kernel_rfl
                clear hrg
                generalize mkTV i j = M at *
                go_wp2
                refine wp_region_below (by kernel_rfl) (by kernel_rfl) ?_
                repeat (quiet_step (fail))
                refine wpQuiet_step (fun K hK => ?_)
                rw [if_pos (by rfl)]
                refine quiet_load_mid _ _ rfl g (j * 512) rfl _ _ hrB.out hund.out rfl hins.out (hK _ ?_)
                clear hK K
                (try simp only [Act.put, List.setIfInBounds_toArray, List.set_cons_zero, List.set_cons_succ])
                repeat (go_big_quiet_step (first
                  | (go_at_call 23; refine (hmk.out _).mono ?_; rintro e W' ⟨he, hb⟩; exact ⟨he, BW.next _ hb⟩)))
                refine wpQuiet_nil ?_
                intro _ hwX
                obtain ⟨sX, hwX⟩ := hwX
                subst hwX
                have hbX := sX.h
                generalize sX.W = wX at *
                clear sX
                go_wp2
                go_roundg (c - j)
                case rel => exact ⟨j + 1, by omega, by omega, by simp, hst.out.keep hbX⟩
                case measure => omega
              · obtain rfl : j = c := by omega
                go_wp2
                go_roundg (L'.length - i)
                case rel => exact ⟨i + 1, by omega, by omega, by simp, hst⟩
                case measure => omega
        · obtain rfl : i = L'.length := by omega
          have hbel := Lib.hid hst.out.below
          have hfar : Hid (∀ (k : Nat) (cs : Array Value) (U : TypeId), w.heap[k]? = some (.cells cs U (0, 0)) → U ≠ 55 → U ≠ 24 → wr.heap[k]? = w.heap[k]? ∧ k ≠ b) := fun k cs U hk u1 u2 => by
            refine ⟨hst.out.far k cs U hk u1 u2, ?_⟩
            rintro rfl
            obtain ⟨wv9, held9, hg9⟩ := hst.out.cell
            have := (hst.out.far k cs U hk u1 u2).trans hk
            rw [this] at hg9; cases hg9; exact u1 rfl
          clear hst
          go_wp2
          go_returns
          exact ⟨rfl, ((hbel.out.setCell (by simpa using hle) _).setCell (by simpa using hle) _).setCell (by simpa using hle) _, fun k cs U hk u1 u2 => (setCell_far (hfar.out k cs U hk u1 u2).2 _).trans ((setCell_far (hfar.out k cs U hk u1 u2).2 _).trans ((setCell_far (hfar.out k cs U hk u1 u2).2 _).trans (hfar.out k cs U hk u1 u2).1))⟩
end Go.Proofs.Ytaogndianciogaa.Mm.Tb
/- bulkheadbook.Book.Apart of api.Leaf. -/
namespace Go.Proofs.Ytaogndianciogaa.Mm.Lv
open Go.RowKit
set_option linter.unusedVariables false
set_option linter.unusedSimpArgs false
theorem ap_start {w : World} {B b : Nat} {lv wv : Value} {L : List Kp} (h : BookSt w B b lv wv L) (hB : B ≤ w.heap.size) : ApG 59 48 47 6 mkLV w B b lv (L.map fun k => (k.v, k.n)) w 0 0 := by
  refine ⟨⟨_, h.cell⟩, ?_, hB, Below.refl _ _, fun _ _ _ _ _ _ => rfl, fun idx q g c hq he => ?_⟩
  · have := h.lists
    rw [List.length_map, List.map_map]
    exact this
  · rw [List.getElem?_map] at hq
    obtain ⟨k, hk, rfl⟩ : ∃ k, L[idx]? = some k ∧ (k.v, k.n) = q := by
      cases e : L[idx]? with
      | none => rw [e] at hq; cases hq
      | some k => rw [e] at hq; exact ⟨k, rfl, Option.some.inj hq⟩
    obtain ⟨h1, h2⟩ := (h.own k (List.mem_of_getElem? hk)).1
    dsimp only at he
    rcases h2 with ⟨e, _⟩ | ⟨g', cap, cur, e, hb, hg, hnc, hcm, hcs, _⟩
    · rw [he] at e; cases e
    · rw [he] at e; cases e
      exact ⟨cur, hg, hcs, fun j _ h => by rcases h with h | ⟨_, h⟩ <;> omega⟩
set_option maxHeartbeats 4000000 in
set_option maxRecDepth 100000 in
theorem apart_any (B b : Nat) (lv wv : Value) (L : List Kp) (w : World) (hs : BookSt w B b lv wv L) (hL : L.length ≤ 4000) (hB : B ≤ w.heap.size) :
    Calls Try.prog 24 #[.pointer (some ⟨b, 0, none⟩), .func (.func 25) #[] #[]] w
      (fun e w' => e = .returned (.bool true) ∧ Below B w w' ∧ ∀ (k : Nat) (cs : Array Value) (U : TypeId), w.heap[k]? = some (.cells cs U (0, 0)) → U ≠ 59 → U ≠ 47 → w'.heap[k]? = w.heap[k]?) := by
  have hstay := Lib.hid (stays_any B b lv wv L w hs hL)
  have htwo : Hid ((L.map fun k => (k.v, k.n)).Pairwise (fun p q => ∀ g, p.1.ownBlock = some g → q.1.ownBlock ≠ some g)) := by
    show List.Pairwise _ _
    rw [List.pairwise_map]
    exact hs.two
  have hgB : Hid (∀ q ∈ (L.map fun k => (k.v, k.n)), ∀ g, q.1.ownBlock = some g → B ≤ g) := by
    intro q hq g e
    obtain ⟨k, hk, rfl⟩ := List.mem_map.1 hq
    exact ((hs.own k hk).1.lt g e).1
  have hform : Hid (∀ q ∈ (L.map fun k => (k.v, k.n)), (q.1 = .slice none 0 0 ∧ q.2 = 0) ∨ ∃ g c, q.1 = .slice (some ⟨g, 0, none⟩) q.2 c ∧ q.2 ≤ c ∧ c ≤ 9223372036854775807) := by
    intro q hq
    obtain ⟨k, hk, rfl⟩ := List.mem_map.1 hq
    rcases (hs.own k hk).1.2 with h | ⟨g, cap, cur, e, hb, hg, hnc, hcm, _⟩
    · exact .inl h
    · exact .inr ⟨g, cap, e, hnc, by unfold maxLen at hcm; omega⟩
  have hle := hs.le
  have hst := Lib.hid (ap_start hs hB)
  have hlen : (L.map fun k => (k.v, k.n)).length = L.length := List.length_map _
  obtain ⟨A1, cap1, rfl⟩ : ∃ A c, lv = .slice A L.length c := by
    rcases hs.lists.2 with ⟨e, h0⟩ | ⟨g, off, cap, cur, e, _⟩
    · exact ⟨_, _, by rw [e, h0]⟩
    · exact ⟨_, _, e⟩
  rw [← hlen] at hst hL
  clear hs hlen
  generalize (L.map fun k => (k.v, k.n)) = L' at *
  clear L
  have hml : Hid (∀ i j, (mkLV i j).length = 6) := fun _ _ => rfl
  have hmo : Hid (∀ i j, ∀ u ∈ mkLV i j, u.oneCell' = true) := fun i j => by
    have := lfV_oneCell [mkLf i]
    rwa [lfV_one] at this
  have hne : Hid (∀ i W, (binOp .neq 47 (mkLf i).val (mkLf i).val).run Try.prog W = .ok (.bool false) W) := fun i W => by
    have h := neqLf (mkLf i) (mkLf i) W
    rwa [decide_eq_true rfl] at h
  go_enter Try.func24, Try.ntmps24
  go_wp2_with fail
  refine hstay.out.mono ?_
  rintro en w1 ⟨rfl, j0, rfl⟩
  have hst1 := Lib.hid (hst.out.drewN j0)
  clear hst hstay
  generalize w.drewN j0 = w1 at *
  go_wp2
  go_loopg [5] (L'.length + 1) (fun g1 v5 wr => ∃ i : Nat, i + g1 = L'.length + 1 ∧ i ≤ L'.length ∧ v5 = .int .i64 i ∧ Hid (ApG 59 48 47 6 mkLV w B b (.slice A1 L'.length cap1) L' wr i 0))
  case atStart => exact ⟨0, by omega, by omega, rfl, hst1⟩
  case round =>
    clear hst1
    clear w1
    obtain ⟨i, hk, hi, rfl, hst⟩ := hrel
    obtain ⟨wv1, held1, hg1⟩ := hst.out.cell
    have c0 : wr.cell? ⟨b, 0, none⟩ = some (.slice A1 L'.length cap1) := cell_of_row wr b 0 _ _ _ hg1
    clear hg1
    by_cases hlt : i < L'.length
    · have hq : L'[i]? = some (L'[i]'hlt) := List.getElem?_eq_getElem _
      generalize L'[i]'hlt = q at hq
      obtain ⟨qv, qn⟩ := q
      have hq' := Lib.hid hq
      obtain ⟨gl, ol, cl, hlE, _, hcl0, hcl1, cL⟩ := hst.out.lists.cell (i := i) (x := qv) (by simp [hq])
      cases hlE
      have hltI : (i : Int) < (L'.length : Int) := by omega
      have h0I : (0 : Int) ≤ (i : Int) := by omega
      rcases hform.out _ (List.mem_of_getElem? hq) with ⟨e, e0⟩ | ⟨g, c, e, hnc, hcm⟩
      · dsimp only at e e0
        subst e e0
        clear hq hcl1
        go_wp2
        go_quiet (fail)
        go_wp2
        go_loopg [7] 1 (fun g2 v7 wq => g2 = 1 ∧ v7 = .int .i64 0 ∧ Hid (ApG 59 48 47 6 mkLV w B b (.slice (some ⟨gl, ol, none⟩) L'.length cap1) L' wq i 0))
        case atStart => exact ⟨rfl, rfl, hst.out.drewN _⟩
        case round =>
          obtain ⟨hg2, rfl, hst2⟩ := hrel
          have hst3 : Hid (ApG 59 48 47 6 mkLV w B b (.slice (some ⟨gl, ol, none⟩) L'.length cap1) L' wr i 0) := hst2
          have hnext := Lib.hid (hst3.out.next (fun q g c hq2 he2 => by
            have := Option.some.inj (hq'.out.symm.trans hq2)
            subst this; cases he2))
          clear hst2 hst3 hst c0 cL
          go_wp2
          go_roundg (L'.length - i)
          case rel => exact ⟨i + 1, by omega, by omega, by simp, hnext⟩
          case measure => omega
      · dsimp only at e hnc
        subst e
        have hBg : B ≤ g := hgB.out _ (List.mem_of_getElem? hq) g rfl
        clear hq hcl1
        go_wp2
        go_quiet (fail)
        go_wp2
        go_loopg [7] (c + 1) (fun g2 v7 wq => ∃ j : Nat, j + g2 = c + 1 ∧ j ≤ c ∧ v7 = .int .i64 j ∧ Hid (ApG 59 48 47 6 mkLV w B b (.slice (some ⟨gl, ol, none⟩) L'.length cap1) L' wq i j))
        case atStart => exact ⟨0, by omega, by omega, rfl, hst.out.drewN _⟩
        case round =>
          clear hst c0 cL
          obtain ⟨j, hj, hjc, rfl, hst⟩ := hrel
          by_cases hlt2 : j < c
          · have hltI2 : (j : Int) < (c : Int) := by omega
            have h0I2 : (0 : Int) ≤ (j : Int) := by omega
            go_wp2_with fail
            refine ((show Calls Try.prog 25 #[.int .i64 i, .int .i64 j] wr (fun e w' => e = .returned (.agg (mkLV i j).toArray) ∧ Below wr.heap.size wr w') from lmark_any i j (by omega) wr)).mono ?_
            rintro en w2 ⟨rfl, hb2⟩
            have hst2 := Lib.hid (hst.out.keep hb2)
            have hthere := Lib.hid (hst2.out.there hq'.out rfl hlt2)
            have hstep : Hid (ApG 59 48 47 6 mkLV w B b (.slice (some ⟨gl, ol, none⟩) L'.length cap1) L' (w2.setCells g (j * 6) (mkLV i j).toArray.toList) i (j + 1)) := hst2.out.step (by decide) (by decide) htwo.out hq'.out rfl hBg hlt2 (hml.out i j)
            have hins : Hid ((Try.prog.info? 47).map (·.size) = some (mkLV i j).toArray.size) := by show _ = _; rw [List.size_toArray, hml.out]; kernel_rfl
            have hsz : (mkLV i j).toArray.size = 6 := by rw [List.size_toArray, hml.out]
            have hone : Hid ((mkLV i j).toArray.all (·.oneCell') = true) := all_oneCell_toArray (hmo.out i j)
            have hth : Hid (w2.there g (j * 6) (mkLV i j).toArray.size) := by show World.there _ _ _ _; rw [hsz]; exact hthere.out
            clear hst hst2 hb2 hsz hthere
            skip
            generalize (mkLV i j).toArray = M at *
            go_wp2_with (refine wpList_store_mid rfl 47 (.tmp 51) (.tmp 50) rfl g (j * 6) M rfl rfl hth.out hins.out hone.out ?_)
            go_roundg (c - j)
            case rel => exact ⟨j + 1, by omega, by omega, by simp, hstep⟩
            case measure => omega
          · obtain rfl : j = c := by omega
            have hnext := Lib.hid (hst.out.next (fun q g' c' hq2 he2 => by
              have := Option.some.inj (hq'.out.symm.trans hq2)
              subst this; cases he2; rfl))
            clear hst
            go_wp2
            go_roundg (L'.length - i)
            case rel => exact ⟨i + 1, by omega, by omega, by simp, hnext⟩
            case measure => omega
    · obtain rfl : i = L'.length := by omega
      go_wp2
      go_loopg [8] (L'.length + 1) (fun g1 v8 wr => ∃ i : Nat, i + g1 = L'.length + 1 ∧ i ≤ L'.length ∧ v8 = .int .i64 i ∧ Hid (ApG 59 48 47 6 mkLV w B b (.slice A1 L'.length cap1) L' wr L'.length 0))
      case atStart => exact ⟨0, by omega, by omega, rfl, hst⟩
      case round =>
        clear c0 hst
        obtain ⟨i, hk, hi, rfl, hst⟩ := hrel
        obtain ⟨wv1, held1, hg1⟩ := hst.out.cell
        have c0 : wr.cell? ⟨b, 0, none⟩ = some (.slice A1 L'.length cap1) := cell_of_row wr b 0 _ _ _ hg1
        have c1 : wr.cell? ⟨b, 1, none⟩ = some wv1 := cell_of_row wr b 1 _ _ _ hg1
        have c2 : wr.cell? ⟨b, 2, none⟩ = some (.int .i64 held1) := cell_of_row wr b 2 _ _ _ hg1
        have f0 : wr.frozen? ⟨b, 0, none⟩ = false := frozen_of_block hg1
        have f1 : wr.frozen? ⟨b, 1, none⟩ = false := frozen_of_block hg1
        have f2 : wr.frozen? ⟨b, 2, none⟩ = false := frozen_of_block hg1
        clear hg1
        by_cases hlt : i < L'.length
        · have hq : L'[i]? = some (L'[i]'hlt) := List.getElem?_eq_getElem _
          generalize L'[i]'hlt = q at hq
          obtain ⟨qv, qn⟩ := q
          have hq' := Lib.hid hq
          obtain ⟨gl, ol, cl, hlE, _, hcl0, hcl1, cL⟩ := hst.out.lists.cell (i := i) (x := qv) (by simp [hq])
          cases hlE
          have hltI : (i : Int) < (L'.length : Int) := by omega
          have h0I : (0 : Int) ≤ (i : Int) := by omega
          clear c1 c2 f0 f1 f2
          rcases hform.out _ (List.mem_of_getElem? hq) with ⟨e, e0⟩ | ⟨g, c, e, hnc, hcm⟩
          · dsimp only at e e0
            subst e e0
            clear hq hcl1
            go_wp2
            go_quiet (fail)
            go_wp2
            go_loopg [10] 1 (fun g2 v10 wq => g2 = 1 ∧ v10 = .int .i64 0 ∧ Hid (ApG 59 48 47 6 mkLV w B b (.slice (some ⟨gl, ol, none⟩) L'.length cap1) L' wq L'.length 0))
            case atStart => exact ⟨rfl, rfl, hst.out.drewN _⟩
            case round =>
              obtain ⟨hg2, rfl, hst2⟩ := hrel
              have hst3 : Hid (ApG 59 48 47 6 mkLV w B b (.slice (some ⟨gl, ol, none⟩) L'.length cap1) L' wr L'.length 0) := hst2
              clear hst2 hst c0 cL
              go_wp2
              go_roundg (L'.length - i)
              case rel => exact ⟨i + 1, by omega, by omega, by simp, hst3⟩
              case measure => omega
          · dsimp only at e hnc
            subst e
            clear hq hcl1
            go_wp2
            go_quiet (fail)
            go_wp2
            go_loopg [10] (c + 1) (fun g2 v10 wq => ∃ j : Nat, j + g2 = c + 1 ∧ j ≤ c ∧ v10 = .int .i64 j ∧ Hid (ApG 59 48 47 6 mkLV w B b (.slice (some ⟨gl, ol, none⟩) L'.length cap1) L' wq L'.length 0))
            case atStart => exact ⟨0, by omega, by omega, rfl, hst.out.drewN _⟩
            case round =>
              clear hst c0 cL
              obtain ⟨j, hj, hjc, rfl, hst⟩ := hrel
              by_cases hlt2 : j < c
              · have hltI2 : (j : Int) < (c : Int) := by omega
                have h0I2 : (0 : Int) ≤ (j : Int) := by omega
                have hrg := hst.out.range hq'.out rfl hlt2 hlt (hml.out i j)
                have hmk : Hid (∀ W, Calls Try.prog 25 #[.int .i64 i, .int .i64 j] W (fun e w' => e = .returned (mkLf i).val ∧ Below W.heap.size W w')) := fun W => lmark_any i j (by omega) W
                have hgq : g < wr.heap.size := by
                  obtain ⟨cs9, hg9, _⟩ := hst.out.marked i _ g c hq'.out rfl
                  exact lt_of_block hg9
                have hneq := hne.out i
                have hguard := guardLf
                have q0 : ∀ s : BW wr, s.W.cell? ⟨g, j * 6, none⟩ = some (.int .u64 (mkLf i).virt) := fun s => s.cell (hrg 0 _ rfl) hgq
                have q1 : ∀ s : BW wr, s.W.cell? ⟨g, j * 6 + 1, none⟩ = some (.int .u64 (mkLf i).phys) := fun s => s.cell (hrg 1 _ rfl) hgq
                have q2 : ∀ s : BW wr, s.W.cell? ⟨g, j * 6 + 2, none⟩ = some (.int .i64 (mkLf i).pages) := fun s => s.cell (hrg 2 _ rfl) hgq
                have q3 : ∀ s : BW wr, s.W.cell? ⟨g, j * 6 + 3, none⟩ = some (.bool (mkLf i).big) := fun s => s.cell (hrg 3 _ rfl) hgq
                have q4 : ∀ s : BW wr, s.W.cell? ⟨g, j * 6 + 4, none⟩ = some (.bool (mkLf i).write) := fun s => s.cell (hrg 4 _ rfl) hgq
                have q5 : ∀ s : BW wr, s.W.cell? ⟨g, j * 6 + 5, none⟩ = some (.bool (mkLf i).exec) := fun s => s.cell (hrg 5 _ rfl) hgq
                clear hrg
                simp only [Lf.val] at hneq hmk
                generalize mkLf i = M at *
                go_wp2
                refine wp_region_below (by kernel_rfl) (by kernel_rfl) ?_
                repeat (go_big_quiet_step (first
                  | (go_at_call 25; refine (hmk.out _).mono ?_; rintro e W' ⟨he, hb⟩; exact ⟨he, BW.next _ hb⟩)))
                refine wpQuiet_nil ?_
                intro _ hwX
                obtain ⟨sX, hwX⟩ := hwX
                subst hwX
                have hbX := sX.h
                generalize sX.W = wX at *
                clear sX
                go_wp2
                go_roundg (c - j)
                case rel => exact ⟨j + 1, by omega, by omega, by simp, hst.out.keep hbX⟩
                case measure => omega
              · obtain rfl : j = c := by omega
                go_wp2
                go_roundg (L'.length - i)
                case rel => exact ⟨i + 1, by omega, by omega, by simp, hst⟩
                case measure => omega
        · obtain rfl : i = L'.length := by omega
          have hbel := Lib.hid hst.out.below
          have hfar : Hid (∀ (k : Nat) (cs : Array Value) (U : TypeId), w.heap[k]? = some (.cells cs U (0, 0)) → U ≠ 59 → U ≠ 47 → wr.heap[k]? = w.heap[k]? ∧ k ≠ b) := fun k cs U hk u1 u2 => by
            refine ⟨hst.out.far k cs U hk u1 u2, ?_⟩
            rintro rfl
            obtain ⟨wv9, held9, hg9⟩ := hst.out.cell
            have := (hst.out.far k cs U hk u1 u2).trans hk
            rw [this] at hg9; cases hg9; exact u1 rfl
          clear hst
          go_wp2
          go_returns
          exact ⟨rfl, ((hbel.out.setCell (by simpa using hle) _).setCell (by simpa using hle) _).setCell (by simpa using hle) _, fun k cs U hk u1 u2 => (setCell_far (hfar.out k cs U hk u1 u2).2 _).trans ((setCell_far (hfar.out k cs U hk u1 u2).2 _).trans ((setCell_far (hfar.out k cs U hk u1 u2).2 _).trans (hfar.out k cs U hk u1 u2).1))⟩
end Go.Proofs.Ytaogndianciogaa.Mm.Lv
