/- bulkheadbook.Book.Keep of api.Leaf. -/
import Derived.Test.YtaogndianciogaaMbook
import Derived.Deep.DeepCutAuto
import Derived.Deep.RegionLaw
import Derived.Deep.RegionWith
import Derived.Deep.RegionHeld3
namespace Go.Proofs.Ytaogndianciogaa.Mm.Lv
open Go.RowKit
set_option linter.unusedVariables false
set_option linter.unusedSimpArgs false
theorem infoBytes : (Try.prog.info? 48).map (fun i => (i.zero, i.size, i.bytes)) = some (some (.slice none 0 0), 1, 24) := by kernel_rfl
theorem own_keep {w w' : World} {B : Nat} {T : TypeId} {sz : Nat} {v : Value} {n : Nat} {xs : List Value} (h : w.ownsRow B T sz v n xs) (hk : ∀ (g : Nat) (cs : Array Value), w.heap[g]? = some (Obj.cells cs T (0, 0)) → w'.heap[g]? = w.heap[g]?) : w'.ownsRow B T sz v n xs := by
  refine ⟨h.1, ?_⟩
  rcases h.2 with r | ⟨g, cap, cur, e, hb, hg, r⟩
  · exact .inl r
  · exact .inr ⟨g, cap, cur, e, hb, (hk g cur hg).trans hg, r⟩
set_option maxHeartbeats 8000000 in
set_option maxRecDepth 100000 in
theorem keep_any (B b : Nat) (lv wv v : Value) (L : List Kp) (n : Nat) (xs : List Lf) (w : World) (hs : BookSt w B b lv wv L) (hL : L.length ≤ 4000)
    (hv : w.ownsRow B 47 6 v n (lfV xs)) (hn : n ≤ 30000000) (hd : ∀ q ∈ L, ∀ g, v.ownBlock = some g → q.v.ownBlock ≠ some g) (hB : B ≤ w.heap.size) :
    Calls Try.prog 43 #[.pointer (some ⟨b, 0, none⟩), v] w
      (fun e w' => e = .returned (.tuple #[]) ∧ ∃ lv' wv' L', BookSt w' B b lv' wv' L' ∧ L'.length ≤ 4000 ∧ Fr w.heap.size (BkS b lv wv) w w') := by
  obtain ⟨iS, hiS, hzS, hsS, hbS⟩ := info_parts infoBytes
  obtain ⟨i0, hi0, hz0, hz1, hz2⟩ := info_parts infoLf
  obtain ⟨A, cp, hve, hcp⟩ : ∃ A cp, v = .slice A n cp ∧ cp ≤ 9223372036854775807 := by
    obtain ⟨_, A, c, e, _, hm, _⟩ := RdC.of_own hv
    exact ⟨A, c, e, by unfold maxLen at hm; omega⟩
  have hnil : v.ownBlock = none → v = .slice none 0 0 := by
    intro e
    rcases hv.2 with r | ⟨g, cap, cur, e2, _⟩
    · exact r.1
    · rw [e2] at e; cases e
  obtain ⟨held, hg⟩ := hs.cell
  have c0 : w.cell? ⟨b, 0, none⟩ = some lv := cell_of_row w b 0 _ _ _ hg
  have c1 : w.cell? ⟨b, 1, none⟩ = some wv := cell_of_row w b 1 _ _ _ hg
  have hlt := lt_of_block hg
  have hs' := Lib.hid hs
  have hv' := Lib.hid hv
  have hg' := Lib.hid hg
  have hd' := Lib.hid hd
  have hnil' := Lib.hid hnil
  have hve' := Lib.hid hve
  clear hs hv hg hd hnil
  subst hve
  go_enter Try.func43, Try.ntmps43
  go_wp2_with (refine wpList_append_one rfl (.tmp 8) (.tmp 10) 57 rfl 48 iS (.slice none 0 0) 24 Try.underlying57 hiS hzS hsS hbS rfl B lv L.length (L.map Kp.v) rfl (hs'.out.lists.keep fun g _ hg => Below.heap_alloc _ _ _ (by omega)) ⟨w.heap.size, 0, none⟩ 1 (.slice A n cp) rfl (cell_one_new w (.slice A n cp) 48 0 _ rfl) rfl (by unfold maxLen; omega) (by omega) (by simp; omega) ?_
               intro g1 off1 cap1 w1 hrow1' hfr1' hat1'
               have hrow1 := Lib.hid hrow1'
               have hfr1 : Hid (Fr w.heap.size (fun k => lv.ownBlock = some k) w w1) := ((Fr.refl _ _ w).alloc (Nat.le_refl _) _).trans (hfr1'.mono (by simp) (fun _ _ h => h))
               have hat1 : Hid (lv.ownBlock = some g1 ∨ w.heap.size < g1) := hat1'.imp id (fun h => by simp at h; omega)
               clear hrow1' hfr1' hat1'
               have hb1 : w1.heap[b]? = some (.cells #[lv, wv, .int .i64 held, .bool false] 59 (0, 0)) := (hfr1.out.block b hlt hs'.out.lists_ne).trans hg'.out
               have d0 : w1.cell? ⟨b, 0, none⟩ = some lv := cell_of_row w1 b 0 _ _ _ hb1
               have d1 : w1.frozen? ⟨b, 0, none⟩ = false := frozen_of_block hb1
               have hb1' := Lib.hid hb1
               clear hb1)
  have hb2 := Lib.hid (setCell_block hb1'.out (i := 0) (.slice (some ⟨g1, off1, none⟩) (L.length + 1) cap1))
  have hfr2 : Hid (Fr w.heap.size (fun k => k = b ∨ lv.ownBlock = some k) w (w1.setCell ⟨b, 0, none⟩ (.slice (some ⟨g1, off1, none⟩) (L.length + 1) cap1))) :=
    (hfr1.out.mono (Nat.le_refl _) (fun _ _ h => .inr h)).setCell (.inr (.inl rfl)) _
  have hne1 : Hid (g1 ≠ b) := by
    rintro rfl
    rcases hat1.out with h | h
    · exact hs'.out.lists_ne h
    · omega
  have hrow2 : Hid (RowO (w1.setCell ⟨b, 0, none⟩ (.slice (some ⟨g1, off1, none⟩) (L.length + 1) cap1)) B 48 (.slice (some ⟨g1, off1, none⟩) (L.length + 1) cap1) (L.length + 1) (L.map Kp.v ++ [.slice A n cp])) :=
    hrow1.out.keep fun g e _ => setCell_far (by cases e; exact hne1.out) _
  have hlt1 : Hid (g1 < (w1.setCell ⟨b, 0, none⟩ (.slice (some ⟨g1, off1, none⟩) (L.length + 1) cap1)).heap.size) := (hrow2.out.lt rfl).2
  have hlt2 : b < (w1.setCell ⟨b, 0, none⟩ (.slice (some ⟨g1, off1, none⟩) (L.length + 1) cap1)).heap.size := lt_of_block hb2.out
  clear d0 d1 c0 c1 hrow1 hfr1 hb1'
  generalize w1.setCell ⟨b, 0, none⟩ (.slice (some ⟨g1, off1, none⟩) (L.length + 1) cap1) = w2 at *
  have e1 : w2.cell? ⟨b, 1, none⟩ = some wv := cell_of_row w2 b 1 _ _ _ hb2.out
  have hrd2 : Hid (RdC w2 47 6 (.slice A n cp) n (lfV xs)) := (RdC.of_own hv'.out).keep fun g cs hg => hfr2.out.block g (lt_of_block hg) (fun e => hs'.out.far hg (by decide) (by decide) (e.imp id .inl))
  have hwas2 : Hid (RowO w2 B 48 wv L.length (L.map Kp.u)) := hs'.out.was.keep fun g e hg => hfr2.out.block g hg (by
    rintro (rfl | e2)
    · exact hs'.out.was_ne e
    · exact hs'.out.apart g e2 e)
  have hsz2 : w.heap.size ≤ w2.heap.size := hfr2.out.size
  go_cut [] (fun wc => ∃ lv1 wv1 L1, Hid (BookSt wc B b lv1 wv1 L1) ∧ Hid (L1.length = L.length + 1) ∧ Hid (Fr w.heap.size (BkS b lv wv) w wc))
  case first =>
    go_region_law
      (first
        | (refine step_append_nil_copy (by rfl) _ _ _ (by rfl) 47 i0 _ 6 32 Try.underlying48 hi0 hz0 hz1 hz2 rfl (by omega) (.slice A n cp) n (lfV xs) (by rfl) (by rfl) hrd2.out (lfV_oneCell xs) (by omega) hnil'.out ?_
           intro u w3 hown3' hbl3'
           obtain ⟨A2, c2, rfl⟩ : ∃ A2 c2, u = .slice A2 n c2 := ⟨_, _, (RdC.of_own hown3').2.choose_spec.choose_spec.1⟩
           have hown3 := Lib.hid hown3'
           have hbl3 : Hid (Below w2.heap.size w2 w3) := (Below.drew (Below.refl w2.heap.size w2)).trans hbl3'
           clear hown3' hbl3'
           have hsz3 : w2.heap.size ≤ w3.heap.size := hbl3.out.size
           have e3 : w3.cell? ⟨b, 1, none⟩ = some wv := (hbl3.out.cell hlt2).trans e1
           have hltb3 : b < w3.heap.size := by omega
           have e4 : (w3.alloc (.cells #[.slice A2 n c2] 48)).cell? ⟨b, 1, none⟩ = some wv := (World.cell?_of_block (w := w3) (Below.heap_alloc _ _ _ (by omega))).trans e3)
        | (refine step_append_one (by rfl) _ _ _ (by rfl) 48 iS (.slice none 0 0) 24 Try.underlying57 hiS hzS hsS hbS rfl B wv L.length (L.map Kp.u) (by rfl) (hwas2.out.keep fun g e hg => (Below.heap_alloc _ _ _ (by omega)).trans (hbl3.out.block g hg)) ⟨w3.heap.size, 0, none⟩ 1 (.slice A2 n c2) (by rfl) (cell_one_new w3 (.slice A2 n c2) 48 0 _ rfl) rfl (by unfold maxLen; omega) (by omega) (by simp; omega) ?_
           intro g2 off2 cap2 w4 hrow4' hfr4' hat4'
           have hrow4 := Lib.hid hrow4'
           have hfr4 : Hid (Fr w3.heap.size (fun k => wv.ownBlock = some k) w3 w4) := ((Fr.refl _ _ w3).alloc (Nat.le_refl _) _).trans (hfr4'.mono (by simp) (fun _ _ h => h))
           have hat4 : Hid (wv.ownBlock = some g2 ∨ w3.heap.size < g2) := hat4'.imp id (fun h => by simp at h; omega)
           clear hrow4' hfr4' hat4'
           have hb4 : w4.heap[b]? = _ := (hfr4.out.block b (by omega) hs'.out.was_ne).trans ((hbl3.out.block b hlt2).trans hb2.out)
           have f0 : w4.cell? ⟨b, 1, none⟩ = some wv := cell_of_row w4 b 1 _ _ _ hb4
           have f1 : w4.frozen? ⟨b, 1, none⟩ = false := frozen_of_block hb4
           have hb4' := Lib.hid hb4
           clear hb4))
    all_goals
      have hb5 := Lib.hid (setCell_block hb4'.out (i := 1) (.slice (some ⟨g2, off2, none⟩) (L.length + 1) cap2))
      have hltg4 : Hid (g2 < w4.heap.size) := (hrow4.out.lt rfl).2
      clear e1 e3 e4 f0 f1
      go_wp2
      go_meet
      case rel =>
        have hbl24 : ∀ k, k < w2.heap.size → wv.ownBlock ≠ some k → w4.heap[k]? = w2.heap[k]? := fun k hk e => (hfr4.out.block k (by omega) e).trans (hbl3.out.block k hk)
        have hwvlt : ∀ k, wv.ownBlock = some k → k < w.heap.size := fun k e => (hs'.out.was.lt e).2
        have hF4 : Fr w.heap.size (BkS b lv wv) w w4 := ((hfr2.out.mono (Nat.le_refl _) (fun _ _ h => h.imp id .inl)).trans (Fr.of_below (hbl3.out.mono hsz2))).trans (hfr4.out.mono (by omega) (fun _ _ h => .inr (.inr h)))
        have hg12 : g1 ≠ g2 := by
          rintro rfl
          rcases hat4.out with h | h
          · rcases hat1.out with h1 | h1
            · exact hs'.out.apart _ h1 h
            · have := hwvlt _ h; omega
          · have := hlt1.out; omega
        have hbl5 : ∀ k, k ≠ b → (w4.setCell ⟨b, 1, none⟩ (.slice (some ⟨g2, off2, none⟩) (L.length + 1) cap2)).heap[k]? = w4.heap[k]? := fun k hk => setCell_far hk _
        have hg1v : wv.ownBlock ≠ some g1 := fun e => by
          rcases hat1.out with h1 | h1
          · exact hs'.out.apart _ h1 e
          · have := hwvlt _ e; omega
        have hg2b : g2 ≠ b := by
          rintro rfl
          rcases hat4.out with h | h
          · exact hs'.out.was_ne h
          · omega
        have hF5 : Fr w.heap.size (BkS b lv wv) w (w4.setCell ⟨b, 1, none⟩ (.slice (some ⟨g2, off2, none⟩) (L.length + 1) cap2)) := hF4.setCell (.inr (.inl rfl)) _
        refine ⟨_, _, _, BookSt.add hs'.out ⟨.slice A n cp, .slice A2 n c2, n, xs⟩ held (hb5.out.trans rfl) ?_ ?_ ?_ hF5 ?_ ?_ hd'.out, by show _ = _; simp, hF5⟩
        · exact hrow2.out.keep fun g e hg => by cases e; exact (hbl5 g1 hne1.out).trans (hbl24 g1 hg hg1v)
        · exact hrow4.out.keep fun g e hg => by cases e; exact hbl5 g2 hg2b
        · intro g e e2; cases e; cases e2; exact hg12 rfl
        · refine own_keep hv'.out fun g cs hg => (hF5.block g (lt_of_block hg) (hs'.out.far hg (by decide) (by decide)))
        · refine (RdC.of_own hown3.out).keep fun g cs hg => (hbl5 g ?_).trans ?_
          · rintro rfl
            have := (hbl3.out.block _ hlt2).trans hb2.out
            rw [this] at hg; cases hg
          · refine hfr4.out.block g (lt_of_block hg) (fun e => ?_)
            obtain ⟨cur, hcur⟩ := hwas2.out.type e
            have := (hbl3.out.block _ (lt_of_block hcur)).trans hcur
            rw [this] at hg; cases hg
  case rest =>
    obtain ⟨lv1, wv1, L1, hS, hL1, hF⟩ := hcut
    clear e1 hrow2 hlt1 hlt2 hrd2 hwas2 hsz2 hb2 hfr2 hat1 hne1
    clear w2
    obtain ⟨held1, hg1⟩ := hS.out.cell
    have c2 : wc.cell? ⟨b, 2, none⟩ = some (.int .i64 held1) := cell_of_row wc b 2 _ _ _ hg1
    have c3 : wc.frozen? ⟨b, 2, none⟩ = false := frozen_of_block hg1
    have hg1' := Lib.hid hg1
    clear hg1
    go_wp2
    go_loopg [] 4002 (fun gk wr => ∃ lv1 wv1 L1, L1.length ≤ gk ∧ Hid (L1.length ≤ 4001) ∧ Hid (BookSt wr B b lv1 wv1 L1) ∧ Hid (Fr w.heap.size (BkS b lv wv) w wr))
    case atStart => exact ⟨_, _, _, by have := hL1.out; omega, by have := hL1.out; show _ ≤ _; omega, hS.out.setHeld _, hF.out.setCell (.inr (.inl rfl)) _⟩
    case round =>
      clear c2 c3 hg1' hS hL1 hF
      clear L1 lv1 wv1 wc
      obtain ⟨lv1, wv1, L1, hk, h4, hS, hF⟩ := hrel
      obtain ⟨A1, cap1, rfl⟩ : ∃ A c, lv1 = .slice A L1.length c := by
        rcases hS.out.lists.2 with ⟨e, h0⟩ | ⟨g, off, cap, cur, e, _⟩
        · exact ⟨_, _, by rw [e, h0]⟩
        · exact ⟨_, _, e⟩
      obtain ⟨held1, hg1⟩ := hS.out.cell
      have c0 : wr.cell? ⟨b, 0, none⟩ = some (.slice A1 L1.length cap1) := cell_of_row wr b 0 _ _ _ hg1
      have c1 : wr.cell? ⟨b, 1, none⟩ = some wv1 := cell_of_row wr b 1 _ _ _ hg1
      have c2 : wr.cell? ⟨b, 2, none⟩ = some (.int .i64 held1) := cell_of_row wr b 2 _ _ _ hg1
      have c3 : wr.cell? ⟨b, 3, none⟩ = some (.bool false) := cell_of_row wr b 3 _ _ _ hg1
      have f3 : wr.frozen? ⟨b, 3, none⟩ = false := frozen_of_block hg1
      have hltb := lt_of_block hg1
      clear hg1
      by_cases h1 : L1.length ≤ 1
      · have hfin : Hid (∃ lv' wv' L', BookSt wr B b lv' wv' L' ∧ L'.length ≤ 4000 ∧ Fr w.heap.size (BkS b lv wv) w wr) := ⟨_, _, _, hS.out, by omega, hF.out⟩
        have h1I : (L1.length : Int) ≤ 1 := by omega
        clear hS hF c1 c3 f3
        go_wp2
        go_returns
        exact ⟨rfl, hfin.out⟩
      · by_cases h2 : held1 ≤ 1000000 ∧ L1.length ≤ 4000
        · have hfin : Hid (∃ lv' wv' L', BookSt wr B b lv' wv' L' ∧ L'.length ≤ 4000 ∧ Fr w.heap.size (BkS b lv wv) w wr) := ⟨_, _, _, hS.out, h2.2, hF.out⟩
          obtain ⟨h2a, h2b⟩ := h2
          have h1I : ¬ (L1.length : Int) ≤ 1 := by omega
          have h2I : (L1.length : Int) ≤ 4000 := by omega
          clear hS hF c1 c3 f3
          go_wp2
          go_returns
          exact ⟨rfl, hfin.out⟩
        · have hor : 1000000 < held1 ∨ (¬ 1000000 < held1 ∧ 4000 < L1.length) := by omega
          obtain ⟨q, L2, rfl⟩ : ∃ q L2, L1 = q :: L2 := by cases L1 with | nil => simp at h1 | cons q L2 => exact ⟨q, L2, rfl⟩
          obtain ⟨qv, qu, qn, qx⟩ := q
          obtain ⟨hq1, hq2⟩ := hS.out.own _ (List.mem_cons_self)
          obtain ⟨Aq, cq, hqe, hcq⟩ : ∃ A c, qv = .slice A qn c ∧ c ≤ 9223372036854775807 := by
            obtain ⟨_, A, c, e, _, hm, _⟩ := RdC.of_own hq1
            exact ⟨A, c, e, by unfold maxLen at hm; omega⟩
          dsimp only at hq1 hq2
          subst hqe
          obtain ⟨gl, ol, cl, hle, _, hcl0, hcl1, cL⟩ := hS.out.lists.cell (i := 0) (x := .slice Aq qn cq) rfl
          obtain ⟨gw, ow, cw, rfl, _, hcw0, hcw1, cW⟩ := hS.out.was.cell (i := 0) (x := qu) rfl
          cases hle
          have hsame := Lib.hid (And.intro (RdC.of_own hq1) hq2)
          have hlen : L2.length + 1 = (Kp.mk (.slice Aq qn cq) qu qn qx :: L2).length := rfl
          have hL2 : 0 < L2.length := by
            have h1' : ¬ (L2.length + 1 ≤ 1) := h1
            omega
          have hk2 : L2.length + 1 ≤ gk := hk
          have hor2 : 1000000 < held1 ∨ (¬ 1000000 < held1 ∧ 4000 < L2.length + 1 ∧ (4000 : Int) < (L2.length : Int) + 1) := by
            have := hor
            simp only [List.length_cons] at this
            omega
          have h42 : L2.length + 1 ≤ 4001 := h4.out
          clear hq1 hq2 h1 h2 hor hk h4
          simp only [List.length_cons] at *
          rw [Nat.add_zero] at cL cW
          have hltI : ¬ (L2.length : Int) + 1 ≤ 1 := by omega
          clear hlen
          have hin0 : (0 : Nat) < L2.length + 1 := by omega
          rcases hor2 with h2a | ⟨h2a, h2b, h2I⟩
          all_goals
            go_upto_region 4 with (fail)
            go_cut [] (fun wc => Hid (BookSt wc B b (.slice (some ⟨gl, ol, none⟩) (L2.length + 1) cap1) (.slice (some ⟨gw, ow, none⟩) (L2.length + 1) cw) (⟨.slice Aq qn cq, qu, qn, qx⟩ :: L2)) ∧ Hid (Fr w.heap.size (BkS b lv wv) w wc))
            case first =>
              have hset : Hid (∀ j, (wr.drewN j).setCell ⟨b, 3, none⟩ (.bool false) = wr.drewN j) := by
                obtain ⟨held9, hg9⟩ := hS.out.cell
                exact fun j => setCell_self _ b 3 (.bool false) _ _ hg9 rfl
              have h0I : (0 : Int) < (L2.length : Int) + 1 := by omega
              go_region_held3 (fun w' => w'.cell? ⟨b, 0, none⟩ = some (.slice (some ⟨gl, ol, none⟩) (L2.length + 1) cap1) ∧ w'.cell? ⟨b, 1, none⟩ = some (.slice (some ⟨gw, ow, none⟩) (L2.length + 1) cw) ∧ w'.cell? ⟨b, 3, none⟩ = some (.bool false) ∧ w'.cell? ⟨gl, ol, none⟩ = some (.slice Aq qn cq) ∧ w'.cell? ⟨gw, ow, none⟩ = some qu)
                (first
                  | exact ⟨c0, c1, c3, cL, cW⟩
                  | (rw [hset.out]; exact ⟨c0, c1, c3, cL, cW⟩))
                (first
                  | (go_at_call 28; refine (same_self _ _ qn qx wr hsame.out.1 hsame.out.2).mono ?_; rintro en w2 ⟨rfl, j, rfl⟩; have f3' : (wr.drew.drewN j).frozen? ⟨b, 3, none⟩ = false := f3))
              all_goals
                go_wp2
                go_meet
                case rel =>
                  have hB4 : BookSt (wr.drewN (1 + j)) B b (.slice (some ⟨gl, ol, none⟩) (L2.length + 1) cap1) (.slice (some ⟨gw, ow, none⟩) (L2.length + 1) cw) (⟨.slice Aq qn cq, qu, qn, qx⟩ :: L2) := hS.out.keep fun k _ => rfl
                  exact ⟨hB4.setBad, (hF.out.drewN (1 + j)).setCell (.inr (.inl rfl)) _⟩
            case rest =>
              rename World => wa
              obtain ⟨hS2, hF2⟩ := hcut
              clear c0 c1 c2 c3 f3 cL cW hS hF hltb hsame
              obtain ⟨held2, hg2⟩ := hS2.out.cell
              have c0 : wa.cell? ⟨b, 0, none⟩ = some (.slice (some ⟨gl, ol, none⟩) (L2.length + 1) cap1) := cell_of_row wa b 0 _ _ _ hg2
              have c1 : wa.cell? ⟨b, 1, none⟩ = some (.slice (some ⟨gw, ow, none⟩) (L2.length + 1) cw) := cell_of_row wa b 1 _ _ _ hg2
              have c2 : wa.cell? ⟨b, 2, none⟩ = some (.int .i64 held2) := cell_of_row wa b 2 _ _ _ hg2
              have f2 : wa.frozen? ⟨b, 2, none⟩ = false := frozen_of_block hg2
              have cL : wa.cell? ⟨gl, ol, none⟩ = some (.slice Aq qn cq) := by
                obtain ⟨g', o', c', e, _, _, _, h⟩ := hS2.out.lists.cell (i := 0) (x := .slice Aq qn cq) rfl
                cases e
                rwa [Nat.add_zero] at h
              have hg2' := Lib.hid hg2
              clear hg2
              go_upto_region 5 with (fail)
              go_cut [] (fun wc => Hid (BookSt wc B b (.slice (some ⟨gl, ol, none⟩) (L2.length + 1) cap1) (.slice (some ⟨gw, ow, none⟩) (L2.length + 1) cw) (⟨.slice Aq qn cq, qu, qn, qx⟩ :: L2)) ∧ Hid (Fr w.heap.size (BkS b lv wv) w wc))
              case first =>
                go_region
                all_goals
                  go_wp2
                  go_meet
                  case rel =>
                    have hB5 : BookSt wa.drew B b (.slice (some ⟨gl, ol, none⟩) (L2.length + 1) cap1) (.slice (some ⟨gw, ow, none⟩) (L2.length + 1) cw) (⟨.slice Aq qn cq, qu, qn, qx⟩ :: L2) := hS2.out.keep fun k _ => rfl
                    exact ⟨hB5.setHeld _, (hF2.out.drew).setCell (.inr (.inl rfl)) _⟩
              case rest =>
                obtain ⟨hS3, hF3⟩ := hcut
                clear c0 c1 c2 f2 cL hS2 hF2 hg2'
                clear wa
                obtain ⟨held3, hg3⟩ := hS3.out.cell
                have c0 : wc.cell? ⟨b, 0, none⟩ = some (.slice (some ⟨gl, ol, none⟩) (L2.length + 1) cap1) := cell_of_row wc b 0 _ _ _ hg3
                have c1 : wc.cell? ⟨b, 1, none⟩ = some (.slice (some ⟨gw, ow, none⟩) (L2.length + 1) cw) := cell_of_row wc b 1 _ _ _ hg3
                have f0 : wc.frozen? ⟨b, 0, none⟩ = false := frozen_of_block hg3
                have f1 : wc.frozen? ⟨b, 1, none⟩ = false := frozen_of_block hg3
                have hcc1 : ¬ cap1 = 1 := by omega
                have hcc2 : ¬ cw = 1 := by omega
                have hb6 := Lib.hid (setCell_block (setCell_block hg3 (i := 0) (.slice (some ⟨gl, ol + 1, none⟩) L2.length (cap1 - 1))) (i := 1) (.slice (some ⟨gw, ow + 1, none⟩) L2.length (cw - 1)))
                have hF6 : Hid (Fr wc.heap.size (fun k => k = b) wc ((wc.setCell ⟨b, 0, none⟩ (.slice (some ⟨gl, ol + 1, none⟩) L2.length (cap1 - 1))).setCell ⟨b, 1, none⟩ (.slice (some ⟨gw, ow + 1, none⟩) L2.length (cw - 1)))) :=
                  Lib.hid (Fr.setCell (S := fun k => k = b) (Fr.setCell (S := fun k => k = b) (Fr.refl _ _ wc) (p := ⟨b, 0, none⟩) (.inr rfl) _) (p := ⟨b, 1, none⟩) (.inr rfl) _)
                have hF7 : Hid (Fr w.heap.size (BkS b lv wv) w ((wc.setCell ⟨b, 0, none⟩ (.slice (some ⟨gl, ol + 1, none⟩) L2.length (cap1 - 1))).setCell ⟨b, 1, none⟩ (.slice (some ⟨gw, ow + 1, none⟩) L2.length (cw - 1)))) :=
                  (hF3.out.setCell (.inr (.inl rfl)) _).setCell (.inr (.inl rfl)) _
                have hS7 : Hid (BookSt ((wc.setCell ⟨b, 0, none⟩ (.slice (some ⟨gl, ol + 1, none⟩) L2.length (cap1 - 1))).setCell ⟨b, 1, none⟩ (.slice (some ⟨gw, ow + 1, none⟩) L2.length (cw - 1))) B b (.slice (some ⟨gl, ol + 1, none⟩) L2.length (cap1 - 1)) (.slice (some ⟨gw, ow + 1, none⟩) L2.length (cw - 1)) L2) :=
                  BookSt.drop hS3.out held3 (hb6.out.trans rfl) (RowO.tail hS3.out.lists hcc1) (RowO.tail hS3.out.was hcc2) rfl rfl hF6.out
                clear hg3 hb6 hF6 hS3 hF3
                have hltc1 : (1 : Int) ≤ (L2.length : Int) + 1 := by omega
                go_wp2
                go_roundg (gk - 1)
                case rel => exact ⟨_, _, L2, by omega, by show _ ≤ _; omega, hS7, hF7⟩
                case measure => omega
end Go.Proofs.Ytaogndianciogaa.Mm.Lv
