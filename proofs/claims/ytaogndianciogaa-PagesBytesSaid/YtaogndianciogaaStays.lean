/- bulkheadbook.Book.Stays of bytes. -/
import Derived.Test.YtaogndianciogaaBook
import Derived.Deep.DeepCutAuto
import Derived.Deep.RegionLaw
import Derived.Deep.RegionWith
import Derived.Deep.RegionHeld3
namespace Go.Proofs.Ytaogndianciogaa.Mm
open Go.RowKit
set_option linter.unusedVariables false
set_option linter.unusedSimpArgs false
set_option maxHeartbeats 4000000 in
set_option maxRecDepth 100000 in
theorem stays_any (B b : Nat) (lv wv : Value) (L : List Kp) (w : World) (hs : BookSt w B b lv wv L) (hL : L.length ≤ 4000) :
    Calls Try.prog 34 #[.pointer (some ⟨b, 0, none⟩)] w
      (fun e w' => e = .returned (.bool true) ∧ ∃ j, w' = w.drewN j) := by
  obtain ⟨A1, cap1, rfl⟩ : ∃ A c, lv = .slice A L.length c := by
    rcases hs.lists.2 with ⟨e, h0⟩ | ⟨g, off, cap, cur, e, _⟩
    · exact ⟨_, _, by rw [e, h0]⟩
    · exact ⟨_, _, e⟩
  obtain ⟨A2, cap2, rfl⟩ : ∃ A c, wv = .slice A L.length c := by
    rcases hs.was.2 with ⟨e, h0⟩ | ⟨g, off, cap, cur, e, _⟩
    · exact ⟨_, _, by rw [e, h0]⟩
    · exact ⟨_, _, e⟩
  obtain ⟨held, hg⟩ := hs.cell
  have hg' := Lib.hid hg
  have hs' := Lib.hid hs
  clear hg hs
  go_enter Try.func34, Try.ntmps34
  go_wp2
  go_loopg [3] (L.length + 1) (fun g1 v3 wr => ∃ i : Nat, i + g1 = L.length + 1 ∧ i ≤ L.length ∧ v3 = .int .i64 i ∧ Hid (∃ j, wr = w.drewN j))
  case atStart => exact ⟨0, by omega, by omega, rfl, ⟨0, rfl⟩⟩
  case round =>
    obtain ⟨i, hk, hi, rfl, hj⟩ := hrel
    have hh : wr.heap = w.heap := by obtain ⟨j, rfl⟩ := hj.out; rfl
    have hgr : wr.heap[b]? = _ := (congrArg (fun h : Array Obj => h[b]?) hh).trans hg'.out
    have c0 : wr.cell? ⟨b, 0, none⟩ = some (.slice A1 L.length cap1) := cell_of_row wr b 0 _ _ _ hgr
    have c1 : wr.cell? ⟨b, 1, none⟩ = some (.slice A2 L.length cap2) := cell_of_row wr b 1 _ _ _ hgr
    have c3 : wr.cell? ⟨b, 3, none⟩ = some (.bool false) := cell_of_row wr b 3 _ _ _ hgr
    have f3 : wr.frozen? ⟨b, 3, none⟩ = false := frozen_of_block hgr
    have hset : Hid (∀ j, (wr.drewN j).setCell ⟨b, 3, none⟩ (.bool false) = wr.drewN j) := fun j => setCell_self _ b 3 (.bool false) _ _ hgr rfl
    have hSr := Lib.hid (hs'.out.keep (w' := wr) fun k _ => congrArg (fun h : Array Obj => h[k]?) hh)
    clear hgr hh
    by_cases hlt : i < L.length
    · have hq : L[i]? = some (L[i]'hlt) := List.getElem?_eq_getElem _
      generalize L[i]'hlt = q at hq
      obtain ⟨qv, qu, qn, qx⟩ := q
      obtain ⟨hq1, hq2⟩ := hSr.out.own _ (List.mem_of_getElem? hq)
      obtain ⟨gl, ol, cl, hle, _, hcl0, hcl1, cL⟩ := hSr.out.lists.cell (i := i) (x := qv) (by simp [hq])
      obtain ⟨gw, ow, cw, hwe, _, hcw0, hcw1, cW⟩ := hSr.out.was.cell (i := i) (x := qu) (by simp [hq])
      cases hle
      cases hwe
      dsimp only at hq1 hq2
      have hsame := Lib.hid (And.intro (RdC.of_own hq1) hq2)
      have h0I : (0 : Int) ≤ (i : Int) := by omega
      have hltI : (i : Int) < (L.length : Int) := by omega
      clear hq hq1 hq2 hSr hcl1 hcw1
      go_wp2
      go_region_held3 (fun w' => w'.cell? ⟨b, 0, none⟩ = some (.slice (some ⟨gl, ol, none⟩) L.length cap1) ∧ w'.cell? ⟨b, 1, none⟩ = some (.slice (some ⟨gw, ow, none⟩) L.length cap2) ∧ w'.cell? ⟨b, 3, none⟩ = some (.bool false) ∧ w'.cell? ⟨gl, ol + i, none⟩ = some qv ∧ w'.cell? ⟨gw, ow + i, none⟩ = some qu)
        (first
          | exact ⟨c0, c1, c3, cL, cW⟩
          | (rw [hset.out]; exact ⟨c0, c1, c3, cL, cW⟩))
        (first
          | (go_at_call 9; refine (same_self _ _ qn qx wr hsame.out.1 hsame.out.2).mono ?_; rintro en w2 ⟨rfl, j, rfl⟩; have f3' : (wr.drew.drewN j).frozen? ⟨b, 3, none⟩ = false := f3))
      go_wp2
      go_roundg (L.length - i)
      case rel =>
        refine ⟨i + 1, by omega, by omega, by simp, ?_⟩
        rw [hset.out]
        obtain ⟨j0, rfl⟩ := hj.out
        exact ⟨_, World.drewN_drewN _ _ _⟩
      case measure => omega
    · obtain rfl : i = L.length := by omega
      go_wp2
      go_returns
      exact ⟨rfl, hj.out⟩
end Go.Proofs.Ytaogndianciogaa.Mm
