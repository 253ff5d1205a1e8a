/- bulkheadbook.Roomy and Intact of bytes. -/
import Derived.Test.YtaogndianciogaaSameB
import Derived.Test.YtaogndianciogaaPut
namespace Go.Proofs.Ytaogndianciogaa.Mm
open Go.RowKit
set_option linter.unusedVariables false
set_option linter.unusedSimpArgs false
theorem u8V_length (l : List Int) : (u8V l).length = l.length := by simp [u8V]
theorem u8V_one (l : List Int) : ∀ u ∈ u8V l, u.oneCell' = true := by
  intro u hu
  simp only [u8V, List.mem_map] at hu
  obtain ⟨x, _, rfl⟩ := hu
  rfl
/-- what Roomy's row holds when the marks are laid up to k -/
def roomyL (l : List Int) (m : Int) (k : Nat) : List Int := l ++ List.replicate k m ++ List.replicate (80 - k) 0
theorem roomyL_length (l : List Int) (m : Int) {k : Nat} (h : k ≤ 80) : (roomyL l m k).length = l.length + 80 := by simp [roomyL]; omega
theorem roomyL_set (l : List Int) (m : Int) {k : Nat} (h : k < 80) : (u8V (roomyL l m k)).toArray.setIfInBounds (l.length + k) (.int .u8 m) = (u8V (roomyL l m (k + 1))).toArray := by
  simp only [List.setIfInBounds_toArray, u8V, roomyL, List.map_append, List.map_replicate]
  congr 1
  rw [List.set_append_right _ _ (by simp)]
  rw [show l.length + k - (List.map (fun x => Value.int IntKind.u8 x) l ++ List.replicate k (Value.int IntKind.u8 m)).length = 0 from by simp]
  rw [show 80 - k = (80 - (k + 1)) + 1 from by omega, List.replicate_succ, List.set_cons_zero, List.replicate_succ', List.append_assoc, List.append_assoc]
  simp
theorem made_one {z : Value} (hz : z.cells = #[z]) (m : Nat) : (madeCells z.cells m).toList = List.replicate m z := by
  rw [hz]
  apply List.ext_getElem?
  intro i
  simp only [madeCells, Array.toList_map, List.getElem?_map, List.getElem?_replicate, Array.toList_range]
  by_cases h : i < m
  · simp [h, Nat.mod_one]
  · simp [h]
theorem own_full {w : World} {base : Nat} {T : TypeId} {g n : Nat} {xs : List Value} (h : w.ownsRow base T 1 (.slice (some ⟨g, 0, none⟩) n n) n xs) : w.heap[g]? = some (.cells xs.toArray T (0, 0)) := by
  obtain ⟨h1, h2⟩ := h
  rcases h2 with ⟨e, _⟩ | ⟨g', cap, cur, e, hb, hg, hnc, hcm, hcs, htake⟩
  · cases e
  · cases e
    rw [hg]
    rw [List.take_of_length_le (by simp [hcs])] at htake
    rw [← htake]
theorem made_bytes {w : World} {base : Nat} {T : TypeId} {g k : Nat} (h : w.ownsRow base T 1 (.slice (some ⟨g, 0, none⟩) k k) k (madeCells (Value.int .u8 0).cells (k * 1)).toList) : w.heap[g]? = some (.cells (u8V (List.replicate k 0)).toArray T (0, 0)) := by
  have := own_full h
  rw [made_one rfl, Nat.mul_one] at this
  rw [this]
  simp [u8V]
theorem roomyL_zero (l : List Int) (m : Int) : splice (u8V (List.replicate (l.length + 80) 0)) 0 (u8V l) = u8V (roomyL l m 0) := by
  simp [splice, u8V, roomyL, List.map_replicate]
set_option maxHeartbeats 1000000 in
set_option maxRecDepth 100000 in
theorem roomy_any (v : Value) (n : Nat) (l : List Int) (m : Int) (hn : n ≤ 2147483647) (w : World) (hv : RdX w 1 v n (u8V l)) :
    Calls Try.prog 12 #[v, .int .u8 m] w
      (fun e w' => e = .returned (.slice (some ⟨w.heap.size, 0, none⟩) (n + 80) (n + 80)) ∧ w'.heap[w.heap.size]? = some (.cells (u8V (roomyL l m 80)).toArray 5 (0, 0)) ∧ Below w.heap.size w w') := by
  obtain ⟨i0, hi0, hz0, hz1, hz2⟩ := info_parts infoByte
  obtain ⟨hlen, A, c, rfl, hc, hm, hr⟩ := hv
  have hln : l.length = n := by simpa [u8V] using hlen
  have hr' := Lib.hid hr
  clear hr hm
  have hmin : Hid ((u8V l).length = Nat.min n (n + 80)) := by show _ = min n (n + 80); rw [u8V_length]; omega
  have hlen0 : Hid (0 < (u8V l).length → 0 < n) := by rw [u8V_length]; intro h; omega
  have hfit : Hid (0 + (u8V l).length ≤ (u8V (List.replicate (n + 80) 0)).length) := by show _ ≤ _; rw [u8V_length, u8V_length, List.length_replicate]; omega
  have hsrc : Hid (0 < n → ∀ w1, Below w.heap.size w w1 → ∃ ad, A = some ad ∧ ∀ j v, (u8V l)[j]? = some v → w1.cell? (ad.add j) = some v) := by
    intro h0 w1 hb
    obtain ⟨gb, off, e, hg, hx⟩ := hr'.out h0
    refine ⟨_, e, fun j v hv => ?_⟩
    rw [Addr.add_lit]
    exact (World.cell?_of_block (w := w) (hb.block gb hg)).trans (hx j v hv)
  go_enter Try.func12, Try.ntmps12
  go_wp2_with (first
    | (at_make; refine wpList_make_full _ rfl _ _ 25 rfl w.heap.size 5 i0 (.int .u8 0) 1 Try.underlying25 hi0 hz0 hz1 _ _ _ _ (n + 80) rfl rfl (by omega) (by omega) (by rw [hz2]; omega) (by unfold maxLen; omega) (Nat.le_refl _) ?_; intro w1 hown1 hgrow1
       have hg1 := Lib.hid (made_bytes hown1)
       have hb1 : Hid (Below w.heap.size w w1) := (Below.refl _ _).grown hgrow1 (Nat.le_refl _) (fun k e => by cases e)
       clear hown1 hgrow1)
    | (refine wpList_copy_splice (by rfl) (.tmp 11) (.tmp 12) 25 25 (by rfl) 5 Try.underlying25 (by kernel_rfl) (some ⟨w.heap.size, 0, none⟩) A (n + 80) (n + 80) n c (by rfl) (by rfl) w.heap.size 0 (u8V (List.replicate (n + 80) 0)) 5 hg1.out (u8V l) hmin.out (fun h0 => ⟨rfl, hsrc.out (hlen0.out h0) w1 hb1.out⟩) hfit.out (u8V_one l) w.heap.size w hb1.out (Nat.le_refl _) ?_; intro w2 hg2 hb2'
       have hb2 := Lib.hid hb2'
       clear hb2'))
  have hg2' : Hid (w2.heap[w.heap.size]? = some (.cells (u8V (roomyL l m 0)).toArray 5 (0, 0))) := by
    have := hg2.out
    rw [← hln, roomyL_zero] at this
    exact this
  clear hg2
  go_loopg [6] 81 (fun g1 v6 wr => ∃ k : Nat, k + g1 = 81 ∧ k ≤ 80 ∧ v6 = .int .i64 ((n + k : Nat) : Int) ∧ Hid (wr.heap[w.heap.size]? = some (.cells (u8V (roomyL l m k)).toArray 5 (0, 0))) ∧ Hid (Below w.heap.size w wr))
  case atStart => exact ⟨0, rfl, by omega, rfl, hg2', hb2⟩
  case round =>
    obtain ⟨k, hk, hk8, rfl, hg, hb⟩ := hrel
    by_cases hlt : k < 80
    · have hget : (u8V (roomyL l m k)).toArray[n + k]? = some (.int .u8 0) := by
        rw [List.getElem?_toArray]
        refine u8V_get ?_
        rw [roomyL, List.getElem?_append_right (by simp; omega), List.getElem?_replicate, if_pos (by simp; omega)]
      have c1 : wr.cell? ⟨w.heap.size, n + k, none⟩ = some (.int .u8 0) := (cell_of_row wr _ _ _ _ _ hg.out).trans hget
      have f1 : wr.frozen? ⟨w.heap.size, n + k, none⟩ = false := frozen_of_block hg.out
      have hltI : (n : Int) + (k : Int) < (n : Int) + 80 := by omega
      have hltN : n + k < n + 80 := by omega
      have hset : Hid ((wr.setCell ⟨w.heap.size, n + k, none⟩ (.int .u8 m)).heap[w.heap.size]? = some (.cells (u8V (roomyL l m (k + 1))).toArray 5 (0, 0))) := by
        have h := roomyL_set l m hlt
        rw [hln] at h
        rw [← h]
        exact setCell_block hg.out _
      have hb' := Lib.hid (hb.out.setCell (p := ⟨w.heap.size, n + k, none⟩) (Nat.le_refl _) (.int .u8 m))
      clear hget
      go_wp2
      go_roundg (80 - k)
      case rel => exact ⟨k + 1, by omega, by omega, by simp; omega, hset, hb'⟩
      case measure => omega
    · obtain rfl : k = 80 := by omega
      go_wp2
      go_returns
      exact ⟨rfl, hg.out, hb.out⟩
end Go.Proofs.Ytaogndianciogaa.Mm
