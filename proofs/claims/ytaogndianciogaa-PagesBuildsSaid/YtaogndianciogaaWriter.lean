/- word.Writer: what it holds, and what Long does to it. -/
import Derived.Test.YtaogndianciogaaPut
import Derived.Deep.RegionHeld3
import Derived.Deep.RegionLaw
import Derived.Deep.AppendLies
import Derived.RangeFuncBox
import Derived.Handy
namespace Go.Proofs.Ytaogndianciogaa.Mm
open Go.RowKit
set_option linter.unusedVariables false
set_option linter.unusedSimpArgs false
/-- a writer at block gw holds the bytes xs; all that it holds lies from block B on -/
structure Wr (B : Nat) (gw : Nat) (w : World) (vb : Value) (n : Nat) (xs : List Value) : Prop where
  cell : w.heap[gw]? = some (.cells #[vb, .int .i64 0] 98 (0, 0))
  le : B ≤ gw
  own : w.ownsRow B 5 1 vb n xs
theorem own_far {w : World} {base : Nat} {T T' : TypeId} {sz : Nat} {v : Value} {n : Nat} {xs : List Value} {g i : Nat} {cs : Array Value} (h : w.ownsRow base T sz v n xs) (hg : w.heap[g]? = some (.cells cs T' (0, 0))) (hne : T ≠ T') (u : Value) : (w.setCell ⟨g, i, none⟩ u).ownsRow base T sz v n xs := by
  refine h.kept (row := some g) ⟨rfl, rfl, rfl, by simp [World.setCell], fun k _ hk => Below.heap_setCell _ _ _ _ (fun e => hk (by rw [e]))⟩ ?_
  rcases h.2 with ⟨rfl, _⟩ | ⟨g', cap, cur, rfl, _, hg', _⟩
  · exact .inl rfl
  · refine .inr fun e => ?_
    have : g' = g := by simpa [Value.ownBlock] using e
    subst this
    rw [hg] at hg'
    cases hg'
    exact hne rfl
theorem own_below {w w' : World} {base : Nat} {T : TypeId} {sz : Nat} {v : Value} {n : Nat} {xs : List Value} (h : w.ownsRow base T sz v n xs) (hb : Below w.heap.size w w') : w'.ownsRow base T sz v n xs :=
  h.kept (row := none) ⟨hb.os, hb.tape, hb.output, hb.size, fun k hk _ => hb.block k hk⟩ (by
    rcases h.2 with ⟨rfl, _⟩ | ⟨g', cap, cur, rfl, _, hg', _⟩
    · exact .inl rfl
    · exact .inr (by simp [Value.ownBlock]))
theorem own_ne {w : World} {base : Nat} {T T' : TypeId} {sz : Nat} {v : Value} {n : Nat} {xs : List Value} {g : Nat} {cs : Array Value} (h : w.ownsRow base T sz v n xs) (hg : w.heap[g]? = some (.cells cs T' (0, 0))) (hne : T ≠ T') : some g ≠ v.ownBlock := by
  rcases h.2 with ⟨rfl, _⟩ | ⟨g', cap, cur, rfl, _, hg', _⟩
  · simp [Value.ownBlock]
  · intro e
    have : g = g' := by simpa [Value.ownBlock] using e
    subst this
    rw [hg] at hg'
    cases hg'
    exact hne rfl
theorem own_cells {w : World} {base : Nat} {T : TypeId} {g n cap : Nat} {xs : List Value} (h : w.ownsRow base T 1 (.slice (some ⟨g, 0, none⟩) n cap) n xs) : ∀ j u, xs[j]? = some u → w.cell? ((⟨g, 0, none⟩ : Addr).add j) = some u := by
  intro j u hu
  obtain ⟨gb, off, c, e, _, _, hc⟩ := (RdC.of_own h).cell hu
  cases e
  rw [Addr.add_lit]
  exact hc
theorem bytesN_one (x : Int) (k : Nat) : ∀ u ∈ bytesN x k, u.oneCell' = true := by
  intro u hu
  simp only [bytesN, List.mem_map] at hu
  obtain ⟨i, _, rfl⟩ := hu
  rfl
set_option maxHeartbeats 1000000 in
set_option maxRecDepth 100000 in
theorem lay_any (B gw : Nat) (vb : Value) (n : Nat) (xs : List Value) (x : Int) (h0 : 0 ≤ x) (h1 : x < 18446744073709551616) (w : World) (hw : Wr B gw w vb n xs) (hn : n ≤ 1000000) (hB : B ≤ w.heap.size) :
    Calls Try.prog 50 #[.pointer (some ⟨gw, 0, none⟩), .int .u64 x] w
      (fun e w' => e = .returned (.tuple #[]) ∧ ∃ vb', Wr B gw w' vb' (n + 8) (xs ++ bytesN x 8) ∧ Below B w w') := by
  obtain ⟨i0, hi0, hz0, hz1, hz2⟩ := info_parts infoByte
  obtain ⟨hg, hle, hown0⟩ := hw
  have hown := Lib.hid hown0
  have hg' := Lib.hid hg
  have c0 : w.cell? ⟨gw, 0, none⟩ = some vb := cell_of_row w gw 0 _ _ _ hg
  have c1 : w.cell? ⟨gw, 1, none⟩ = some (.int .i64 0) := cell_of_row w gw 1 _ _ _ hg
  have hlt := lt_of_block hg
  have f0 : w.frozen? ⟨gw, 0, none⟩ = false := frozen_of_block hg
  have hne := Lib.hid (own_ne hown0 hg (by decide))
  have hwb : Hid (∀ k, vb.ownBlock = some k → B ≤ k ∧ k < w.heap.size) := hown0.lt
  clear hg hown0
  go_enter Try.func50, Try.ntmps50
  go_wp2
  go_region_law
    (first
      | (go_simp; go_at_call 58; refine (put_any x h0 h1 _).mono ?_; rintro en w1 ⟨v1, rfl, hown1, hb1'⟩; have hb1 : Below w.heap.size w w1 := (Below.drew (Below.refl w.heap.size w)).trans hb1'; clear hb1'; obtain ⟨g1, cap1, rfl⟩ := ownsRow_succ hown1; have d0 : w1.cell? ⟨gw, 0, none⟩ = some vb := (hb1.cell hlt).trans c0; have d1 : w1.frozen? ⟨gw, 0, none⟩ = false := (hb1.frozen hlt).trans f0)
      | (refine step_append_lies _ (by rfl) _ _ _ (by rfl) B 5 i0 _ 1 1 Try.underlying25 hi0 hz0 hz1 hz2 rfl (by omega) vb n xs (by rfl) (own_below hown.out hb1) ⟨g1, 0, none⟩ 8 cap1 (bytesN x 8) (by rfl) (by rfl) (own_cells hown1) (bytesN_one x 8) (by omega) (by unfold maxLen; omega) (by omega) (Nat.le_trans hB hb1.size) _ rfl ?_; intro gg cap2 w2 hown2 hgrow2 hat hlt2; have hbl := hgrow2.block gw (Nat.lt_of_lt_of_le hlt hb1.size) hne.out; have e0 : w2.cell? ⟨gw, 0, none⟩ = some vb := (World.cell?_of_block (w := w1) hbl).trans d0; have e1 : w2.frozen? ⟨gw, 0, none⟩ = false := (World.frozen?_of_block (w := w1) hbl).trans d1))
  all_goals
    have hg2 : w2.heap[gw]? = some (.cells #[vb, .int .i64 0] 98 (0, 0)) := (hbl.trans (hb1.block gw hlt)).trans hg'.out
    have hB1 : Below B w w1 := hb1.mono hB
    have H : ∃ vb', Wr B gw (w2.setCell ⟨gw, 0, none⟩ (.slice (some ⟨gg, 0, none⟩) (n + 8) cap2)) vb' (n + 8) (xs ++ bytesN x 8) ∧ Below B w (w2.setCell ⟨gw, 0, none⟩ (.slice (some ⟨gg, 0, none⟩) (n + 8) cap2)) :=
      ⟨_, ⟨by rw [setCell_block hg2]; rfl, hle, own_far hown2 hg2 (by decide) _⟩, (hB1.grown hgrow2 (Nat.le_trans hB hb1.size) (fun k e => (hwb.out k e).1)).setCell (by simpa using hle) _⟩
    go_wp2
    go_returns
    exact ⟨rfl, H⟩
set_option maxHeartbeats 1000000 in
set_option maxRecDepth 100000 in
theorem long_any (B gw : Nat) (vb : Value) (n : Nat) (xs : List Value) (x : Int) (h0 : 0 ≤ x) (h1 : x < 18446744073709551616) (w : World) (hw : Wr B gw w vb n xs) (hn : n ≤ 1000000) (hB : B ≤ w.heap.size) :
    Calls Try.prog 31 #[.pointer (some ⟨gw, 0, none⟩), .int .u64 x] w
      (fun e w' => e = .returned (.tuple #[]) ∧ ∃ vb', Wr B gw w' vb' (n + 8) (xs ++ bytesN x 8) ∧ Below B w w') := by
  have H := Lib.hid (lay_any B gw vb n xs x h0 h1 w hw hn hB)
  clear hw
  go_enter Try.func31, Try.ntmps31
  go_wp2_with fail
  refine H.out.mono ?_
  rintro en w1 ⟨rfl, hp⟩
  have hp' := Lib.hid hp
  clear hp
  go_wp2
  go_returns
  exact ⟨rfl, hp'.out⟩
set_option maxHeartbeats 1000000 in
theorem newWriter_any (w : World) : Calls Try.prog 30 #[] w
    (fun e w' => ∃ gw, e = .returned (.pointer (some ⟨gw, 0, none⟩)) ∧ Wr w.heap.size gw w' (.slice none 0 0) 0 [] ∧ Below w.heap.size w w') := by
  go_enter Try.func30, Try.ntmps30
  go_wp2
  go_ret
  exact ⟨_, rfl, ⟨heap_alloc_new _ _, Nat.le_refl _, World.ownsRow_nil _ _ _ _⟩, (Below.refl _ _).alloc (Nat.le_refl _) _⟩
end Go.Proofs.Ytaogndianciogaa.Mm
