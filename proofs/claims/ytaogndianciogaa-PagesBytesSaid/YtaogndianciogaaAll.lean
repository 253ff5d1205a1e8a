/- slices.Clone of bytes, (*word.Writer).All. -/
import Derived.Test.YtaogndianciogaaWriter
namespace Go.Proofs.Ytaogndianciogaa.Mm
open Go.RowKit
set_option linter.unusedVariables false
set_option linter.unusedSimpArgs false
theorem RdC.news {w : World} {T : TypeId} {sz : Nat} {g off n c : Nat} {xs : List Value} (h : RdC w T sz (.slice (some ⟨g, off, none⟩) n c) n xs) : ∀ j u, xs[j]? = some u → w.cell? ((⟨g, off, none⟩ : Addr).add j) = some u := by
  intro j u hu
  obtain ⟨gb, off', c', e, _, _, hc⟩ := h.cell hu
  cases e
  rw [Addr.add_lit]
  exact hc
theorem slice_nil (a : Addr) (n c : Nat) (w : World) : (binOp BinOp.eql 25 (.slice (some a) n c) (.slice none 0 0)).run Try.prog w = .ok (.bool false) w := by kernel_rfl
set_option maxHeartbeats 1000000 in
set_option maxRecDepth 100000 in
theorem clone_any (v : Value) (n : Nat) (xs : List Value) (w : World) (hv : RdC w 5 1 v n xs) (hx : ∀ u ∈ xs, u.oneCell' = true) (hn0 : 0 < n) (hn : n ≤ 100000000) :
    Calls Try.prog 51 #[v] w
      (fun e w' => ∃ v', e = .returned v' ∧ w'.ownsRow w.heap.size 5 1 v' n xs ∧ Below w.heap.size w w') := by
  obtain ⟨i0, hi0, hz0, hz1, hz2⟩ := info_parts infoByte
  obtain ⟨gb, off, c, rfl⟩ : ∃ gb off c, v = .slice (some ⟨gb, off, none⟩) n c := by
    obtain ⟨hl, A, c, rfl, hc, hm, hr⟩ := hv
    obtain ⟨gb, off, cs, rfl, _⟩ := hr hn0
    exact ⟨gb, off, c, rfl⟩
  have hv' := Lib.hid hv
  clear hv
  have hnil := slice_nil ⟨gb, off, none⟩ n c
  go_enter Try.func51, Try.ntmps51
  go_wp2_with (at_builtin; refine wpList_append_own _ rfl (.tmp 5) (.tmp 6) 25 rfl w.heap.size 5 i0 (.int .u8 0) 1 1 Try.underlying25 hi0 hz0 hz1 hz2 rfl (by decide) _ 0 [] rfl ?_ ⟨gb, off, none⟩ n c xs rfl ?_ ?_ hx (by unfold maxLen; omega) (by omega) ?_ ?_)
  · exact World.ownsRow_made w #[] 0 (Nat.le_refl _) (by decide) rfl
  · exact hv'.out.1
  · exact RdC.news (hv'.out.below ((Below.refl _ _).alloc (Nat.le_refl _) _))
  · simp
  · intro v' w' hown' hgrow' _
    have H : w'.ownsRow w.heap.size 5 1 v' n xs := by
      have := hown'
      simpa using this
    have HB : Below w.heap.size w w' := ((Below.refl _ _).alloc (Nat.le_refl _) _).grown hgrow' (by simp) (fun k e => by simp [Value.ownBlock] at e; omega)
    have H' := Lib.hid H
    have HB' := Lib.hid HB
    clear H HB hown' hgrow'
    go_wp2
    go_returns
    exact ⟨_, rfl, H'.out, HB'.out⟩
set_option maxHeartbeats 1000000 in
set_option maxRecDepth 100000 in
theorem all_any (B gw : Nat) (vb : Value) (n : Nat) (xs : List Value) (w : World) (hw : Wr B gw w vb n xs) (hx : ∀ u ∈ xs, u.oneCell' = true) (hn0 : 0 < n) (hn : n ≤ 1000000) :
    Calls Try.prog 32 #[.pointer (some ⟨gw, 0, none⟩)] w
      (fun e w' => ∃ v', e = .returned v' ∧ w'.ownsRow w.heap.size 5 1 v' n xs ∧ Below w.heap.size w w') := by
  have H := Lib.hid (clone_any vb n xs w (RdC.of_own hw.own) hx hn0 (by omega))
  have c0 : w.cell? ⟨gw, 0, none⟩ = some vb := cell_of_row w gw 0 _ _ _ hw.cell
  clear hw
  go_enter Try.func32, Try.ntmps32
  go_wp2_with fail
  refine H.out.mono ?_
  rintro en w1 ⟨v', rfl, hown, hb⟩
  have hown' := Lib.hid hown
  have hb' := Lib.hid hb
  clear hown hb
  go_wp2
  go_returns
  exact ⟨_, rfl, hown'.out, hb'.out⟩
end Go.Proofs.Ytaogndianciogaa.Mm
