/- PagesBuilds is proved for every input, without any condition. -/
import Derived.Test.YtaogndianciogaaPagesBuilds
import Derived.Test.YtaogndianciogaaRows
import Derived.WalkKit
import Derived.ProofKit
import Derived.OpenShut
import Derived.ShutString
import Derived.ChangeOld
import Derived.Below
import Derived.Lib.SmallJoins
import Derived.Deep.Slices
namespace Go.Proofs.Ytaogndianciogaa.pagesBuilds
open Go.ChangeShapes Go.WideShapes Go.ChangeAt Go.RowKit Go.Joins Go.Deep
open Go.ChangeMaps (open_string shut_string)
set_option linter.unusedVariables false
theorem own : ownKnob Try.prog.godebug = none := by kernel_rfl
theorem laidOut : laidOutB Try.prog = true := by kernel_rfl
theorem u64_of {n : Int} (h : (Lit.int .u64 n).wf = true) : 0 ≤ n ∧ n < 18446744073709551616 := by
  simp [Lit.wf, IntKind.min, IntKind.max, IntKind.signed, IntKind.bits] at h
  omega
theorem i64_of {n : Int} (h : (Lit.int .i64 n).wf = true) : -9223372036854775808 ≤ n ∧ n < 9223372036854775808 := by
  simp [Lit.wf, IntKind.min, IntKind.max, IntKind.signed, IntKind.bits] at h
  omega
theorem list_of {α : Type} {P : Nat → α → Prop} : ∀ n : Nat, (∀ i, i < n → ∃ x, P i x) → ∃ l : List α, l.length = n ∧ ∀ i x, l[i]? = some x → P i x := by
  intro n
  induction n with
  | zero => intro _; exact ⟨[], rfl, fun i x h => by simp at h⟩
  | succ n ih =>
    intro h
    obtain ⟨l, hl, hP⟩ := ih (fun i hi => h i (by omega))
    obtain ⟨x, hx⟩ := h n (by omega)
    refine ⟨l ++ [x], by simp [hl], fun i y hy => ?_⟩
    by_cases hi : i < n
    · rw [List.getElem?_append_left (by omega)] at hy
      exact hP i y hy
    · rw [List.getElem?_append_right (by omega)] at hy
      have h0 : i - l.length = 0 := by
        have := (List.getElem?_eq_some_iff.1 hy).1
        simp at this; omega
      rw [h0] at hy
      have : i = n := by omega
      subst this
      simp at hy; subst hy; exact hx
theorem lfV_at {l : List Mm.Lf} {k : Nat} {u : Value} (h : (Mm.lfV l)[k]? = some u) : ∃ x, l[k / 6]? = some x ∧ x.cells[k % 6]? = some u := by
  have hk : k < l.length * 6 := by
    have := (List.getElem?_eq_some_iff.1 h).1
    rwa [Mm.lfV_length] at this
  have hx : l[k / 6]? = some (l[k / 6]'(by omega)) := List.getElem?_eq_getElem _
  refine ⟨_, hx, ?_⟩
  rw [← Mm.lfV_get hx (k % 6) (by omega), show k / 6 * 6 + k % 6 = k from by omega]
  exact h
section
variable {H : Type} {enc : TypeId × Value → H} {w : World} {base : Nat} {held : Bool}
set_option maxRecDepth 100000 in
theorem leaf_of (hu : Try.prog.cellsOf 22 = 1) (hn : Try.prog.cellsOf 3 = 1) (hb : Try.prog.cellsOf 4 = 1) {n : Nat} {cs : List Value} {y : DataW H × List MemPlace} (h : DataW.trod enc Try.prog w base (fun _ => true) held n 47 cs = some y) (hl : cs.length = 6) : ∃ x : Mm.Lf, x.ok ∧ cs = x.cells := by
  obtain ⟨ys, m, _, _, _, hlen, hf⟩ := DataW.trod_struct Try.underlying47 h
  match cs, hl with
  | [c0, c1, c2, c3, c4, c5], _ =>
    simp only [List.size_toArray, List.length_cons, List.length_nil] at hlen
    match ys, hlen with
    | [y0, y1, y2, y3, y4, y5], _ =>
      have z0 : DataW.trod enc Try.prog w base (fun _ => true) held m 22 [c0] = some y0 := by have := hf 0 _ rfl; simpa [hu, hn, hb] using this
      have z1 : DataW.trod enc Try.prog w base (fun _ => true) held m 22 [c1] = some y1 := by have := hf 1 _ rfl; simpa [hu, hn, hb] using this
      have z2 : DataW.trod enc Try.prog w base (fun _ => true) held m 3 [c2] = some y2 := by have := hf 2 _ rfl; simpa [hu, hn, hb] using this
      have z3 : DataW.trod enc Try.prog w base (fun _ => true) held m 4 [c3] = some y3 := by have := hf 3 _ rfl; simpa [hu, hn, hb] using this
      have z4 : DataW.trod enc Try.prog w base (fun _ => true) held m 4 [c4] = some y4 := by have := hf 4 _ rfl; simpa [hu, hn, hb] using this
      have z5 : DataW.trod enc Try.prog w base (fun _ => true) held m 4 [c5] = some y5 := by have := hf 5 _ rfl; simpa [hu, hn, hb] using this
      obtain ⟨a, e0, _, w0⟩ := DataW.trod_int Try.underlying22 z0
      obtain ⟨b, e1, _, w1⟩ := DataW.trod_int Try.underlying22 z1
      obtain ⟨c, e2, _, w2⟩ := DataW.trod_int Try.underlying3 z2
      obtain ⟨d, e3, _⟩ := DataW.trod_bool Try.underlying4 z3
      obtain ⟨e, e4, _⟩ := DataW.trod_bool Try.underlying4 z4
      obtain ⟨f, e5, _⟩ := DataW.trod_bool Try.underlying4 z5
      simp only [List.cons.injEq, and_true] at e0 e1 e2 e3 e4 e5
      subst e0 e1 e2 e3 e4 e5
      exact ⟨⟨a, b, c, d, e, f⟩, ⟨(u64_of w0).1, (u64_of w0).2, (u64_of w1).1, (u64_of w1).2, (i64_of w2).1, (i64_of w2).2⟩, rfl⟩
set_option maxRecDepth 100000 in
theorem open_leaves {r : Reach} {b0 : Nat} {v : Value} {d : DataW H} {p : List MemPlace} (hc : Try.prog.cellsOf 47 = 6)
    (hv : Value.okWide Try.prog w r b0 48 v) (h : DataW.Trod enc Try.prog w base (fun _ => true) held 48 v d p) : ∃ (n : Nat) (l : List Mm.Lf), (∀ x ∈ l, x.ok) ∧ Mm.RdX w 6 v n (Mm.lfV l) := by
  obtain ⟨a1, len, cap, rfl⟩ := okWide_slice Try.underlying48 hv
  obtain ⟨fuel, hf⟩ := h
  rcases open_slice Try.underlying48 hf with ⟨hcs, _⟩ | ⟨a, len', cap', m, n, D, Pl, hcs, hb, hl, hm, hmm, hx, hi⟩
  · simp [Value.cells] at hcs
    obtain ⟨rfl, rfl, rfl⟩ := hcs
    exact ⟨0, [], fun x hx => (by cases hx), (by simp [Mm.lfV]), none, 0, rfl, Nat.le_refl _, Nat.zero_le _, fun h => absurd h (by omega)⟩
  · simp [Value.cells] at hcs
    obtain ⟨rfl, rfl, rfl⟩ := hcs
    simp only [if_true] at hmm
    have hel : ∀ i, i < len → ∃ x : Mm.Lf, x.ok ∧ ∀ j u, x.cells[j]? = some u → w.cell? ((a.add (i * 6)).add j) = some u := by
      intro i hlt
      obtain ⟨cs', hcells, htr⟩ := hi i (by omega)
      rw [hc] at hcells
      obtain ⟨_, hcl, hat⟩ := World.cells?_some hcells
      obtain ⟨x, hok, rfl⟩ := leaf_of (by kernel_rfl) (by kernel_rfl) (by kernel_rfl) htr hcl
      refine ⟨x, hok, fun j u hu => ?_⟩
      have hj : j < 6 := by
        have := (List.getElem?_eq_some_iff.1 hu).1
        exact this
      rw [hat j hj]; exact hu
    obtain ⟨l, hll, hP⟩ := list_of len hel
    refine ⟨len, l, fun x hx => ?_, (by rw [Mm.lfV_length, hll]), some a, cap, rfl, hl, hm, fun h0 => ?_⟩
    · obtain ⟨i, hi, rfl⟩ := List.getElem_of_mem hx
      exact (hP i _ (List.getElem?_eq_getElem hi)).1
    obtain ⟨ab, ao, spot⟩ := a
    have h00 : l[0]? = some (l[0]'(by omega)) := List.getElem?_eq_getElem _
    have hc0 := (hP 0 _ h00).2 0 _ rfl
    have hspot : spot = none := by simpa [Addr.add] using World.cell?_spot hc0
    subst hspot
    refine ⟨ab, ao, rfl, World.block_lt_of_cell? w _ hc0, fun i u hu => ?_⟩
    obtain ⟨x, hx, hxu⟩ := lfV_at hu
    have := (hP _ x hx).2 _ _ hxu
    rw [Addr.add_lit, Addr.add_lit] at this
    rw [← this, show ao + i / 6 * 6 + i % 6 = ao + i from by omega]
end

set_option maxRecDepth 100000 in
theorem lifted (os : Os) (started : os.Started) (H : Type) (enc : TypeId × Value → H) :
    ReturnsInHanded {} Try.checked os 5 .any (Rows.pagesBuildsSpec.pre6 enc Try.prog Try.f5 Rows.pagesBuildsRow.domain false) (Rows.pagesBuildsSpec.post enc Try.prog Try.f5 false true false false) := by
  refine returnsInHanded_of_change (C := Try.checked) own started (by kernel_rfl) Try.func5
    (ChangeSpec.witness6 (enc := enc) (C := Try.checked) false ⟨#[], #[.slice none 0 0, .int .u64 0, .int .i64 0], []⟩ 8 (by kernel_rfl) (by kernel_rfl) (by kernel_rfl) (by kernel_rfl)) ?_
  intro W base args ds gs before hval0 hW hcnd _
  have hval : ∀ (j : Nat) t v, Try.f5.params[j]? = some t → args[j]? = some v → Value.okWide Try.prog W .any base t v := hval0
  have hW' := hW
  obtain ⟨p, q, hA0, hV, rfl, hfz, hnd⟩ := hW
  have hA : DataW.TrodAll enc Try.prog W 0 (fun _ => true) true Try.f5.params.toList args.toList ds p := hA0
  rw [Try.params5] at hA hval
  obtain ⟨v0, vs0, d0, ds0, p0, q0, hargs, rfl, rfl, h0, r0⟩ := trodAll_cons hA
  obtain ⟨v1, vs1, d1, ds1, p1, q1, rfl, rfl, rfl, h1, r1⟩ := trodAll_cons r0
  obtain ⟨v2, vs2, d2, ds2, p2, q2, rfl, rfl, rfl, h2, r2⟩ := trodAll_cons r1
  obtain ⟨rfl, rfl, rfl⟩ := trodAll_nil r2
  obtain rfl : args = #[v0, v1, v2] := by cases args; simp_all
  obtain ⟨rfl, rfl⟩ := trodVars_none hV
  have k0 := h0
  have lt0 : ∀ x ∈ p0, x.block < W.heap.size := by obtain ⟨m, hm⟩ := k0; exact DataW.trod_lt m _ _ _ hm
  obtain ⟨n, l, hok0, hrd0⟩ := open_leaves (by kernel_rfl) (hval 0 48 v0 rfl rfl) h0
  have k1 := h1
  have lt1 : ∀ x ∈ p1, x.block < W.heap.size := by obtain ⟨m, hm⟩ := k1; exact DataW.trod_lt m _ _ _ hm
  obtain ⟨base, rfl, rfl, rfl, w1⟩ := open_int Try.underlying22 (hval 1 22 v1 rfl rfl) h1
  have k2 := h2
  have lt2 : ∀ x ∈ p2, x.block < W.heap.size := by obtain ⟨m, hm⟩ := k2; exact DataW.trod_lt m _ _ _ hm
  obtain ⟨at_, rfl, rfl, rfl, w2⟩ := open_int Try.underlying3 (hval 2 3 v2 rfl rfl) h2
  clear hA0 hval0
  refine (Mm.pagesBuilds_any _ n l hok0 base (u64_of w1).1 (u64_of w1).2 at_ (i64_of w2).1 (i64_of w2).2 W hrd0).mono fun e W' ⟨he, bel⟩ => ?_
  subst he
  exact ⟨_, rfl, _, _, _, [], _, [], hW', trodAll_mk1 (shut_bool Try.underlying4 _), (trodAll_cons_mk (Below.trod laidOut (by kernel_rfl) (of_decide_eq_true (by kernel_rfl)) k0 bel lt0) (trodAll_cons_mk (Below.trod laidOut (by kernel_rfl) (of_decide_eq_true (by kernel_rfl)) k1 bel lt1) (trodAll_cons_mk (Below.trod laidOut (by kernel_rfl) (of_decide_eq_true (by kernel_rfl)) k2 bel lt2) trodAll_mk0))), rfl, bel.frame _, fun h => by cases h⟩
theorem proved : Rows.PagesBuildsSaid :=
  OpenClaim.holds_of_wide 5 Try.f5 rfl rfl rfl rfl rfl rfl rfl ⟨rfl, rfl, rfl, rfl, rfl⟩ rfl rfl rfl rfl rfl (by kernel_rfl) Try.func5 (by kernel_rfl)
    (of_decide_eq_true (by kernel_rfl)) (by unfold Func.isWrapper; first | (rw [if_pos (by decide +kernel)]; kernel_rfl) | (rw [if_neg (by decide +kernel)]; exact ⟨rfl, rfl⟩))
    (fun os started H enc _ => lifted os started H enc)
#print axioms proved
end Go.Proofs.Ytaogndianciogaa.pagesBuilds
