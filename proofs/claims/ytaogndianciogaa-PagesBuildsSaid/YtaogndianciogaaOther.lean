/- bulkheadbook.Within, bulkheadlaw12.other. -/
import Derived.Test.YtaogndianciogaaMroom
import Derived.Test.YtaogndianciogaaQuietB
import Derived.Deep.DeepCutAuto
namespace Go.Proofs.Ytaogndianciogaa.Mm
open Go.RowKit
set_option linter.unusedVariables false
set_option linter.unusedSimpArgs false
set_option maxHeartbeats 1000000 in
theorem within_any (a : Int) (n : Nat) (h0 : 0 < n) (hn : n ≤ 1000000) (ha : -9223372036854775808 ≤ a) (ha2 : a < 9223372036854775808) (w : World) :
    Calls Try.prog 45 #[.int .i64 a, .int .i64 0, .int .i64 ((n : Int) - 1)] w (fun e w' => ∃ k : Nat, k < n ∧ e = .returned (.int .i64 k) ∧ w' = w) := by
  have e1 : (n : Int) - 1 - 0 + 1 = n := by omega
  have e2 : (n : Int) - 1 + 1 = n := by omega
  obtain ⟨q, hq⟩ : ∃ q, a.tmod (n : Int) = q := ⟨_, rfl⟩
  have hq1 : -(n : Int) < q ∧ q < n := by
    rw [← hq]
    constructor
    · have := Int.tmod_lt_of_pos (-a) (show (0 : Int) < n by omega)
      rw [Int.neg_tmod] at this; omega
    · exact Int.tmod_lt_of_pos a (by omega)
  obtain ⟨hq2, hq3⟩ := hq1
  have hnI : ¬ (n : Int) = 0 := by omega
  have hnI2 : (0 : Int) < n := by omega
  have hdv : ((n : Int) == 0) = false := by simp; omega
  by_cases hneg : q < 0
  · go_enter Try.func45, Try.ntmps45
    go_wp2
    go_returns
    exact ⟨(q + n).toNat, by omega, by rw [Int.toNat_of_nonneg (by omega), show q + (n : Int) = q + ((n : Int) - 1) + 1 from by omega]; rfl, rfl⟩
  · go_enter Try.func45, Try.ntmps45
    go_wp2
    go_returns
    exact ⟨q.toNat, by omega, by rw [Int.toNat_of_nonneg (by omega)]; rfl, rfl⟩
theorem lfV_set1 {l : List Lf} {k : Nat} {x : Lf} (hx : l[k]? = some x) {o : Nat} (ho : o < 6) (u : Value) (y : Lf) (hy : ∀ j, j < 6 → j ≠ o → y.cells[j]? = x.cells[j]?) (hyo : y.cells[o]? = some u) : (lfV l).set (k * 6 + o) u = lfV (l.set k y) := by
  have hk : k < l.length := (List.getElem?_eq_some_iff.1 hx).1
  have hyk : (l.set k y)[k]? = some y := List.getElem?_set_self hk
  apply List.ext_getElem?
  intro i
  by_cases hi : i < l.length * 6
  · by_cases he : i = k * 6 + o
    · subst he
      rw [List.getElem?_set_self (by rw [lfV_length]; exact hi), lfV_get hyk o ho, hyo]
    · rw [List.getElem?_set_ne (fun e => he e.symm)]
      have hq : i / 6 < l.length := by omega
      by_cases hik : i / 6 = k
      · have e1 := lfV_get hx (i % 6) (by omega)
        have e2 := lfV_get hyk (i % 6) (by omega)
        rw [show k * 6 + i % 6 = i from by omega] at e1 e2
        rw [e1, e2]
        exact (hy (i % 6) (by omega) (by omega)).symm
      · have h1 : l[i / 6]? = some l[i / 6] := List.getElem?_eq_getElem hq
        have h2 : (l.set k y)[i / 6]? = some l[i / 6] := by rw [List.getElem?_set_ne (fun e => hik e.symm)]; exact h1
        have e1 := lfV_get h1 (i % 6) (by omega)
        have e2 := lfV_get h2 (i % 6) (by omega)
        rw [show i / 6 * 6 + i % 6 = i from by omega] at e1 e2
        rw [e1, e2]
  · rw [List.getElem?_eq_none (by rw [List.length_set, lfV_length]; omega), List.getElem?_eq_none (by rw [lfV_length, List.length_set]; omega)]
theorem cells_write (x : Lf) (b : Bool) : ∀ j, j < 6 → j ≠ 4 → ({ x with write := b } : Lf).cells[j]? = x.cells[j]? := by
  intro j hj hn
  have : j = 0 ∨ j = 1 ∨ j = 2 ∨ j = 3 ∨ j = 5 := by omega
  rcases this with rfl | rfl | rfl | rfl | rfl <;> rfl
theorem cells_phys (x : Lf) (b : Int) : ∀ j, j < 6 → j ≠ 1 → ({ x with phys := b } : Lf).cells[j]? = x.cells[j]? := by
  intro j hj hn
  have : j = 0 ∨ j = 2 ∨ j = 3 ∨ j = 4 ∨ j = 5 := by omega
  rcases this with rfl | rfl | rfl | rfl | rfl <;> rfl
/-- append([]T(nil), l...) of a list of which the cells alone are known -/
theorem run_append_nil_copyX {P : Program} (w : World) (t ty e : TypeId) (i : TypeInfo) (z : Value) (sz bytes : Nat) (ht : P.underlying t = some (.slice e)) (hi : P.info? e = some i) (hz : i.zero = some z)
    (hsize : i.size = sz) (hby : i.bytes = bytes) (hzs : z.cells.size = sz) (hsz : 0 < sz) {v : Value} {n : Nat} {xs : List Value} (h : RdX w sz v n xs) (h1 : ∀ u ∈ xs, u.oneCell' = true) (hb : n * bytes ≤ 140737488355328) :
    ∃ u w', (Builtin.append_ #[t, t] ty #[.slice none 0 0, v]).run P w = .ok u w' ∧ w'.ownsRow w.heap.size e sz u n xs ∧ Below w.heap.size w w' := by
  obtain ⟨hl, A, c, rfl, hnc, hcm, hr⟩ := h
  cases A with
  | none =>
    obtain rfl : n = 0 := by
      rcases Nat.eq_zero_or_pos n with e | e
      · exact e
      · obtain ⟨_, _, e2, _⟩ := hr e; cases e2
    obtain rfl : xs = [] := List.eq_nil_of_length_eq_zero (by omega)
    refine ⟨.slice none 0 0, w, ?_, World.ownsRow_nil w _ e sz, Below.refl _ _⟩
    subst hsize
    simp [Builtin.append_, run_underlying ht, sizeOf, typeInfo, hi, Builtin.lenOf, Builtin.firstCells]
  | some ad =>
    have hcells : ∀ (j : Nat) u, xs[j]? = some u → w.cell? (ad.add j) = some u := by
      intro j u hj
      have hn : 0 < n := by
        have := (List.getElem?_eq_some_iff.1 hj).1
        apply Nat.pos_of_ne_zero; rintro rfl; simp at hl; subst hl; simp at this
      obtain ⟨gb, off, e, hg, hx⟩ := hr hn
      cases e
      rw [Addr.add_lit]
      exact hx j u hj
    obtain ⟨v', w', hrun, r1, r2, _⟩ := run_append_own (P := P) w w.heap.size t ty e i z sz bytes ht hi hz hsize hby hzs hsz (.slice none 0 0) 0 [] (World.ownsRow_nil w _ e sz) ad n c xs hl hcells h1 (by omega) (by simpa using hb) (Nat.le_refl _)
    refine ⟨v', w', hrun, by simpa using r1, (Below.refl _ _).grown r2 (Nat.le_refl _) (fun k e => by cases e)⟩
theorem wpList_append_nil_copyX {P : Program} {w : World} {ops : Array Oper} {rest : List Oper} {o : Oper} {a : Act} {Q : Exit → Act → World → Prop} (hgd : o.guard = none) (s y : Operand) (t : TypeId)
    (ho : o.op = .call { callee := .builtin .append, args := #[s, y], argTypes := #[t, t] }) (e : TypeId) (i : TypeInfo) (z : Value) (sz bytes : Nat) (ht : P.underlying t = some (.slice e)) (hi : P.info? e = some i) (hz : i.zero = some z)
    (hsize : i.size = sz) (hby : i.bytes = bytes) (hzs : z.cells.size = sz) (hsz : 0 < sz) (v : Value) (n : Nat) (xs : List Value) (hs : a.eval s = .slice none 0 0) (hy : a.eval y = v) (h : RdX w sz v n xs) (h1 : ∀ u ∈ xs, u.oneCell' = true) (hb : n * bytes ≤ 140737488355328)
    (hK : ∀ u w', w'.ownsRow w.heap.size e sz u n xs → Below w.heap.size w w' → wpList P ops Q rest (a.put o.dst u) w') : wpList P ops Q (o :: rest) a w := by
  refine wpList_plain hgd fun K hK' => ?_
  obtain ⟨u, w', hr, h2, h3⟩ := run_append_nil_copyX (P := P) w t o.type e i z sz bytes ht hi hz hsize hby hzs hsz h h1 hb
  unfold Oper.wp execOp
  simp only [ho, resolve, invoke, builtin, Sem.run_bind, Sem.run_pure, Result.andThen_ok, List.map_toArray, List.map_cons, List.map_nil, hs, hy, hr]
  exact hK' _ _ (hK u w' h2 h3)
set_option maxHeartbeats 4000000 in
set_option maxRecDepth 100000 in
theorem other_any (v : Value) (n : Nat) (l : List Lf) (hok : ∀ x ∈ l, x.ok) (hn : n ≤ 20000) (at_ : Int) (ha : -9223372036854775808 ≤ at_) (ha2 : at_ < 9223372036854775808) (w : World) (hv : RdX w 6 v n (lfV l)) :
    Calls Try.prog 21 #[v, .int .i64 at_] w (fun e w' => ∃ v' l', e = .returned v' ∧ (∀ x ∈ l', x.ok) ∧ w'.ownsRow w.heap.size 47 6 v' n (lfV l') ∧ Below w.heap.size w w') := by
  have hln : l.length = n := by have := hv.1; rw [lfV_length] at this; omega
  obtain ⟨iL, hiL, hzL, hsL, hbL⟩ := info_parts infoLf
  obtain ⟨A, c, rfl, hcm⟩ : ∃ A c, v = .slice A n c ∧ c ≤ 9223372036854775807 := by
    obtain ⟨_, A, c, e, h1, hm, _⟩ := hv
    exact ⟨A, c, e, by unfold maxLen at hm; omega⟩
  have hv' := Lib.hid hv
  have hok' := Lib.hid hok
  clear hv hok
  go_enter Try.func21, Try.ntmps21
  go_upto_region 2 with (at_builtin; refine wpList_append_nil_copyX rfl _ (.tmp 7) 48 rfl 47 iL _ 6 32 Try.underlying48 hiL hzL hsL hbL rfl (by omega) (.slice A n c) n (lfV l) rfl rfl hv'.out (lfV_oneCell l) (by omega) ?_
                         intro u w1 hown1' hbel1'
                         obtain ⟨A2, c2, hue⟩ := own_sl hown1'
                         subst hue
                         have hown1 := Lib.hid hown1'
                         have hbel1 := Lib.hid hbel1'
                         clear hown1' hbel1')
  by_cases h0 : n = 0
  · subst h0
    go_wp2
    go_returns
    exact ⟨_, l, rfl, hok'.out, hown1.out, hbel1.out⟩
  · have hnI : (0 : Int) < (n : Int) := by omega
    have hnN : 0 < n := by omega
    have hwi : Hid (∀ W, Calls Try.prog 45 #[.int .i64 at_, .int .i64 0, .int .i64 ((n : Int) - 1)] W (fun e w' => ∃ k : Nat, k < n ∧ e = .returned (.int .i64 k) ∧ w' = W)) := fun W => within_any at_ n (by omega) (by omega) ha ha2 W
    clear h0
    go_wp2_with (go_at_call 45; refine (hwi.out _).mono ?_; rintro en w2 ⟨k, hk, rfl, hw2⟩; subst w2
                 obtain ⟨g, cap, cur, e9, hBg, hgb, hnc, hcm2, hcs, hta⟩ := own_obj hown1.out hnN
                 cases e9
                 have hx : l[k]? = some (l[k]'(by omega)) := List.getElem?_eq_getElem _
                 generalize l[k]'(by omega) = x at hx
                 obtain ⟨_, _, _, hve, _, _, _, hL⟩ := RdX.leaf (RdC.of_own hown1.out).weak hx hk
                 cases hve
                 obtain ⟨c0, c1, c2, c3, c4, c5⟩ := hL
                 rw [Nat.zero_add] at c0 c1 c2 c3 c4 c5
                 have f4 : w1.frozen? ⟨g, k * 6 + 4, none⟩ = false := frozen_of_block hgb
                 have f1 : w1.frozen? ⟨g, k * 6 + 1, none⟩ = false := frozen_of_block hgb
                 have hkI : (k : Int) < (n : Int) := by omega)
    go_returns
    have hxo := hok'.out x (List.mem_of_getElem? hx)
    have hkl : k * 6 + 4 < n * 6 := by omega
    have s1 := lfV_set1 hx (o := 4) (by omega) (.bool !x.write) { x with write := !x.write } (cells_write x _) rfl
    have hx2 : (l.set k { x with write := !x.write })[k]? = some { x with write := !x.write } := List.getElem?_set_self (by omega)
    have s2 := lfV_set1 hx2 (o := 1) (by omega) (.int .u64 (bits .xor .u64 x.phys 4194304)) { x with write := !x.write, phys := bits .xor .u64 x.phys 4194304 } (cells_phys { x with write := !x.write } _) rfl
    have o1 := ownsRow_set hown1.out (i := k * 6 + 4) (by omega) (.bool !x.write)
    rw [s1] at o1
    have o2 := ownsRow_set o1 (i := k * 6 + 1) (by omega) (.int .u64 (bits .xor .u64 x.phys 4194304))
    rw [s2] at o2
    refine ⟨_, _, rfl, ?_, o2, (hbel1.out.setCell hBg _).setCell hBg _⟩
    intro y hy
    rw [List.set_set] at hy
    rcases List.mem_or_eq_of_mem_set hy with hy | hy
    · exact hok'.out y hy
    · subst hy
      obtain ⟨p1, p2, p3, p4, p5, p6⟩ := hxo
      refine ⟨p1, p2, ?_, ?_, p5, p6⟩
      · show 0 ≤ bits .xor .u64 x.phys 4194304
        rw [u64_xor x.phys 4194304 p3 p4 (by omega) (by omega)]
        exact Int.natCast_nonneg _
      · show bits .xor .u64 x.phys 4194304 < 18446744073709551616
        rw [u64_xor x.phys 4194304 p3 p4 (by omega) (by omega)]
        have : x.phys.toNat ^^^ (4194304 : Int).toNat < 2 ^ 64 := Nat.xor_lt_two_pow (by omega) (by decide)
        omega
end Go.Proofs.Ytaogndianciogaa.Mm
