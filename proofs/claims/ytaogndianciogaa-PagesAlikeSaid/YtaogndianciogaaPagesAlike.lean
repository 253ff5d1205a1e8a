/- The statement PagesAlike's own function answers true. -/
import Derived.Test.YtaogndianciogaaFew
namespace Go.Proofs.Ytaogndianciogaa.Mm
open Go.RowKit
set_option linter.unusedVariables false
set_option linter.unusedSimpArgs false
def eachE (l : List Lf) (i c : Nat) (x : Lf) : List Lf := ((l.take i).flatMap eachR ++ (List.range c).map (stepP x)).take 3000
theorem eachE_start (l : List Lf) (x : Lf) : eachE l 0 0 x = [] := by simp [eachE]
theorem eachE_any (l : List Lf) (i : Nat) (x y : Lf) : eachE l i 0 x = eachE l i 0 y := by simp [eachE]
theorem eachE_len (l : List Lf) (i c : Nat) (x : Lf) : (eachE l i c x).length ≤ 3000 := by unfold eachE; rw [List.length_take]; omega
theorem take_snoc' {P : List Lf} {y : Lf} (h : (P.take 3000).length < 3000) : (P ++ [y]).take 3000 = P.take 3000 ++ [y] := by
  rw [List.length_take] at h
  have h1 : P.length < 3000 := by omega
  rw [List.take_of_length_le (l := P) (by omega), List.take_of_length_le (by rw [List.length_append]; simp only [List.length_singleton]; omega)]
theorem take_more {P Q : List Lf} (h : (P.take 3000).length = 3000) : (P ++ Q).take 3000 = P.take 3000 := by
  rw [List.length_take] at h
  exact List.take_append_of_le_length (by omega)
theorem eachE_step {l : List Lf} {i c : Nat} {x : Lf} (h : (eachE l i c x).length < 3000) : eachE l i (c + 1) x = eachE l i c x ++ [stepP x c] := by
  unfold eachE at h ⊢
  rw [List.range_succ, List.map_append, ← List.append_assoc]
  exact take_snoc' h
theorem eachE_next {l : List Lf} {i c : Nat} {x y : Lf} (hx : l[i]? = some x) (h : c = cntP x ∨ (eachE l i c x).length = 3000 ∧ c ≤ cntP x) : eachE l i c x = eachE l (i + 1) 0 y := by
  have h1 : (l.take (i + 1)).flatMap eachR = (l.take i).flatMap eachR ++ (List.range (cntP x)).map (stepP x) := by
    rw [List.take_add_one, hx]; simp [eachR]
  unfold eachE at h ⊢
  rw [h1]
  simp only [List.range_zero, List.map_nil, List.append_nil]
  rcases h with rfl | ⟨h, hc⟩
  · rfl
  · obtain ⟨d, hd⟩ : ∃ d, cntP x = c + d := ⟨cntP x - c, by omega⟩
    rw [hd, List.range_add, List.map_append, ← List.append_assoc]
    exact (take_more h).symm
theorem eachE_end {l : List Lf} {x : Lf} (h : (eachE l l.length 0 x).length < 3000) : eachE l l.length 0 x = l.flatMap eachR := by
  unfold eachE at h ⊢
  rw [List.length_take] at h
  rw [List.take_length] at h ⊢
  simp only [List.range_zero, List.map_nil, List.append_nil] at h ⊢
  exact List.take_of_length_le (by omega)
theorem foldJ_len : ∀ (l out : List Lf), (l.foldl joinP out).length ≤ out.length + l.length := by
  intro l
  induction l with
  | nil => intro out; simp
  | cons x r ih =>
    intro out
    have h1 := ih (joinP out x)
    have h2 := joinP_len (out := out) (x := x)
    rw [List.foldl_cons, List.length_cons]
    omega
theorem runsP_len (l : List Lf) : (runsP l).length ≤ l.length := by
  have := foldJ_len l []
  simpa [runsP] using this
theorem RdX.of_ownL {w : World} {B : Nat} {T : TypeId} {sz : Nat} {v : Value} {n : Nat} {xs : List Value} (h : w.ownsRow B T sz v n xs) : RdX w sz v n xs := (RdC.of_own h).weak
theorem own_slice {w : World} {B : Nat} {T : TypeId} {sz : Nat} {v : Value} {n : Nat} {xs : List Value} (h : w.ownsRow B T sz v n xs) : ∃ A c, v = .slice A n c := by
  obtain ⟨_, A, c, e, _⟩ := RdC.of_own h
  exact ⟨A, c, e⟩
theorem own_weaken {w : World} {B B' : Nat} {T : TypeId} {sz : Nat} {v : Value} {n : Nat} {xs : List Value} (h : w.ownsRow B T sz v n xs) (hB : B' ≤ B) : w.ownsRow B' T sz v n xs := by
  obtain ⟨h1, h2⟩ := h
  refine ⟨h1, ?_⟩
  rcases h2 with h | ⟨g, cap, cur, e, hb, rest⟩
  · exact .inl h
  · exact .inr ⟨g, cap, cur, e, Nat.le_trans hB hb, rest⟩
set_option maxHeartbeats 16000000 in
set_option maxRecDepth 100000 in
theorem pagesAlike_any (v : Value) (n : Nat) (l : List Lf) (hok : ∀ x ∈ l, x.ok) (base : Int) (hb0 : 0 ≤ base) (hb1 : base < 18446744073709551616) (w : World) (hv : RdX w 6 v n (lfV l)) :
    Calls Try.prog 6 #[v, .int .u64 base] w (fun e w' => e = .returned (.bool true) ∧ Below w.heap.size w w') := by
  have hln : l.length = n := by have := hv.1; rw [lfV_length] at this; omega
  obtain ⟨A, c, rfl, hcm⟩ : ∃ A c, v = .slice A n c ∧ c ≤ 9223372036854775807 := by
    obtain ⟨_, A, c, e, h1, hm, _⟩ := hv
    exact ⟨A, c, e, by unfold maxLen at hm; omega⟩
  have hv' := Lib.hid hv
  have hok' := Lib.hid hok
  have han := andNot_4095 hb0 hb1
  have hmod : (base / 4096 * 4096).tmod 2147483648 = base / 4096 * 4096 % 2147483648 := by rw [Int.tmod_eq_emod_of_nonneg (by omega)]
  have hlf : ∀ W : World, RdX (W.alloc (.cells #[.int .u64 1073741824, .int .u64 0, .int .i64 1, .bool false, .bool false, .bool false] 47)) 6 (.slice (some ⟨W.heap.size, 0, none⟩) 1 1) 1 (lfV [firstLf]) := fun W =>
    ⟨rfl, _, 1, rfl, Nat.le_refl _, by decide, fun _ => ⟨W.heap.size, 0, rfl, by simp, fun i x hi => (cell_of_row _ _ _ _ _ _ (heap_alloc_new W _)).trans (by rw [Nat.zero_add]; simpa [lfV, Lf.cells, firstLf] using hi)⟩⟩
  have h1 := Lib.hid (Build_any _ 1 [firstLf] first_ok (base / 4096 * 4096 % 2147483648) (by omega) (by omega) _ (hlf w))
  obtain ⟨s1, hs1, hm1⟩ := first_tables (base := base / 4096 * 4096 % 2147483648) (by omega) (by omega) (by omega)
  rw [hs1] at h1
  clear hs1 hlf hv hok
  have hbel0 : Hid (Below w.heap.size w (w.alloc (.cells #[.int .u64 1073741824, .int .u64 0, .int .i64 1, .bool false, .bool false, .bool false] 47))) := (Below.refl _ _).alloc (Nat.le_refl _) _
  go_enter Try.func6, Try.ntmps6
  go_wp2_with fail
  refine h1.out.mono ?_
  rintro en w1 ⟨⟨va1, rfl, hown1⟩, hb1'⟩
  rw [hm1] at hown1
  obtain ⟨A1, c1, rfl⟩ := own_slice hown1
  have hbel1 : Hid (Below w.heap.size w w1) := hbel0.out.trans (hb1'.mono (by simp))
  clear hown1 hb1' h1 hbel0 hm1
  have h2 := Lib.hid (Build_any _ n l hok'.out base hb0 hb1 w1 (hv'.out.below hbel1.out))
  have hTd : ∀ r, tablesP base l = r → r = tablesP base l := fun r h => h.symm
  cases hT : tablesP base l with
  | error cd =>
    have hc0 : (cd != 0) = true := by simpa using tablesP_err hT
    rw [hT] at h2
    clear hT hTd
    go_wp2_with fail
    refine h2.out.mono ?_
    rintro en w2 ⟨hp, hb2'⟩
    have he : en = .returned (.tuple #[.slice none 0 0, .int .i64 cd]) := hp
    subst he
    have hbel2 : Hid (Below w.heap.size w w2) := hbel1.out.trans (hb2'.mono hbel1.out.size)
    clear hp hb2'
    go_wp2
    go_returns
    exact ⟨rfl, hbel2.out⟩
  | ok s =>
    have hnn : ∀ x ∈ l, 0 ≤ x.virt ∧ 0 ≤ x.phys := fun x hx => ⟨(hok'.out x hx).1, (hok'.out x hx).2.2.1⟩
    have hu := tables_u64 hnn hT
    have htree := tables_tree hb0 hnn hT
    have hr0 : rightP 0 l = 0 := (buildP_ok.1 (tablesP_ok.1 hT).1).1
    have hor := (right_ok hnn).1 hr0
    obtain ⟨hro, hre⟩ := runs_ok hor
    have hrr := Lib.hid (runs_runs hor)
    have hrT := Lib.hid (tables_alike hT (right_of_ok hro) hre)
    have heT := Lib.hid (tables_alike hT (right_of_ok (okRows_each hor)) (each_each (okRows_all hor)))
    have heR := Lib.hid (runs_each (okRows_all hor))
    have hrok : Hid (∀ x ∈ runsP l, x.ok) := fun x hx => good_ok (okRows_all hro x hx)
    have hrr0 := Lib.hid (right_of_ok hro)
    have heok : Hid (∀ x ∈ l.flatMap eachR, x.ok) := fun x hx => good_ok (okRows_all (okRows_each hor) x hx)
    have her0 := Lib.hid (right_of_ok (okRows_each hor))
    have hgood := Lib.hid (okRows_all hor)
    obtain ⟨sC, hsC, hmC⟩ := count_alike hrT.out
    have hsC' := Lib.hid hsC
    have hmC' := Lib.hid hmC
    have hu' := Lib.hid hu
    have htree' := Lib.hid htree
    have hr0' := Lib.hid hr0
    have hsm := hu.2.1
    rw [hT] at h2
    clear hT hTd hu htree hr0 hor hro hre hsC hmC hnn
    go_wp2_with fail
    refine h2.out.mono ?_
    rintro en w2 ⟨⟨va, rfl, hown⟩, hb2'⟩
    obtain ⟨A2, c2, rfl⟩ := own_slice hown
    have hL : Hid (w2.ownsRow w.heap.size 24 512 (.slice A2 s.m c2) s.m (u64V s.F)) := own_weaken hown hbel1.out.size
    have hbel2 : Hid (Below w.heap.size w w2) := hbel1.out.trans (hb2'.mono hbel1.out.size)
    clear hown hb2' h2 hbel1
    have h3 := Lib.hid (few_any _ n l w2 (hv'.out.below hbel2.out))
    go_wp2_with fail
    refine h3.out.mono ?_
    rintro en w2' ⟨⟨bf, rfl, hbf⟩, hw2⟩
    subst w2'
    clear h3
    cases bf with
    | false =>
      clear hbf
      go_wp2
      go_returns
      exact ⟨rfl, hbel2.out⟩
    | true =>
      have hn2 : n ≤ 20000 := hbf rfl
      clear hbf
      have h4 := Lib.hid (runs_any _ n l hok'.out (by omega) w2 (hv'.out.below hbel2.out))
      rw [if_pos hr0'.out, if_pos hr0'.out] at h4
      go_wp2_with fail
      refine h4.out.mono ?_
      rintro en w3 ⟨vr, rfl, hown, hb3'⟩
      obtain ⟨A3, c3, rfl⟩ := own_slice hown
      have hL3 : Hid (w3.ownsRow w.heap.size 24 512 (.slice A2 s.m c2) s.m (u64V s.F)) := own_below hL.out hb3'
      have hR3 : Hid (w3.ownsRow w.heap.size 47 6 (.slice A3 (runsP l).length c3) (runsP l).length (lfV (runsP l))) := own_weaken hown hbel2.out.size
      have hbel3 : Hid (Below w.heap.size w w3) := hbel2.out.trans (hb3'.mono hbel2.out.size)
      clear hown hb3' h4 hL hbel2
      have h5 := Lib.hid (Build_any _ _ (runsP l) hrok.out base hb0 hb1 w3 (RdX.of_ownL hR3.out))
      rw [hrT.out] at h5
      go_wp2_with fail
      refine h5.out.mono ?_
      rintro en w4 ⟨⟨vk, rfl, hown⟩, hb4'⟩
      obtain ⟨A4, c4, rfl⟩ := own_slice hown
      have hL4 : Hid (w4.ownsRow w.heap.size 24 512 (.slice A2 s.m c2) s.m (u64V s.F)) := own_below hL3.out hb4'
      have hR4 : Hid (w4.ownsRow w.heap.size 47 6 (.slice A3 (runsP l).length c3) (runsP l).length (lfV (runsP l))) := own_below hR3.out hb4'
      have hK4 : Hid (w4.ownsRow w.heap.size 24 512 (.slice A4 s.m c4) s.m (u64V s.F)) := own_weaken hown hbel3.out.size
      have hbel4 : Hid (Below w.heap.size w w4) := hbel3.out.trans (hb4'.mono hbel3.out.size)
      clear hown hb4' h5 hL3 hR3 hbel3
      have h6 := Lib.hid (count_any _ _ (runsP l) hrok.out w4 (RdX.of_ownL hR4.out))
      go_wp2_with fail
      refine h6.out.mono ?_
      rintro en w5 ⟨_, hen, hb5'⟩
      have he := hen sC hsC'.out
      rw [hmC'.out] at he
      subst he
      have hL5 : Hid (w5.ownsRow w.heap.size 24 512 (.slice A2 s.m c2) s.m (u64V s.F)) := own_below hL4.out hb5'
      have hR5 : Hid (w5.ownsRow w.heap.size 47 6 (.slice A3 (runsP l).length c3) (runsP l).length (lfV (runsP l))) := own_below hR4.out hb5'
      have hK5 : Hid (w5.ownsRow w.heap.size 24 512 (.slice A4 s.m c4) s.m (u64V s.F)) := own_below hK4.out hb5'
      have hbel5 : Hid (Below w.heap.size w w5) := hbel4.out.trans (hb5'.mono hbel4.out.size)
      clear hen hb5' h6 hL4 hR4 hK4 hbel4
      have h7 := Lib.hid (sameT_any _ _ _ _ s.F s.F w5 (RdX.of_ownL hK5.out) (RdX.of_ownL hL5.out))
      rw [decide_eq_true rfl] at h7
      go_wp2_with fail
      refine h7.out.mono ?_
      rintro en w6 ⟨rfl, j6, hw6⟩
      have hb6' : Below w5.heap.size w5 w6 := by rw [hw6]; exact below_drewN (Below.refl _ _) _
      have hL6 : Hid (w6.ownsRow w.heap.size 24 512 (.slice A2 s.m c2) s.m (u64V s.F)) := own_below hL5.out hb6'
      have hR6 : Hid (w6.ownsRow w.heap.size 47 6 (.slice A3 (runsP l).length c3) (runsP l).length (lfV (runsP l))) := own_below hR5.out hb6'
      have hbel6 : Hid (Below w.heap.size w w6) := hbel5.out.trans (hb6'.mono hbel5.out.size)
      clear hb6' hw6 h7 hL5 hR5 hK5 hbel5
      obtain ⟨iL, hiL, hzL, hsL, hbL⟩ := info_parts infoLf
      have hrlen : (runsP l).length ≤ 20000 := Nat.le_trans (runsP_len l) (by omega)
      have h8 := Lib.hid (runs_any _ _ (runsP l) hrok.out (by omega) w6 (RdX.of_ownL hR6.out))
      rw [if_pos hrr0.out, if_pos hrr0.out, hrr.out] at h8
      go_wp2_with fail
      refine h8.out.mono ?_
      rintro en w7 ⟨vq, rfl, hown, hb7'⟩
      obtain ⟨A7, c7, rfl⟩ := own_slice hown
      have hL7 : Hid (w7.ownsRow w.heap.size 24 512 (.slice A2 s.m c2) s.m (u64V s.F)) := own_below hL6.out hb7'
      have hR7 : Hid (w7.ownsRow w.heap.size 47 6 (.slice A3 (runsP l).length c3) (runsP l).length (lfV (runsP l))) := own_below hR6.out hb7'
      have hQ7 := Lib.hid hown
      have hbel7 : Hid (Below w.heap.size w w7) := hbel6.out.trans (hb7'.mono hbel6.out.size)
      clear hown hb7' h8 hL6 hR6 hbel6
      have h9 := Lib.hid (sameL_any _ _ _ _ (runsP l) (runsP l) w7 (RdX.of_ownL hQ7.out) (RdX.of_ownL hR7.out))
      rw [decide_eq_true rfl] at h9
      go_wp2_with fail
      refine h9.out.mono ?_
      rintro en w8 ⟨rfl, j8, hw8⟩
      have hb8' : Below w7.heap.size w7 w8 := by rw [hw8]; exact below_drewN (Below.refl _ _) _
      have hL8 : Hid (w8.ownsRow w.heap.size 24 512 (.slice A2 s.m c2) s.m (u64V s.F)) := own_below hL7.out hb8'
      have hR8 : Hid (w8.ownsRow w.heap.size 47 6 (.slice A3 (runsP l).length c3) (runsP l).length (lfV (runsP l))) := own_below hR7.out hb8'
      have hbel8 : Hid (Below w.heap.size w w8) := hbel7.out.trans (hb8'.mono hbel7.out.size)
      clear hb8' hw8 h9 hL7 hR7 hQ7 hbel7
      go_wp2_with fail
      go_loopg [13, 14] (n + 1) (fun g1 v13 v14 wr => ∃ i : Nat, i + g1 = n + 1 ∧ i ≤ n ∧ v14 = .int .i64 i ∧ Hid (wr.ownsRow w8.heap.size 47 6 v13 (eachE l i 0 firstLf).length (lfV (eachE l i 0 firstLf))) ∧ Hid (Below w8.heap.size w8 wr))
      case atStart => exact ⟨0, by omega, by omega, rfl, by rw [eachE_start]; exact World.ownsRow_nil _ _ _ _, Below.refl _ _⟩
      case round =>
        obtain ⟨i, hi, hin, rfl, hE, hbelw⟩ := hrel
        by_cases hltn : i < n
        · have hx' : l[i]? = some (l[i]'(by omega)) := List.getElem?_eq_getElem _
          have hxg := hgood.out _ (List.getElem_mem (show i < l.length by omega))
          generalize l[i]'(by omega) = x at hx' hxg
          have hx := Lib.hid hx'
          clear hx'
          obtain ⟨g, off, c', hve, _, _, hgl, hLeaf⟩ := RdX.leaf ((hv'.out.below hbel8.out).below hbelw.out) hx.out hltn
          cases hve
          obtain ⟨k0, k1, k2, k3, k4, k5⟩ := hLeaf
          have hltI : (i : Int) < (n : Int) := by omega
          obtain ⟨q1, q2, q3⟩ := cnt_eq hxg
          have hx0 := hxg.pages
          have hx1 := hxg.v0
          have hx2 := hxg.p0
          have hx3 : x.virt + x.pages * 4096 ≤ 549755813888 := hxg.v1
          have hx4 : x.phys + x.pages * 4096 ≤ 4294967296 := hxg.p1
          obtain ⟨cN, hcN'⟩ : ∃ cN, cntP x = cN := ⟨_, rfl⟩
          rw [hcN'] at q1 q2 q3
          obtain ⟨AE, cE, hvE⟩ := own_slice hE.out
          rcases unitP_cases x with ⟨hu, hbg⟩ | ⟨hu, hbg⟩
          · rw [hu] at q1 q3
            have hq3 : x.pages = cN * 1 := by omega
            have hcu := Lib.hid hu
            have hcN2 := Lib.hid hcN'
            clear q1 q3 hu
            rw [hbg] at k3
            go_wp2_with fail
            go_loopg [13, 16] (cN + 1) (fun g2 v13 v16 wq => ∃ (c : Nat) (J : Int), c + g2 = cN + 1 ∧ c ≤ cN ∧ v16 = .int .i64 J ∧ Hid (J = c * 1) ∧ Hid (wq.ownsRow w8.heap.size 47 6 v13 (eachE l i c x).length (lfV (eachE l i c x))) ∧ Hid (Below w8.heap.size w8 wq))
            case atStart => exact ⟨0, 0, by omega, by omega, rfl, by show _ = _; simp, by rw [eachE_any l i x firstLf]; exact hE, hbelw⟩
            case round =>
              clear hE hbelw k0 k1 k2 k3 k4 k5 hgl
              obtain ⟨c, J, hc, hcN, rfl, hJ, hE, hbelw⟩ := hrel
              have hJa : J ≤ c * 1 := Int.le_of_eq hJ.out
              have hJb : c * 1 ≤ J := Int.le_of_eq hJ.out.symm
              have hJ0 : 0 ≤ J := by omega
              obtain ⟨_, _, _, hve, _, _, hgl, hLeaf⟩ := RdX.leaf ((hv'.out.below hbel8.out).below hbelw.out) hx.out hltn
              cases hve
              obtain ⟨k0, k1, k2, k3, k4, k5⟩ := hLeaf
              rw [hbg] at k3
              have hlE := eachE_len l i c x
              obtain ⟨AE, cE, hve⟩ := own_slice hE.out
              subst hve
              generalize hEE : eachE l i c x = E at *
              have hEE' := Lib.hid hEE
              clear hEE
              by_cases hlc : c < cN
              · have hJlt : J < x.pages := by omega
                by_cases hl3 : E.length < 3000
                · have hl3I : (E.length : Int) < 3000 := by omega
                  have hst : Hid (stepP x c = ⟨x.virt + J * 4096, x.phys + J * 4096, 1, false, x.write, x.exec⟩) := by
                    show _ = _
                    unfold stepP
                    rw [hcu.out, hbg, hJ.out]
                    simp only [Lf.mk.injEq, and_true, true_and]
                    omega
                  have hE2 : Hid (eachE l i (c + 1) x = E ++ [⟨x.virt + J * 4096, x.phys + J * 4096, 1, false, x.write, x.exec⟩]) := by
                    show _ = _
                    rw [eachE_step (by rw [hEE'.out]; exact hl3), hEE'.out, hst.out]
                  have hJ2 : Hid (J + 1 = ((c + 1 : Nat) : Int) * 1) := by show _ = _; omega
                  have hW0 : Hid (∀ (j : Nat) u, (Lf.cells ⟨x.virt + J * 4096, x.phys + J * 4096, 1, false, x.write, x.exec⟩)[j]? = some u → ((wr.alloc (.cells #[.int .u64 (x.virt + J * 4096), .int .u64 (x.phys + J * 4096), .int .i64 1, .bool false, .bool x.write, .bool x.exec] 47)).alloc (.cells #[.int .u64 (x.virt + J * 4096), .int .u64 (x.phys + J * 4096), .int .i64 1, .bool false, .bool x.write, .bool x.exec] 47)).cell? ((⟨wr.heap.size + 1, 0, none⟩ : Addr).add j) = some u) := by
                    intro j u hj
                    rw [Addr.add_lit]
                    have := heap_alloc_new (wr.alloc (.cells #[.int .u64 (x.virt + J * 4096), .int .u64 (x.phys + J * 4096), .int .i64 1, .bool false, .bool x.write, .bool x.exec] 47)) (.cells #[.int .u64 (x.virt + J * 4096), .int .u64 (x.phys + J * 4096), .int .i64 1, .bool false, .bool x.write, .bool x.exec] 47)
                    rw [World.size_alloc] at this
                    exact (cell_of_row _ _ _ _ _ _ this).trans (by simpa [Lf.cells] using hj)
                  have hx1 : Hid (∀ u ∈ (Lf.cells ⟨x.virt + J * 4096, x.phys + J * 4096, 1, false, x.write, x.exec⟩), u.oneCell' = true) := by
                    have := lfV_oneCell [⟨x.virt + J * 4096, x.phys + J * 4096, 1, false, x.write, x.exec⟩]
                    rwa [lfV_one] at this
                  have hbB : Hid (Below wr.heap.size wr ((wr.alloc (.cells #[.int .u64 (x.virt + J * 4096), .int .u64 (x.phys + J * 4096), .int .i64 1, .bool false, .bool x.write, .bool x.exec] 47)).alloc (.cells #[.int .u64 (x.virt + J * 4096), .int .u64 (x.phys + J * 4096), .int .i64 1, .bool false, .bool x.write, .bool x.exec] 47))) := ((Below.refl _ _).alloc (Nat.le_refl _) _).alloc (by simp) _
                  have hEB := Lib.hid (own_below hE.out hbB.out)
                  have hsz := hbelw.out.size
                  have hbelB : Hid (Below w8.heap.size w8 ((wr.alloc (.cells #[.int .u64 (x.virt + J * 4096), .int .u64 (x.phys + J * 4096), .int .i64 1, .bool false, .bool x.write, .bool x.exec] 47)).alloc (.cells #[.int .u64 (x.virt + J * 4096), .int .u64 (x.phys + J * 4096), .int .i64 1, .bool false, .bool x.write, .bool x.exec] 47))) := hbelw.out.trans (hbB.out.mono hsz)
                  clear hJa hJb hst hE hbelw hbB
                  go_wp2_with (at_builtin; refine wpList_append_lies _ rfl (.tmp 131) (.tmp 133) 48 rfl w8.heap.size 47 iL (.agg #[.int .u64 0, .int .u64 0, .int .i64 0, .bool false, .bool false, .bool false]) 6 32 Try.underlying48 hiL hzL hsL hbL rfl (by decide) (.slice AE E.length cE) E.length (lfV E) rfl hEB.out ⟨wr.heap.size + 1, 0, none⟩ 1 1 (Lf.cells ⟨x.virt + J * 4096, x.phys + J * 4096, 1, false, x.write, x.exec⟩) rfl rfl hW0.out hx1.out (by decide) (by unfold maxLen; omega) (by omega) (by simp; omega) (wr.heap.size + 2) (by simp) ?_
                               intro g1 cap1 w2 hown' hgrow' hat' hltg1
                               have hown2 : Hid (w2.ownsRow w8.heap.size 47 6 (.slice (some ⟨g1, 0, none⟩) (E.length + 1) cap1) (eachE l i (c + 1) x).length (lfV (eachE l i (c + 1) x))) := by
                                 rw [hE2.out, lfV_append, lfV_one, List.length_append, List.length_singleton]; exact hown'
                               have hbel2 : Hid (Below w8.heap.size w8 w2) := hbelB.out.grown hgrow' (by simp; omega) (fun k e => by cases AE with
                                 | none => cases e
                                 | some a => exact (hEB.out.lt k e).1)
                               clear hown' hgrow' hat' hltg1)
                  clear hW0 hx1 hEB hbelB
                  go_wp2
                  go_roundg (cN - c)
                  case rel => exact ⟨c + 1, _, by omega, by omega, rfl, hJ2, hown2, hbel2⟩
                  case measure => omega
                · have hl3I : ¬ (E.length : Int) < 3000 := by omega
                  have hnext : Hid (E = eachE l (i + 1) 0 firstLf) := by show _ = _; rw [← hEE'.out]; exact eachE_next hx.out (.inr ⟨by rw [hEE'.out]; omega, by rw [hcN2.out]; omega⟩)
                  have hE3 : Hid (wr.ownsRow w8.heap.size 47 6 (.slice AE E.length cE) (eachE l (i + 1) 0 firstLf).length (lfV (eachE l (i + 1) 0 firstLf))) := by rw [← hnext.out]; exact hE.out
                  go_wp2
                  go_roundg (n - i)
                  case rel => exact ⟨i + 1, by omega, by omega, by simp, hE3, hbelw⟩
                  case measure => omega
              · obtain rfl : c = cN := by omega
                have hJge : ¬ J < x.pages := by omega
                have hnext : Hid (E = eachE l (i + 1) 0 firstLf) := by show _ = _; rw [← hEE'.out]; exact eachE_next hx.out (.inl hcN2.out.symm)
                have hE3 : Hid (wr.ownsRow w8.heap.size 47 6 (.slice AE E.length cE) (eachE l (i + 1) 0 firstLf).length (lfV (eachE l (i + 1) 0 firstLf))) := by rw [← hnext.out]; exact hE.out
                clear hJa hJb
                go_wp2
                go_roundg (n - i)
                case rel => exact ⟨i + 1, by omega, by omega, by simp, hE3, hbelw⟩
                case measure => omega
          · rw [hu] at q1 q3
            have hq3 : x.pages = cN * 512 := by omega
            have hcu := Lib.hid hu
            have hcN2 := Lib.hid hcN'
            clear q1 q3 hu
            rw [hbg] at k3
            go_wp2_with fail
            go_loopg [13, 16] (cN + 1) (fun g2 v13 v16 wq => ∃ (c : Nat) (J : Int), c + g2 = cN + 1 ∧ c ≤ cN ∧ v16 = .int .i64 J ∧ Hid (J = c * 512) ∧ Hid (wq.ownsRow w8.heap.size 47 6 v13 (eachE l i c x).length (lfV (eachE l i c x))) ∧ Hid (Below w8.heap.size w8 wq))
            case atStart => exact ⟨0, 0, by omega, by omega, rfl, by show _ = _; simp, by rw [eachE_any l i x firstLf]; exact hE, hbelw⟩
            case round =>
              clear hE hbelw k0 k1 k2 k3 k4 k5 hgl
              obtain ⟨c, J, hc, hcN, rfl, hJ, hE, hbelw⟩ := hrel
              have hJa : J ≤ c * 512 := Int.le_of_eq hJ.out
              have hJb : c * 512 ≤ J := Int.le_of_eq hJ.out.symm
              have hJ0 : 0 ≤ J := by omega
              obtain ⟨_, _, _, hve, _, _, hgl, hLeaf⟩ := RdX.leaf ((hv'.out.below hbel8.out).below hbelw.out) hx.out hltn
              cases hve
              obtain ⟨k0, k1, k2, k3, k4, k5⟩ := hLeaf
              rw [hbg] at k3
              have hlE := eachE_len l i c x
              obtain ⟨AE, cE, hve⟩ := own_slice hE.out
              subst hve
              generalize hEE : eachE l i c x = E at *
              have hEE' := Lib.hid hEE
              clear hEE
              by_cases hlc : c < cN
              · have hJlt : J < x.pages := by omega
                by_cases hl3 : E.length < 3000
                · have hl3I : (E.length : Int) < 3000 := by omega
                  have hst : Hid (stepP x c = ⟨x.virt + J * 4096, x.phys + J * 4096, 512, true, x.write, x.exec⟩) := by
                    show _ = _
                    unfold stepP
                    rw [hcu.out, hbg, hJ.out]
                    simp only [Lf.mk.injEq, and_true, true_and]
                    omega
                  have hE2 : Hid (eachE l i (c + 1) x = E ++ [⟨x.virt + J * 4096, x.phys + J * 4096, 512, true, x.write, x.exec⟩]) := by
                    show _ = _
                    rw [eachE_step (by rw [hEE'.out]; exact hl3), hEE'.out, hst.out]
                  have hJ2 : Hid (J + 512 = ((c + 1 : Nat) : Int) * 512) := by show _ = _; omega
                  have hW0 : Hid (∀ (j : Nat) u, (Lf.cells ⟨x.virt + J * 4096, x.phys + J * 4096, 512, true, x.write, x.exec⟩)[j]? = some u → ((wr.alloc (.cells #[.int .u64 (x.virt + J * 4096), .int .u64 (x.phys + J * 4096), .int .i64 512, .bool true, .bool x.write, .bool x.exec] 47)).alloc (.cells #[.int .u64 (x.virt + J * 4096), .int .u64 (x.phys + J * 4096), .int .i64 512, .bool true, .bool x.write, .bool x.exec] 47)).cell? ((⟨wr.heap.size + 1, 0, none⟩ : Addr).add j) = some u) := by
                    intro j u hj
                    rw [Addr.add_lit]
                    have := heap_alloc_new (wr.alloc (.cells #[.int .u64 (x.virt + J * 4096), .int .u64 (x.phys + J * 4096), .int .i64 512, .bool true, .bool x.write, .bool x.exec] 47)) (.cells #[.int .u64 (x.virt + J * 4096), .int .u64 (x.phys + J * 4096), .int .i64 512, .bool true, .bool x.write, .bool x.exec] 47)
                    rw [World.size_alloc] at this
                    exact (cell_of_row _ _ _ _ _ _ this).trans (by simpa [Lf.cells] using hj)
                  have hx1 : Hid (∀ u ∈ (Lf.cells ⟨x.virt + J * 4096, x.phys + J * 4096, 512, true, x.write, x.exec⟩), u.oneCell' = true) := by
                    have := lfV_oneCell [⟨x.virt + J * 4096, x.phys + J * 4096, 512, true, x.write, x.exec⟩]
                    rwa [lfV_one] at this
                  have hbB : Hid (Below wr.heap.size wr ((wr.alloc (.cells #[.int .u64 (x.virt + J * 4096), .int .u64 (x.phys + J * 4096), .int .i64 512, .bool true, .bool x.write, .bool x.exec] 47)).alloc (.cells #[.int .u64 (x.virt + J * 4096), .int .u64 (x.phys + J * 4096), .int .i64 512, .bool true, .bool x.write, .bool x.exec] 47))) := ((Below.refl _ _).alloc (Nat.le_refl _) _).alloc (by simp) _
                  have hEB := Lib.hid (own_below hE.out hbB.out)
                  have hsz := hbelw.out.size
                  have hbelB : Hid (Below w8.heap.size w8 ((wr.alloc (.cells #[.int .u64 (x.virt + J * 4096), .int .u64 (x.phys + J * 4096), .int .i64 512, .bool true, .bool x.write, .bool x.exec] 47)).alloc (.cells #[.int .u64 (x.virt + J * 4096), .int .u64 (x.phys + J * 4096), .int .i64 512, .bool true, .bool x.write, .bool x.exec] 47))) := hbelw.out.trans (hbB.out.mono hsz)
                  clear hJa hJb hst hE hbelw hbB
                  go_wp2_with (at_builtin; refine wpList_append_lies _ rfl (.tmp 131) (.tmp 133) 48 rfl w8.heap.size 47 iL (.agg #[.int .u64 0, .int .u64 0, .int .i64 0, .bool false, .bool false, .bool false]) 6 32 Try.underlying48 hiL hzL hsL hbL rfl (by decide) (.slice AE E.length cE) E.length (lfV E) rfl hEB.out ⟨wr.heap.size + 1, 0, none⟩ 1 1 (Lf.cells ⟨x.virt + J * 4096, x.phys + J * 4096, 512, true, x.write, x.exec⟩) rfl rfl hW0.out hx1.out (by decide) (by unfold maxLen; omega) (by omega) (by simp; omega) (wr.heap.size + 2) (by simp) ?_
                               intro g1 cap1 w2 hown' hgrow' hat' hltg1
                               have hown2 : Hid (w2.ownsRow w8.heap.size 47 6 (.slice (some ⟨g1, 0, none⟩) (E.length + 1) cap1) (eachE l i (c + 1) x).length (lfV (eachE l i (c + 1) x))) := by
                                 rw [hE2.out, lfV_append, lfV_one, List.length_append, List.length_singleton]; exact hown'
                               have hbel2 : Hid (Below w8.heap.size w8 w2) := hbelB.out.grown hgrow' (by simp; omega) (fun k e => by cases AE with
                                 | none => cases e
                                 | some a => exact (hEB.out.lt k e).1)
                               clear hown' hgrow' hat' hltg1)
                  clear hW0 hx1 hEB hbelB
                  go_wp2
                  go_roundg (cN - c)
                  case rel => exact ⟨c + 1, _, by omega, by omega, rfl, hJ2, hown2, hbel2⟩
                  case measure => omega
                · have hl3I : ¬ (E.length : Int) < 3000 := by omega
                  have hnext : Hid (E = eachE l (i + 1) 0 firstLf) := by show _ = _; rw [← hEE'.out]; exact eachE_next hx.out (.inr ⟨by rw [hEE'.out]; omega, by rw [hcN2.out]; omega⟩)
                  have hE3 : Hid (wr.ownsRow w8.heap.size 47 6 (.slice AE E.length cE) (eachE l (i + 1) 0 firstLf).length (lfV (eachE l (i + 1) 0 firstLf))) := by rw [← hnext.out]; exact hE.out
                  go_wp2
                  go_roundg (n - i)
                  case rel => exact ⟨i + 1, by omega, by omega, by simp, hE3, hbelw⟩
                  case measure => omega
              · obtain rfl : c = cN := by omega
                have hJge : ¬ J < x.pages := by omega
                have hnext : Hid (E = eachE l (i + 1) 0 firstLf) := by show _ = _; rw [← hEE'.out]; exact eachE_next hx.out (.inl hcN2.out.symm)
                have hE3 : Hid (wr.ownsRow w8.heap.size 47 6 (.slice AE E.length cE) (eachE l (i + 1) 0 firstLf).length (lfV (eachE l (i + 1) 0 firstLf))) := by rw [← hnext.out]; exact hE.out
                clear hJa hJb
                go_wp2
                go_roundg (n - i)
                case rel => exact ⟨i + 1, by omega, by omega, by simp, hE3, hbelw⟩
                case measure => omega
        · obtain rfl : i = n := by omega
          have hL9 : Hid (wr.ownsRow w.heap.size 24 512 (.slice A2 s.m c2) s.m (u64V s.F)) := own_below hL8.out hbelw.out
          have hR9 : Hid (wr.ownsRow w.heap.size 47 6 (.slice A3 (runsP l).length c3) (runsP l).length (lfV (runsP l))) := own_below hR8.out hbelw.out
          have hbel9 : Hid (Below w.heap.size w wr) := hbel8.out.trans (hbelw.out.mono hbel8.out.size)
          have hend := Lib.hid (fun h => eachE_end (l := l) (x := firstLf) h)
          rw [hln] at hend
          obtain ⟨AE, cE, hve⟩ := own_slice hE.out
          subst hve
          generalize eachE l i 0 firstLf = E at *
          clear hL8 hR8 hbel8 hbelw
          by_cases hl3 : E.length < 3000
          · have hl3I : (E.length : Int) < 3000 := by omega
            have hEe := Lib.hid (hend.out hl3)
            clear hend
            have h10 := Lib.hid (Build_any _ _ E (by rw [hEe.out]; exact heok.out) base hb0 hb1 wr (RdX.of_ownL hE.out))
            rw [show tablesP base E = .ok s from by rw [hEe.out]; exact heT.out] at h10
            go_wp2_with fail
            refine h10.out.mono ?_
            rintro en w10 ⟨⟨vk, rfl, hown⟩, hb10'⟩
            obtain ⟨A10, c10, rfl⟩ := own_slice hown
            have hK10 := Lib.hid hown
            have hL10 := Lib.hid (own_below hL9.out hb10')
            have hR10 := Lib.hid (own_below hR9.out hb10')
            have hE10 := Lib.hid (own_below hE.out hb10')
            have hbel10 : Hid (Below w.heap.size w w10) := hbel9.out.trans (hb10'.mono hbel9.out.size)
            clear hown hb10' h10 hL9 hR9 hE hbel9
            have h11 := Lib.hid (sameT_any _ _ _ _ s.F s.F w10 (RdX.of_ownL hK10.out) (RdX.of_ownL hL10.out))
            rw [decide_eq_true rfl] at h11
            go_wp2_with fail
            refine h11.out.mono ?_
            rintro en w11 ⟨rfl, j11, hw11⟩
            have hb11' : Below w10.heap.size w10 w11 := by rw [hw11]; exact below_drewN (Below.refl _ _) _
            have hL11 := Lib.hid (own_below hL10.out hb11')
            have hR11 := Lib.hid (own_below hR10.out hb11')
            have hE11 := Lib.hid (own_below hE10.out hb11')
            have hbel11 : Hid (Below w.heap.size w w11) := hbel10.out.trans (hb11'.mono hbel10.out.size)
            clear hb11' hw11 h11 hL10 hR10 hK10 hE10 hbel10
            have h12 := Lib.hid (runs_any _ _ E (by rw [hEe.out]; exact heok.out) (by omega) w11 (RdX.of_ownL hE11.out))
            rw [show rightP 0 E = 0 from by rw [hEe.out]; exact her0.out, if_pos rfl, if_pos rfl, show runsP E = runsP l from by rw [hEe.out]; exact heR.out] at h12
            go_wp2_with fail
            refine h12.out.mono ?_
            rintro en w12 ⟨vq, rfl, hown, hb12'⟩
            obtain ⟨A12, c12, rfl⟩ := own_slice hown
            have hQ12 := Lib.hid hown
            have hL12 := Lib.hid (own_below hL11.out hb12')
            have hR12 := Lib.hid (own_below hR11.out hb12')
            have hbel12 : Hid (Below w.heap.size w w12) := hbel11.out.trans (hb12'.mono hbel11.out.size)
            clear hown hb12' h12 hL11 hR11 hE11 hbel11
            have h13 := Lib.hid (sameL_any _ _ _ _ (runsP l) (runsP l) w12 (RdX.of_ownL hQ12.out) (RdX.of_ownL hR12.out))
            rw [decide_eq_true rfl] at h13
            go_wp2_with fail
            refine h13.out.mono ?_
            rintro en w13 ⟨rfl, j13, hw13⟩
            have hb13' : Below w12.heap.size w12 w13 := by rw [hw13]; exact below_drewN (Below.refl _ _) _
            have hLE := Lib.hid (own_below hL12.out hb13')
            have hbelE : Hid (Below w.heap.size w w13) := hbel12.out.trans (hb13'.mono hbel12.out.size)
            clear hb13' hw13 h13 hL12 hR12 hQ12 hbel12
            go_wp2_with fail
            refine (tree_any (.slice A2 s.m c2) s.m s.F base htree'.out.2.1 hu'.out.1 htree'.out.2.2 (by omega) hb0 hu'.out.2.2 _ (RdC.of_own hLE.out)).mono ?_
            rintro en w20 ⟨rfl, hb20'⟩
            have hbel20 : Hid (Below w.heap.size w w20) := hbelE.out.trans (hb20'.mono hbelE.out.size)
            clear hb20'
            go_wp2
            go_returns
            exact ⟨by rw [htree'.out.1]; rfl, hbel20.out⟩
          · have hl3I : ¬ (E.length : Int) < 3000 := by omega
            have hLE := hL9
            have hbelE := hbel9
            clear hend hL9 hR9 hbel9
            go_wp2_with fail
            refine (tree_any (.slice A2 s.m c2) s.m s.F base htree'.out.2.1 hu'.out.1 htree'.out.2.2 (by omega) hb0 hu'.out.2.2 _ (RdC.of_own hLE.out)).mono ?_
            rintro en w20 ⟨rfl, hb20'⟩
            have hbel20 : Hid (Below w.heap.size w w20) := hbelE.out.trans (hb20'.mono hbelE.out.size)
            clear hb20'
            go_wp2
            go_returns
            exact ⟨by rw [htree'.out.1]; rfl, hbel20.out⟩
end Go.Proofs.Ytaogndianciogaa.Mm
