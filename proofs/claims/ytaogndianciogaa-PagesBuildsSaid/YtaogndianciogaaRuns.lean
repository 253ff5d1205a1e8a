/- pages.Runs. -/
import Derived.Test.YtaogndianciogaaEqLf
import Derived.Test.YtaogndianciogaaAlikeP
import Derived.Test.YtaogndianciogaaChild
namespace Go.Proofs.Ytaogndianciogaa.Mm
open Go.RowKit
set_option linter.unusedVariables false
set_option linter.unusedSimpArgs false
theorem infoLf : (Try.prog.info? 47).map (fun i => (i.zero, i.size, i.bytes)) = some (some (.agg #[.int .u64 0, .int .u64 0, .int .i64 0, .bool false, .bool false, .bool false]), 6, 32) := by kernel_rfl
theorem lfV_append (a b : List Lf) : lfV (a ++ b) = lfV a ++ lfV b := by simp [lfV]
theorem lfV_one (x : Lf) : lfV [x] = x.cells := by simp [lfV]
theorem lfV_oneCell (l : List Lf) : ∀ u ∈ lfV l, u.oneCell' = true := by
  intro u hu
  obtain ⟨x, _, hx⟩ := List.mem_flatMap.1 hu
  simp only [Lf.cells, List.mem_cons, List.not_mem_nil, or_false] at hx
  rcases hx with rfl | rfl | rfl | rfl | rfl | rfl <;> rfl
theorem lfV_setPages (o : List Lf) (y : Lf) (p : Int) : (lfV (o ++ [y])).set (o.length * 6 + 2) (.int .i64 p) = lfV (o ++ [{ y with pages := p }]) := by
  rw [lfV_append, lfV_append, lfV_one, lfV_one, List.set_append_right _ _ (by rw [lfV_length]; omega), lfV_length]
  rw [show o.length * 6 + 2 - o.length * 6 = 2 from by omega]
  rfl
theorem joinP_len {out : List Lf} {x : Lf} : (joinP out x).length ≤ out.length + 1 := by
  rcases List.eq_nil_or_concat out with rfl | ⟨o, y, rfl⟩
  · simp [joinP_nil]
  · rw [List.concat_eq_append, joinP_snoc]; split <;> simp
theorem alloc3 (w : World) (a b c : Array Value) (T : TypeId) :
    (((w.alloc (.cells a T)).alloc (.cells b T)).alloc (.cells c T)).heap[w.heap.size]? = some (.cells a T (0, 0)) ∧
    (((w.alloc (.cells a T)).alloc (.cells b T)).alloc (.cells c T)).heap[w.heap.size + 1]? = some (.cells b T (0, 0)) ∧
    (((w.alloc (.cells a T)).alloc (.cells b T)).alloc (.cells c T)).heap[w.heap.size + 1 + 1]? = some (.cells c T (0, 0)) ∧
    (((w.alloc (.cells a T)).alloc (.cells b T)).alloc (.cells c T)).heap.size = w.heap.size + 3 ∧
    Below w.heap.size w (((w.alloc (.cells a T)).alloc (.cells b T)).alloc (.cells c T)) := by
  have h1 : (w.alloc (.cells a T)).heap.size = w.heap.size + 1 := by simp
  have h2 : ((w.alloc (.cells a T)).alloc (.cells b T)).heap.size = w.heap.size + 1 + 1 := by simp
  refine ⟨?_, ?_, ?_, by simp, (((Below.refl _ _).alloc (Nat.le_refl _) _).alloc (by omega) _).alloc (by omega) _⟩
  · rw [Below.heap_alloc _ _ _ (by omega), Below.heap_alloc _ _ _ (by omega)]
    exact heap_alloc_new _ _
  · rw [Below.heap_alloc _ _ _ (by omega), ← h1]
    exact heap_alloc_new _ _
  · rw [← h2]
    exact heap_alloc_new _ _
set_option maxHeartbeats 8000000 in
set_option maxRecDepth 100000 in
theorem runs_any (v : Value) (n : Nat) (l : List Lf) (hok : ∀ x ∈ l, x.ok) (hn : n ≤ 1000000000000) (w : World) (hv : RdX w 6 v n (lfV l)) :
    Calls Try.prog 26 #[v] w (fun e w' => ∃ v', e = .returned v' ∧ w'.ownsRow w.heap.size 47 6 v' (if rightP 0 l = 0 then (runsP l).length else 0) (lfV (if rightP 0 l = 0 then runsP l else [])) ∧ Below w.heap.size w w') := by
  have hln : l.length = n := by have := hv.1; rw [lfV_length] at this; omega
  obtain ⟨A, c, rfl, hcm⟩ : ∃ A c, v = .slice A n c ∧ c ≤ 9223372036854775807 := by
    obtain ⟨_, A, c, e, h1, hm, _⟩ := hv
    exact ⟨A, c, e, by unfold maxLen at hm; omega⟩
  have hright := Lib.hid (right_any _ n l hok w hv)
  have hv' := Lib.hid hv
  by_cases hr : rightP 0 l = 0
  · rw [if_pos hr, if_pos hr]
    have hok2 := Lib.hid ((right_ok (fun x hx => ⟨(hok x hx).1, (hok x hx).2.2.1⟩)).1 hr)
    rw [hr] at hright
    obtain ⟨iL, hiL, hzL, hsL, hbL⟩ := info_parts infoLf
    have hguard := guardLf
    clear hv hok hr
    go_enter Try.func26, Try.ntmps26
    go_wp2_with fail
    refine hright.out.mono ?_
    rintro en w1 ⟨rfl, hbel1'⟩
    have hbel1 := Lib.hid hbel1'
    clear hbel1' hright
    go_wp2
    go_loopg [3, 15] (n + 1) (fun g1 v3 v15 wr => ∃ (k : Nat) (out : List Lf), k + g1 = n + 1 ∧ k ≤ n ∧ v15 = .int .i64 k ∧ out.length ≤ k ∧ Hid (wr.ownsRow w.heap.size 47 6 v3 out.length (lfV out)) ∧ Hid (Below w.heap.size w wr) ∧ Hid ((l.drop k).foldl joinP out = runsP l) ∧ Hid (okRows 0 out ∧ okRows (endP 0 out) (l.drop k)))
    case atStart => exact ⟨0, [], by omega, by omega, rfl, by simp, World.ownsRow_nil _ _ _ _, hbel1.out, rfl, ⟨trivial, hok2.out⟩⟩
    case round =>
      clear hbel1
      obtain ⟨k, out, hk, hkn, rfl, hol, hown, hbel, hR, hO⟩ := hrel
      by_cases hlt : k < n
      · have hx : l[k]? = some (l[k]'(by omega)) := List.getElem?_eq_getElem _
        have hd : l.drop k = l[k]'(by omega) :: l.drop (k + 1) := List.drop_eq_getElem_cons _
        generalize l[k]'(by omega) = x at hx hd
        rw [hd] at hR hO
        have hj := Lib.hid (join_ok hO.out.1 hO.out.2.1 hO.out.2.2.1)
        have hO2 : Hid (okRows 0 (joinP out x) ∧ okRows (endP 0 (joinP out x)) (l.drop (k + 1))) := ⟨hj.out.1, by rw [hj.out.2.1]; exact hO.out.2.2.2⟩
        have hR2 : Hid ((l.drop (k + 1)).foldl joinP (joinP out x) = runsP l) := hR.out
        have hjl := joinP_len (out := out) (x := x)
        obtain ⟨g, off, c', hve, _, _, hgl, hL⟩ := RdX.leaf (hv'.out.below hbel.out) hx hlt
        cases hve
        have hxg := Lib.hid hO.out.2.1
        have hgz := hbel.out.size
        have hsome : Hid (∀ o y, out = o ++ [y] → goodP y) := fun o y e => okRows_all hO.out.1 y (by rw [e]; simp)
        clear hx hd hj hR hO
        obtain ⟨c0, c1, c2, c3, c4, c5⟩ := hL
        have hltI : (k : Int) < (n : Int) := by omega
        rcases List.eq_nil_or_concat out with rfl | ⟨o, y, rfl⟩
        · obtain ⟨A3, q3, rfl, hq3⟩ : ∃ A3 q3, u3 = .slice A3 0 q3 ∧ q3 ≤ 9223372036854775807 := by
            obtain ⟨_, A, c, e, _, h2, _⟩ := RdC.of_own hown.out
            exact ⟨A, c, e, by unfold maxLen at h2; omega⟩
          have hW0 : Hid (∀ (j : Nat) u, x.cells[j]? = some u → ((wr.alloc (.cells #[.int .u64 x.virt, .int .u64 x.phys, .int .i64 x.pages, .bool x.big, .bool x.write, .bool x.exec] 47)).alloc (.cells #[.int .u64 x.virt, .int .u64 x.phys, .int .i64 x.pages, .bool x.big, .bool x.write, .bool x.exec] 47)).cell? ((⟨wr.heap.size + 1, 0, none⟩ : Addr).add j) = some u) := by
            intro j u hj
            rw [Addr.add_lit]
            have := heap_alloc_new (wr.alloc (.cells #[.int .u64 x.virt, .int .u64 x.phys, .int .i64 x.pages, .bool x.big, .bool x.write, .bool x.exec] 47)) (.cells #[.int .u64 x.virt, .int .u64 x.phys, .int .i64 x.pages, .bool x.big, .bool x.write, .bool x.exec] 47)
            rw [World.size_alloc] at this
            exact (cell_of_row _ _ _ _ _ _ this).trans (by simpa [Lf.cells] using hj)
          have hx1 : Hid (∀ u ∈ x.cells, u.oneCell' = true) := by
            have := lfV_oneCell [x]
            rwa [lfV_one] at this
          have hown1 := Lib.hid (own_below (own_below hown.out ((Below.refl _ _).alloc (Nat.le_refl _) (.cells #[.int .u64 x.virt, .int .u64 x.phys, .int .i64 x.pages, .bool x.big, .bool x.write, .bool x.exec] 47))) ((Below.refl _ _).alloc (Nat.le_refl _) (.cells #[.int .u64 x.virt, .int .u64 x.phys, .int .i64 x.pages, .bool x.big, .bool x.write, .bool x.exec] 47)))
          have hbelB : Hid (Below w.heap.size w ((wr.alloc (.cells #[.int .u64 x.virt, .int .u64 x.phys, .int .i64 x.pages, .bool x.big, .bool x.write, .bool x.exec] 47)).alloc (.cells #[.int .u64 x.virt, .int .u64 x.phys, .int .i64 x.pages, .bool x.big, .bool x.write, .bool x.exec] 47))) := (hbel.out.alloc hbel.out.size _).alloc (by simp; omega) _
          go_wp2_with (at_builtin; refine wpList_append_lies _ rfl (.tmp 60) (.tmp 62) 48 rfl w.heap.size 47 iL (.agg #[.int .u64 0, .int .u64 0, .int .i64 0, .bool false, .bool false, .bool false]) 6 32 Try.underlying48 hiL hzL hsL hbL rfl (by decide) (.slice A3 0 q3) 0 (lfV []) rfl hown1.out ⟨wr.heap.size + 1, 0, none⟩ 1 1 x.cells rfl rfl hW0.out hx1.out (by decide) (by unfold maxLen; omega) (by omega) (by simp; omega) (wr.heap.size + 2) (by simp) ?_
                       intro g1 cap1 w2 hown' hgrow' hat' hltg1
                       have hown2 : Hid (w2.ownsRow w.heap.size 47 6 (.slice (some ⟨g1, 0, none⟩) 1 cap1) (joinP [] x).length (lfV (joinP [] x))) := by
                         rw [joinP_nil, lfV_one]; exact hown'
                       have hbel2 : Hid (Below w.heap.size w w2) := hbelB.out.grown hgrow' (by simp; omega) (fun k e => by cases A3 with
                         | none => cases e
                         | some a => exact (hown.out.lt k e).1)
                       clear hown' hgrow' hat' hltg1)
          clear hW0 hx1 hown1 hbelB hown hbel hsome
          go_wp2
          go_roundg (n - k)
          case rel => exact ⟨k + 1, _, by omega, by omega, by simp, by omega, hown2, hbel2, hR2, hO2⟩
          case measure => omega
        · rw [List.concat_eq_append] at hol hown hO2 hR2 hjl hsome
          have hyg := Lib.hid (hsome.out o y rfl)
          have hlen : (o ++ [y]).length = o.length + 1 := by simp
          rw [hlen] at hol hjl
          rw [hlen] at hown
          obtain ⟨g3, cap3, e3, hnc3', hcm3, hB3, hlt3, hLy, hfz3⟩ := own_leaf (l := o ++ [y]) (i := o.length) (x := y) (by rw [hlen]; exact hown.out) (by simp)
          rw [hlen] at e3
          subst e3
          have hnc3 : o.length + 1 ≤ cap3 := by rw [hlen] at hnc3'; exact hnc3'
          have hcap9 : cap3 ≤ 9223372036854775807 := by unfold maxLen at hcm3; omega
          clear hnc3' hcm3
          obtain ⟨b0, b1, b2, b3, b4, b5⟩ := hLy
          have hp2 := Lib.hid b2
          have hy1 := hyg.out.pages
          have hy2 := hyg.out.v0
          have hy3 := hyg.out.p0
          have hy4 : y.virt + y.pages * 4096 ≤ 549755813888 := hyg.out.v1
          have hy5 : y.phys + y.pages * 4096 ≤ 4294967296 := hyg.out.p1
          clear hlen hsome
          go_wp2_with fail
          have h3 := alloc3 wr #[.int .u64 x.virt, .int .u64 x.phys, .int .i64 x.pages, .bool x.big, .bool x.write, .bool x.exec] #[.int .u64 y.virt, .int .u64 y.phys, .int .i64 y.pages, .bool y.big, .bool y.write, .bool y.exec] #[.int .u64 y.virt, .int .u64 y.phys, .int .i64 y.pages, .bool y.big, .bool y.write, .bool y.exec] 47
          generalize ((wr.alloc (.cells #[.int .u64 x.virt, .int .u64 x.phys, .int .i64 x.pages, .bool x.big, .bool x.write, .bool x.exec] 47)).alloc (.cells #[.int .u64 y.virt, .int .u64 y.phys, .int .i64 y.pages, .bool y.big, .bool y.write, .bool y.exec] 47)).alloc (.cells #[.int .u64 y.virt, .int .u64 y.phys, .int .i64 y.pages, .bool y.big, .bool y.write, .bool y.exec] 47) = w3 at *
          obtain ⟨hX', hY', hO', hz3', hb3'⟩ := h3
          have d2 : w3.cell? ⟨wr.heap.size, 2, none⟩ = some (.int .i64 x.pages) := cell_of_row w3 _ 2 _ _ _ hX'
          have d0 : w3.cell? ⟨wr.heap.size + 1, 0, none⟩ = some (.int .u64 y.virt) := cell_of_row w3 _ 0 _ _ _ hY'
          have d1 : w3.cell? ⟨wr.heap.size + 1, 1, none⟩ = some (.int .u64 y.phys) := cell_of_row w3 _ 1 _ _ _ hY'
          have o0 : w3.cell? ⟨wr.heap.size + 1 + 1, 0, none⟩ = some (.int .u64 y.virt) := cell_of_row w3 _ 0 _ _ _ hO'
          have o1 : w3.cell? ⟨wr.heap.size + 1 + 1, 1, none⟩ = some (.int .u64 y.phys) := cell_of_row w3 _ 1 _ _ _ hO'
          have o2 : w3.cell? ⟨wr.heap.size + 1 + 1, 2, none⟩ = some (.int .i64 y.pages) := cell_of_row w3 _ 2 _ _ _ hO'
          have z0 : w3.frozen? ⟨wr.heap.size + 1 + 1, 0, none⟩ = false := frozen_of_block hO'
          have z1 : w3.frozen? ⟨wr.heap.size + 1 + 1, 1, none⟩ = false := frozen_of_block hO'
          have z2 : w3.frozen? ⟨wr.heap.size + 1 + 1, 2, none⟩ = false := frozen_of_block hO'
          have hX := Lib.hid hX'
          have hO := Lib.hid hO'
          have hz3 := Lib.hid hz3'
          have hb3 := Lib.hid hb3'
          clear hX' hY' hO' hz3' hb3' b0 b1 b2 b3 b4 b5 c0 c1 c2 c3 c4 c5
          have w4' : Hid (∃ w4, w4 = (((w3.setCell ⟨wr.heap.size + 1 + 1, 0, none⟩ (.int .u64 (y.virt + y.pages * 4096))).setCell ⟨wr.heap.size + 1 + 1, 1, none⟩ (.int .u64 (y.phys + y.pages * 4096))).setCell ⟨wr.heap.size + 1 + 1, 2, none⟩ (.int .i64 x.pages)).drew) := ⟨_, rfl⟩
          have hO4 : Hid ((((w3.setCell ⟨wr.heap.size + 1 + 1, 0, none⟩ (.int .u64 (y.virt + y.pages * 4096))).setCell ⟨wr.heap.size + 1 + 1, 1, none⟩ (.int .u64 (y.phys + y.pages * 4096))).setCell ⟨wr.heap.size + 1 + 1, 2, none⟩ (.int .i64 x.pages)).drew.heap[wr.heap.size + 1 + 1]? = some (.cells #[.int .u64 (y.virt + y.pages * 4096), .int .u64 (y.phys + y.pages * 4096), .int .i64 x.pages, .bool y.big, .bool y.write, .bool y.exec] 47 (0, 0))) := setCell_block (setCell_block (setCell_block hO.out _) _) _
          have hX4 : Hid ((((w3.setCell ⟨wr.heap.size + 1 + 1, 0, none⟩ (.int .u64 (y.virt + y.pages * 4096))).setCell ⟨wr.heap.size + 1 + 1, 1, none⟩ (.int .u64 (y.phys + y.pages * 4096))).setCell ⟨wr.heap.size + 1 + 1, 2, none⟩ (.int .i64 x.pages)).drew.heap[wr.heap.size]? = some (.cells #[.int .u64 x.virt, .int .u64 x.phys, .int .i64 x.pages, .bool x.big, .bool x.write, .bool x.exec] 47 (0, 0))) :=
            (setCell_far (by omega) _).trans ((setCell_far (by omega) _).trans ((setCell_far (by omega) _).trans hX.out))
          have hb4 : Hid (Below wr.heap.size wr (((w3.setCell ⟨wr.heap.size + 1 + 1, 0, none⟩ (.int .u64 (y.virt + y.pages * 4096))).setCell ⟨wr.heap.size + 1 + 1, 1, none⟩ (.int .u64 (y.phys + y.pages * 4096))).setCell ⟨wr.heap.size + 1 + 1, 2, none⟩ (.int .i64 x.pages)).drew) := (((hb3.out.setCell (by simp; omega) _).setCell (by simp; omega) _).setCell (by simp; omega) _).drew
          have hz4 : Hid ((((w3.setCell ⟨wr.heap.size + 1 + 1, 0, none⟩ (.int .u64 (y.virt + y.pages * 4096))).setCell ⟨wr.heap.size + 1 + 1, 1, none⟩ (.int .u64 (y.phys + y.pages * 4096))).setCell ⟨wr.heap.size + 1 + 1, 2, none⟩ (.int .i64 x.pages)).drew.heap.size = wr.heap.size + 3) := by
            show _ = _
            rw [← hz3.out]
            show (((w3.setCell _ _).setCell _ _).setCell _ _).heap.size = _
            rw [size_setCell, size_setCell, size_setCell]
          go_region
          generalize (((w3.setCell ⟨wr.heap.size + 1 + 1, 0, none⟩ (.int .u64 (y.virt + y.pages * 4096))).setCell ⟨wr.heap.size + 1 + 1, 1, none⟩ (.int .u64 (y.phys + y.pages * 4096))).setCell ⟨wr.heap.size + 1 + 1, 2, none⟩ (.int .i64 x.pages)).drew = w4 at *
          clear d0 d1 d2 o0 o1 o2 z0 z1 z2 hX hO hz3 hb3 w4'
          clear w3
          have o0 : w4.cell? ⟨wr.heap.size + 1 + 1, 0, none⟩ = some (.int .u64 (y.virt + y.pages * 4096)) := cell_of_row w4 _ 0 _ _ _ hO4.out
          have o1 : w4.cell? ⟨wr.heap.size + 1 + 1, 1, none⟩ = some (.int .u64 (y.phys + y.pages * 4096)) := cell_of_row w4 _ 1 _ _ _ hO4.out
          have o2 : w4.cell? ⟨wr.heap.size + 1 + 1, 2, none⟩ = some (.int .i64 x.pages) := cell_of_row w4 _ 2 _ _ _ hO4.out
          have o3 : w4.cell? ⟨wr.heap.size + 1 + 1, 3, none⟩ = some (.bool y.big) := cell_of_row w4 _ 3 _ _ _ hO4.out
          have o4 : w4.cell? ⟨wr.heap.size + 1 + 1, 4, none⟩ = some (.bool y.write) := cell_of_row w4 _ 4 _ _ _ hO4.out
          have o5 : w4.cell? ⟨wr.heap.size + 1 + 1, 5, none⟩ = some (.bool y.exec) := cell_of_row w4 _ 5 _ _ _ hO4.out
          have d0 : w4.cell? ⟨wr.heap.size, 0, none⟩ = some (.int .u64 x.virt) := cell_of_row w4 _ 0 _ _ _ hX4.out
          have d1 : w4.cell? ⟨wr.heap.size, 1, none⟩ = some (.int .u64 x.phys) := cell_of_row w4 _ 1 _ _ _ hX4.out
          have d2 : w4.cell? ⟨wr.heap.size, 2, none⟩ = some (.int .i64 x.pages) := cell_of_row w4 _ 2 _ _ _ hX4.out
          have d3 : w4.cell? ⟨wr.heap.size, 3, none⟩ = some (.bool x.big) := cell_of_row w4 _ 3 _ _ _ hX4.out
          have d4 : w4.cell? ⟨wr.heap.size, 4, none⟩ = some (.bool x.write) := cell_of_row w4 _ 4 _ _ _ hX4.out
          have d5 : w4.cell? ⟨wr.heap.size, 5, none⟩ = some (.bool x.exec) := cell_of_row w4 _ 5 _ _ _ hX4.out
          have heq := fun W => eqLf ⟨y.virt + y.pages * 4096, y.phys + y.pages * 4096, x.pages, y.big, y.write, y.exec⟩ x W
          have hiff : ((⟨y.virt + y.pages * 4096, y.phys + y.pages * 4096, x.pages, y.big, y.write, y.exec⟩ : Lf) = x) ↔ goesOn y x := by
            constructor
            · intro h; rw [← h]; exact ⟨rfl, rfl, rfl, rfl, rfl⟩
            · rintro ⟨h1, h2, h3, h4, h5⟩; rw [h1, h2, h3, h4, h5]
          have hown4 : Hid (w4.ownsRow w.heap.size 47 6 (.slice (some ⟨g3, 0, none⟩) (o.length + 1) cap3) (o.length + 1) (lfV (o ++ [y]))) := own_below hown.out hb4.out
          have hbel4 : Hid (Below w.heap.size w w4) := hbel.out.trans (hb4.out.mono hgz)
          have hq2 : Hid (w4.cell? ⟨g3, o.length * 6 + 2, none⟩ = some (.int .i64 y.pages)) := (hb4.out.cell (p := ⟨g3, o.length * 6 + 2, none⟩) hlt3).trans hp2.out
          have hq3 : Hid (w4.frozen? ⟨g3, o.length * 6 + 2, none⟩ = false) := (hb4.out.frozen (p := ⟨g3, o.length * 6 + 2, none⟩) hlt3).trans hfz3
          have hq4 : Hid (g3 < w4.heap.size) := Nat.lt_of_lt_of_le hlt3 hb4.out.size
          by_cases hg : goesOn y x
          · rw [decide_eq_true (hiff.2 hg)] at heq
            have hjo : Hid (joinP (o ++ [y]) x = o ++ [{ y with pages := y.pages + x.pages }]) := by show _ = _; rw [joinP_snoc, if_pos hg]
            clear hiff hg hO4 hX4 hown hbel
            simp only [Lf.val] at heq
            have hx1 := hxg.out.pages
            have hx2 := hxg.out.v0
            have hx3 : x.virt + x.pages * 4096 ≤ 549755813888 := hxg.out.v1
            have hsetv : Hid ((lfV (o ++ [y])).set (o.length * 6 + 2) (.int .i64 (y.pages + x.pages)) = lfV (o ++ [{ y with pages := y.pages + x.pages }])) := lfV_setPages o y _
            have hown5 : Hid ((w4.setCell ⟨g3, o.length * 6 + 2, none⟩ (.int .i64 (y.pages + x.pages))).drew.ownsRow w.heap.size 47 6 (.slice (some ⟨g3, 0, none⟩) (o.length + 1) cap3) (joinP (o ++ [y]) x).length (lfV (joinP (o ++ [y]) x))) := by
              rw [hjo.out, List.length_append, List.length_singleton, ← hsetv.out]
              exact (ownsRow_set hown4.out (by omega) _).drew
            have hbel5 : Hid (Below w.heap.size w (w4.setCell ⟨g3, o.length * 6 + 2, none⟩ (.int .i64 (y.pages + x.pages))).drew) := (hbel4.out.setCell hB3 _).drew
            have q2 : w4.cell? ⟨g3, o.length * 6 + 2, none⟩ = some (.int .i64 y.pages) := hq2.out
            have q3 : w4.frozen? ⟨g3, o.length * 6 + 2, none⟩ = false := hq3.out
            have hz : g3 < w4.heap.size := hq4.out
            clear hsetv hown4 hbel4 hq2 hq3 hq4 hjo
            go_wp2_with fail
            go_region
            go_wp2
            go_roundg (n - k)
            case rel => exact ⟨k + 1, _, by omega, by omega, by simp, by omega, hown5, hbel5, hR2, hO2⟩
            case measure => omega
          · rw [decide_eq_false (fun h => hg (hiff.1 h))] at heq
            have hjo : Hid (joinP (o ++ [y]) x = o ++ [y] ++ [x]) := by show _ = _; rw [joinP_snoc, if_neg hg]
            clear hiff hg hO4 hX4 hown hbel
            simp only [Lf.val] at heq
            have hW0 : Hid (∀ (j : Nat) u, x.cells[j]? = some u → (w4.alloc (.cells #[.int .u64 x.virt, .int .u64 x.phys, .int .i64 x.pages, .bool x.big, .bool x.write, .bool x.exec] 47)).cell? ((⟨w4.heap.size, 0, none⟩ : Addr).add j) = some u) := by
              intro j u hj
              rw [Addr.add_lit]
              exact (cell_of_row _ _ _ _ _ _ (heap_alloc_new w4 (.cells #[.int .u64 x.virt, .int .u64 x.phys, .int .i64 x.pages, .bool x.big, .bool x.write, .bool x.exec] 47))).trans (by simpa [Lf.cells] using hj)
            have hx1 : Hid (∀ u ∈ x.cells, u.oneCell' = true) := by
              have := lfV_oneCell [x]
              rwa [lfV_one] at this
            have hown5 := Lib.hid (own_below hown4.out ((Below.refl _ _).alloc (Nat.le_refl _) (.cells #[.int .u64 x.virt, .int .u64 x.phys, .int .i64 x.pages, .bool x.big, .bool x.write, .bool x.exec] 47)))
            have hbelB : Hid (Below w.heap.size w (w4.alloc (.cells #[.int .u64 x.virt, .int .u64 x.phys, .int .i64 x.pages, .bool x.big, .bool x.write, .bool x.exec] 47))) := hbel4.out.alloc hbel4.out.size _
            have hz5 : w.heap.size ≤ (w4.alloc (.cells #[.int .u64 x.virt, .int .u64 x.phys, .int .i64 x.pages, .bool x.big, .bool x.write, .bool x.exec] 47)).heap.size := hbelB.out.size
            clear hq2 hq3 hq4
            go_wp2_with (at_builtin; refine wpList_append_lies _ rfl (.tmp 60) (.tmp 62) 48 rfl w.heap.size 47 iL (.agg #[.int .u64 0, .int .u64 0, .int .i64 0, .bool false, .bool false, .bool false]) 6 32 Try.underlying48 hiL hzL hsL hbL rfl (by decide) (.slice (some ⟨g3, 0, none⟩) (o.length + 1) cap3) (o.length + 1) (lfV (o ++ [y])) rfl hown5.out ⟨w4.heap.size, 0, none⟩ 1 1 x.cells rfl rfl hW0.out hx1.out (by decide) (by unfold maxLen; omega) (by omega) hz5 (w4.heap.size + 1) (by simp) ?_
                         intro g1 cap1 w2 hown' hgrow' hat' hltg1
                         have hown2 : Hid (w2.ownsRow w.heap.size 47 6 (.slice (some ⟨g1, 0, none⟩) (o.length + 1 + 1) cap1) (joinP (o ++ [y]) x).length (lfV (joinP (o ++ [y]) x))) := by
                           rw [hjo.out, lfV_append (o ++ [y]), lfV_one, show (o ++ [y] ++ [x]).length = o.length + 1 + 1 from by simp]; exact hown'
                         have hbel2 : Hid (Below w.heap.size w w2) := hbelB.out.grown hgrow' hz5 (fun k e => by cases e; exact hB3)
                         clear hown' hgrow' hat' hltg1)
            clear hW0 hx1 hown5 hown4 hbelB hbel4 hjo
            go_wp2
            go_roundg (n - k)
            case rel => exact ⟨k + 1, _, by omega, by omega, by simp, by omega, hown2, hbel2, hR2, hO2⟩
            case measure => omega
      · obtain rfl : k = n := by omega
        have hfin : Hid (out = runsP l) := by
          have := hR.out
          rwa [List.drop_of_length_le (by omega)] at this
        obtain ⟨A3, q3, rfl⟩ : ∃ A3 q3, u3 = .slice A3 out.length q3 := by
          obtain ⟨_, A, c, e, _, h2, _⟩ := RdC.of_own hown.out
          exact ⟨A, c, e⟩
        go_wp2
        go_returns
        rw [← hfin.out]
        exact ⟨_, rfl, hown.out, hbel.out⟩
  · have hne : (rightP 0 l != 0) = true := by simp [hr]
    rw [if_neg hr, if_neg hr]
    clear hr hv hok
    go_enter Try.func26, Try.ntmps26
    go_wp2_with fail
    refine hright.out.mono ?_
    rintro en w1 ⟨rfl, hbel1'⟩
    have hbel1 := Lib.hid hbel1'
    clear hbel1'
    go_wp2
    go_returns
    exact ⟨_, rfl, World.ownsRow_nil _ _ _ _, hbel1.out⟩
end Go.Proofs.Ytaogndianciogaa.Mm
