/- copy(dst, src) of elements that are many cells. -/
import Derived.Test.YtaogndianciogaaApG
import Derived.Laws.CopyOwn
import Derived.Test.YtaogndianciogaaSameT
import Derived.Test.YtaogndianciogaaQuietB
namespace Go.Proofs.Ytaogndianciogaa.Mm
open Go.RowKit
set_option linter.unusedVariables false
set_option linter.unusedSimpArgs false
section
variable {P : Program}
theorem run_copy_row_sz (w : World) (dT sT ty elem : TypeId) (sz : Nat) (g o dLen dCap : Nat) (a : Addr) (sLen sCap : Nat) (cur : Array Value) (t : TypeId) (cs : List Value)
    (hu : P.underlying dT = some (.slice elem)) (hs : (P.info? elem).map (·.size) = some sz)
    (hg : w.heap[g]? = some (.cells cur t (0, 0))) (hn : cs.length = Nat.min sLen dLen * sz)
    (hsrc : ∀ j v, cs[j]? = some v → w.cell? (a.add j) = some v) (hfit : o + cs.length ≤ cur.size) (h1 : ∀ v ∈ cs, v.oneCell' = true) :
    (Builtin.copy_ #[dT, sT] ty #[.slice (some ⟨g, o, none⟩) dLen dCap, .slice (some a) sLen sCap]).run P w =
      .ok (goInt (Nat.min sLen dLen : Nat)) (w.setRow g (cur.toList.take o ++ cs ++ cur.toList.drop (o + cs.length)).toArray) := by
  have hl := run_loadCells_list (P := P) w a cs hsrc
  have hst := run_storeCells_at P g o t cs 0 cur w hg (by simpa using hfit) h1
  cases hq : P.info? elem with
  | none => simp [hq] at hs
  | some i =>
    have hi : i.size = sz := by simpa [hq] using hs
    simp [Builtin.copy_, run_underlying hu, Builtin.lenOf, Builtin.firstCells, sizeOf, typeInfo, hq, hi, ← hn, hl, hst]
theorem run_copy_none_sz (w : World) (dT sT ty elem : TypeId) (sz : Nat) (d a : Option Addr) (dLen dCap sLen sCap : Nat) (hu : P.underlying dT = some (.slice elem)) (hs : (P.info? elem).map (·.size) = some sz) (hn : Nat.min sLen dLen = 0) :
    (Builtin.copy_ #[dT, sT] ty #[.slice d dLen dCap, .slice a sLen sCap]).run P w = .ok (goInt 0) w := by
  cases hq : P.info? elem with
  | none => simp [hq] at hs
  | some i =>
    have hl : ∀ (x : Addr), (loadCells x 0).run P w = .ok #[] w := fun x => by simpa using run_loadCells_list (P := P) w x [] (by simp)
    cases d <;> cases a <;> simp [Builtin.copy_, run_underlying hu, Builtin.lenOf, Builtin.firstCells, sizeOf, typeInfo, hq, hn, storeCells, hl]
/-- the first elements of src over the first of dst, which lies at its row's head -/
theorem wpList_copy_sz {w : World} {ops : Array Oper} {rest : List Oper} {o : Oper} {a : Act} {Q : Exit → Act → World → Prop} (hgd : o.guard = none) (d s : Operand) (dT sT : TypeId)
    (ho : o.op = .call { callee := .builtin .copy, args := #[d, s], argTypes := #[dT, sT] }) (elem : TypeId) (sz : Nat) (hu : P.underlying dT = some (.slice elem)) (hs : (P.info? elem).map (·.size) = some sz) (hsz : 0 < sz)
    (sp : Option Addr) (dLen dCap sLen sCap : Nat) (g : Nat) (hd : a.eval d = .slice (some ⟨g, 0, none⟩) dLen dCap) (hsv : a.eval s = .slice sp sLen sCap) (hle : sLen ≤ dLen)
    (cur : List Value) (t : TypeId) (hg : w.heap[g]? = some (.cells cur.toArray t (0, 0))) (cs : List Value) (hn : cs.length = sLen * sz)
    (hpos : 0 < sLen → ∃ ad, sp = some ad ∧ ∀ j v, cs[j]? = some v → w.cell? (ad.add j) = some v)
    (hfit : cs.length ≤ cur.length) (h1 : ∀ v ∈ cs, v.oneCell' = true) (B : Nat) (w0 : World) (hb : Below B w0 w) (hBg : B ≤ g)
    (h : ∀ w', Hid (w'.heap[g]? = some (.cells (splice cur 0 cs).toArray t (0, 0))) → Below B w0 w' → wpList P ops Q rest (a.put o.dst (goInt sLen)) w') :
    wpList P ops Q (o :: rest) a w := by
  refine wpList_plain hgd fun K hK => ?_
  have hmin : Nat.min sLen dLen = sLen := Nat.min_eq_left hle
  by_cases h0 : sLen = 0
  · subst h0
    obtain rfl : cs = [] := List.eq_nil_of_length_eq_zero (by omega)
    have hrun := run_copy_none_sz (P := P) w dT sT o.type elem sz (some ⟨g, 0, none⟩) sp dLen dCap 0 sCap hu hs hmin
    unfold Oper.wp
    simp [execOp, ho, resolve, invoke, builtin, hd, hsv, hrun, Result.andThen]
    exact hK _ _ (h w (show _ = _ by simpa [splice] using hg) hb)
  · obtain ⟨ad, rfl, hsrc⟩ := hpos (by omega)
    have hrun := run_copy_row_sz (P := P) w dT sT o.type elem sz g 0 dLen dCap ad sLen sCap cur.toArray t cs hu hs hg (by rw [hmin]; exact hn) hsrc (by simpa using hfit) h1
    rw [hmin] at hrun
    unfold Oper.wp
    simp [execOp, ho, resolve, invoke, builtin, hd, hsv, hrun, Result.andThen]
    exact hK _ _ (by
      have h9 := h (w.setRow g (splice cur 0 cs).toArray) (show _ = _ from setRow_heap w g _ _ t _ hg) (below_setRow hb hBg _)
      simpa [splice] using h9)
end
end Go.Proofs.Ytaogndianciogaa.Mm
/- bulkheadbook.Roomy of leaves. -/
namespace Go.Proofs.Ytaogndianciogaa.Mm
open Go.RowKit
set_option linter.unusedVariables false
set_option linter.unusedSimpArgs false
def zLf : Lf := ⟨0, 0, 0, false, false, false⟩
theorem made_leaves (k : Nat) : (madeCells (Value.agg #[.int .u64 0, .int .u64 0, .int .i64 0, .bool false, .bool false, .bool false]).cells (k * 6)).toList = lfV (List.replicate k zLf) := by
  apply List.ext_getElem?
  intro i
  simp only [madeCells, Array.toList_map, List.getElem?_map, Array.toList_range]
  by_cases h : i < k * 6
  · have hz : (List.replicate k zLf)[i / 6]? = some zLf := by rw [List.getElem?_replicate, if_pos (by omega)]
    have h6 : i % 6 < 6 := by omega
    have hg := lfV_get hz (i % 6) h6
    rw [show i / 6 * 6 + i % 6 = i from by omega] at hg
    rw [hg]
    obtain ⟨o, ho⟩ : ∃ o, i % 6 = o := ⟨_, rfl⟩
    simp only [Value.cells, List.getElem?_range h]
    rw [ho] at h6 ⊢
    have : o = 0 ∨ o = 1 ∨ o = 2 ∨ o = 3 ∨ o = 4 ∨ o = 5 := by omega
    have h66 : (#[Value.int IntKind.u64 0, .int .u64 0, .int .i64 0, .bool false, .bool false, .bool false] : Array Value).size = 6 := rfl
    simp only [Option.map_some, h66, ho]
    rcases this with rfl | rfl | rfl | rfl | rfl | rfl <;> rfl
  · have h2 : ¬ i < (lfV (List.replicate k zLf)).length := by rw [lfV_length, List.length_replicate]; omega
    rw [List.getElem?_eq_none (by omega : (lfV (List.replicate k zLf)).length ≤ i), List.getElem?_eq_none (by rw [List.length_range]; omega)]
    rfl
def roomL (l : List Lf) (m : Lf) (k : Nat) : List Lf := l ++ List.replicate k m ++ List.replicate (80 - k) zLf
theorem roomL_len (l : List Lf) (m : Lf) {k : Nat} (h : k ≤ 80) : (roomL l m k).length = l.length + 80 := by simp [roomL]; omega
theorem roomL_step (l : List Lf) (m : Lf) {k : Nat} (h : k < 80) : roomL l m (k + 1) = (roomL l m k).set (l.length + k) m := by
  unfold roomL
  rw [List.set_append_right _ _ (by simp)]
  rw [show l.length + k - (l ++ List.replicate k m).length = 0 from by simp]
  rw [show List.replicate (80 - k) zLf = zLf :: List.replicate (80 - (k + 1)) zLf from by rw [show 80 - k = (80 - (k + 1)) + 1 from by omega]; exact List.replicate_succ, List.set_cons_zero, List.replicate_succ', List.append_assoc, List.append_assoc]
  simp
theorem splice_head {α : Type} (A B cs : List α) (h : A.length = cs.length) : splice (A ++ B) 0 cs = cs ++ B := by
  unfold splice
  rw [List.take_zero, List.nil_append, Nat.zero_add, ← h, List.drop_left]
theorem roomL_zero (l : List Lf) (m : Lf) : splice (lfV (List.replicate (l.length + 80) zLf)) 0 (lfV l) = lfV (roomL l m 0) := by
  have e1 : List.replicate (l.length + 80) zLf = List.replicate l.length zLf ++ List.replicate 80 zLf := List.replicate_append_replicate.symm
  have e2 : roomL l m 0 = l ++ List.replicate 80 zLf := by unfold roomL; rw [List.replicate_zero, List.append_nil, Nat.sub_zero]
  rw [e1, e2, lfV_append, lfV_append]
  generalize lfV (List.replicate 80 zLf) = X
  refine splice_head _ _ _ ?_
  rw [lfV_length, lfV_length, List.length_replicate]
/-- an element of a row of leaves, laid anew -/
theorem leaf_set {w : World} {g : Nat} {T : TypeId} {l : List Lf} (hg : w.heap[g]? = some (.cells (lfV l).toArray T (0, 0))) {k : Nat} (hk : k < l.length) (m : Lf) :
    (w.setCells g (k * 6) m.cells).heap[g]? = some (.cells (lfV (l.set k m)).toArray T (0, 0)) := by
  obtain ⟨cs, h1, h2, h3, h4⟩ := setCells_block m.cells (k * 6) hg
  suffices e : cs = (lfV (l.set k m)).toArray by rw [h1, e]
  clear h1
  have hs : cs.size = l.length * 6 := by rw [h2, List.size_toArray, lfV_length]
  have hm6 : m.cells.length = 6 := rfl
  apply Array.ext_getElem?
  intro i
  have eR : ((lfV (l.set k m)).toArray)[i]? = (lfV (l.set k m))[i]? := by simp
  have eL : ((lfV l).toArray)[i]? = (lfV l)[i]? := by simp
  rw [eR]
  by_cases hi : i < l.length * 6
  · by_cases hin : k * 6 ≤ i ∧ i < k * 6 + 6
    · rw [h3 i hin.1 (by rw [hm6]; exact hin.2) (by rw [List.size_toArray, lfV_length]; exact hi)]
      have hx : (l.set k m)[k]? = some m := by rw [List.getElem?_set_self hk]
      have hg := lfV_get hx (i - k * 6) (by omega)
      rw [show k * 6 + (i - k * 6) = i from by omega] at hg
      exact hg.symm
    · rw [h4 i (by rw [hm6]; omega), eL]
      have hq : i / 6 < l.length := by omega
      have hne : k ≠ i / 6 := by omega
      have hx : l[i / 6]? = some l[i / 6] := List.getElem?_eq_getElem hq
      have hx2 : (l.set k m)[i / 6]? = some l[i / 6] := by rw [List.getElem?_set_ne hne]; exact hx
      have e1 := lfV_get hx (i % 6) (by omega)
      have e2 := lfV_get hx2 (i % 6) (by omega)
      rw [show i / 6 * 6 + i % 6 = i from by omega] at e1 e2
      rw [e1, e2]
  · rw [Array.getElem?_eq_none (by rw [hs]; omega), List.getElem?_eq_none (by rw [lfV_length, List.length_set]; omega)]
end Go.Proofs.Ytaogndianciogaa.Mm
/- bulkheadbook.Roomy of leaves: the walk. -/
namespace Go.Proofs.Ytaogndianciogaa.Mm
open Go.RowKit
set_option linter.unusedVariables false
set_option linter.unusedSimpArgs false
theorem block_there {w : World} {g : Nat} {cs : Array Value} {T : TypeId} (hg : w.heap[g]? = some (.cells cs T (0, 0))) {o n : Nat} (h : o + n ≤ cs.size) : w.there g o n := by
  intro j hj
  refine ⟨?_, frozen_of_block hg⟩
  rw [cell_of_row w g _ cs T (0, 0) hg, Array.getElem?_eq_getElem (show o + j < cs.size by omega)]; rfl
theorem lf_one (m : Lf) : ∀ u ∈ m.cells, u.oneCell' = true := by
  have := lfV_oneCell [m]
  rwa [lfV_one] at this
theorem wpList_make_at {P : Program} {w : World} {ops : Array Oper} {rest : List Oper} {o : Oper} {a : Act} {Q : Exit → Act → World → Prop}
    (hg : o.guard = none) (l c : Operand) (t : TypeId) (hop : o.op = Op.makeSlice t l c)
    (base : Nat) (e : TypeId) (i : TypeInfo) (z : Value) (size : Nat) (h1 : P.underlying t = some (.slice e)) (h2 : P.info? e = some i) (h3 : i.zero = some z) (h4 : i.size = size)
    (kl kc : IntKind) (L C : Int) (n : Nat) (hl : a.eval l = .int kl L) (hc : a.eval c = .int kc C) (hL : L = (n : Int)) (hC : C = (n : Int)) (b2 : i.bytes * n ≤ 281474976710656) (b3 : n ≤ maxLen) (b4 : base ≤ w.heap.size)
    (hK : ∀ w' g, g = w.heap.size → w'.ownsRow base e size (.slice (some ⟨g, 0, none⟩) n n) n (madeCells z.cells (n * size)).toList → w.grownBy w' none → wpList P ops Q rest (a.put o.dst (.slice (some ⟨g, 0, none⟩) n n)) w') :
    wpList P ops Q (o :: rest) a w :=
  wpList_make_full w hg l c t hop base e i z size h1 h2 h3 h4 kl kc L C n hl hc hL hC b2 b3 b4 (fun w' h5 h6 => hK w' _ rfl h5 h6)
theorem own_full6 {w : World} {base : Nat} {T : TypeId} {g n : Nat} {xs : List Value} (h : w.ownsRow base T 6 (.slice (some ⟨g, 0, none⟩) n n) n xs) : w.heap[g]? = some (.cells xs.toArray T (0, 0)) := by
  obtain ⟨h1, h2⟩ := h
  rcases h2 with ⟨e, _⟩ | ⟨g', cap, cur, e, hb, hg, hnc, hcm, hcs, htake⟩
  · cases e
  · cases e
    rw [hg]
    rw [List.take_of_length_le (by simp [hcs])] at htake
    rw [← htake]
set_option maxHeartbeats 2000000 in
set_option maxRecDepth 100000 in
theorem roomyL_any (v : Value) (n : Nat) (l : List Lf) (m : Lf) (hn : n ≤ 2147483647) (w : World) (hv : RdX w 6 v n (lfV l)) :
    Calls Try.prog 37 #[v, m.val] w
      (fun e w' => ∃ g, e = .returned (.slice (some ⟨g, 0, none⟩) (n + 80) (n + 80)) ∧ w.heap.size ≤ g ∧ w'.heap[g]? = some (.cells (lfV (roomL l m 80)).toArray 47 (0, 0)) ∧ Below w.heap.size w w') := by
  obtain ⟨iL, hiL, hzL, hsL, hbL⟩ := info_parts infoLf
  have hln : l.length = n := by have := hv.1; rw [lfV_length] at this; omega
  obtain ⟨A, c, rfl, hcm⟩ : ∃ A c, v = .slice A n c ∧ c ≤ 9223372036854775807 := by
    obtain ⟨_, A, c, e, h1, hm, _⟩ := hv
    exact ⟨A, c, e, by unfold maxLen at hm; omega⟩
  have hv' := Lib.hid hv
  have hi6 : Hid ((Try.prog.info? 47).map (·.size) = some 6) := by show _ = _; kernel_rfl
  have hsrc : Hid (∀ w1, Below w.heap.size w w1 → 0 < n → ∃ ad, A = some ad ∧ ∀ j v, (lfV l)[j]? = some v → w1.cell? (ad.add j) = some v) := by
    intro w1 hb h0
    obtain ⟨_, A', c', e, _, _, hr⟩ := hv'.out
    cases e
    obtain ⟨gb, off, e, hg, hx⟩ := hr h0
    refine ⟨_, e, fun j v hv => ?_⟩
    rw [Addr.add_lit]
    exact (World.cell?_of_block (w := w) (hb.block gb hg)).trans (hx j v hv)
  have hb0 : Hid (Below w.heap.size w (w.alloc (.cells #[.int .u64 m.virt, .int .u64 m.phys, .int .i64 m.pages, .bool m.big, .bool m.write, .bool m.exec] 47))) := (Below.refl _ _).alloc (Nat.le_refl _) _
  have hX := Lib.hid (heap_alloc_new w (.cells #[.int .u64 m.virt, .int .u64 m.phys, .int .i64 m.pages, .bool m.big, .bool m.write, .bool m.exec] 47))
  have hlenc : Hid ((lfV l).length = n * 6) := by show _ = _; rw [lfV_length, hln]
  obtain ⟨C, hCe⟩ : ∃ C, m.cells = C := ⟨_, rfl⟩
  have hC := Lib.hid hCe
  have hC6 : Hid (C.length = 6) := by show _ = _; rw [← hCe]; rfl
  have hin : Hid ((Try.prog.info? 47).map (·.size) = some C.length) := by show _ = _; rw [hC6.out]; exact hi6.out
  have hin2 : Hid ((Try.prog.info? 47).map (·.size) = some C.toArray.size) := by show _ = _; rw [List.size_toArray, hC6.out]; exact hi6.out
  have hone : Hid (C.toArray.all (·.oneCell') = true) := by show _ = _; rw [← hCe]; exact all_oneCell_toArray (lf_one m)
  clear hv
  unfold Lf.val
  go_enter Try.func37, Try.ntmps37
  go_upto_region 1 with (fail)
  have hsz1 : Hid (w.heap.size < (w.alloc (.cells #[.int .u64 m.virt, .int .u64 m.phys, .int .i64 m.pages, .bool m.big, .bool m.write, .bool m.exec] 47)).heap.size) := by rw [World.size_alloc]; exact Nat.lt_succ_self _
  have hX2 : Hid ((w.alloc (.cells #[.int .u64 m.virt, .int .u64 m.phys, .int .i64 m.pages, .bool m.big, .bool m.write, .bool m.exec] 47)).heap[w.heap.size]? = some (.cells C.toArray 47 (0, 0))) := by
    rw [← hCe]; exact hX.out
  clear hX hCe
  have hX := hX2
  clear hX2
  generalize w.alloc (.cells #[.int .u64 m.virt, .int .u64 m.phys, .int .i64 m.pages, .bool m.big, .bool m.write, .bool m.exec] 47) = w1 at *
  generalize hgm : w.heap.size = gm at *
  have hgm' := Lib.hid hgm
  clear hgm
  go_wp2_with (first
    | (at_make; refine wpList_make_at rfl _ _ 48 rfl w1.heap.size 47 iL (.agg #[.int .u64 0, .int .u64 0, .int .i64 0, .bool false, .bool false, .bool false]) 6 Try.underlying48 hiL hzL hsL _ _ _ _ (n + 80) rfl rfl (by omega) (by omega) (by rw [hbL]; omega) (by unfold maxLen; omega) (Nat.le_refl _) ?_; intro w2 g hgE hown2' hgrow2'
       have hg2 : Hid (w2.heap[g]? = some (.cells (lfV (List.replicate (n + 80) zLf)).toArray 47 (0, 0))) := by
         have h9 := own_full6 hown2'
         rw [made_leaves] at h9
         exact h9
       have hb2 : Hid (Below w1.heap.size w1 w2) := (Below.refl _ _).grown hgrow2' (Nat.le_refl _) (fun k e => by cases e)
       have hgE' := Lib.hid hgE
       clear hown2' hgrow2' hgE)
    | (refine wpList_copy_sz (by rfl) (.tmp 11) (.tmp 12) 48 48 (by rfl) 47 6 Try.underlying48 hi6.out (by omega) A (n + 80) (n + 80) n c g (by rfl) (by rfl) (by omega) (lfV (List.replicate (n + 80) zLf)) 47 hg2.out (lfV l) hlenc.out (hsrc.out w2 (hb0.out.trans (hb2.out.mono (Nat.le_of_lt hsz1.out)))) (by rw [hlenc.out, lfV_length, List.length_replicate]; omega) (lfV_oneCell l) w1.heap.size w1 hb2.out (Nat.le_of_eq hgE'.out.symm) ?_; intro w3 hg3' hb3'
       have hb3 := Lib.hid hb3'
       have hg3 : Hid (w3.heap[g]? = some (.cells (lfV (roomL l m 0)).toArray 47 (0, 0))) := by
         have h9 := hg3'.out
         rw [← hln, roomL_zero] at h9
         exact h9
       clear hb3' hg3'))
  go_loopg [6] 81 (fun g1 v6 wr => ∃ k : Nat, k + g1 = 81 ∧ k ≤ 80 ∧ v6 = .int .i64 ((n + k : Nat) : Int) ∧ Hid (wr.heap[g]? = some (.cells (lfV (roomL l m k)).toArray 47 (0, 0))) ∧ Hid (Below w1.heap.size w1 wr))
  case atStart => exact ⟨0, rfl, by omega, rfl, hg3, hb3⟩
  case round =>
    clear hg3 hb3 hg2 hb2
    obtain ⟨k, hk, hk8, rfl, hg, hb⟩ := hrel
    by_cases hlt : k < 80
    · have hrg : Hid (wr.rangeAt gm 0 C) := fun j u hj => (World.cell?_of_block (w := w1) (hb.out.block gm hsz1.out)).trans ((cell_of_row w1 gm (0 + j) _ _ _ hX.out).trans (by rw [Nat.zero_add]; simpa using hj))
      have hltI : (n : Int) + (k : Int) < (n : Int) + 80 := by omega
      have hltN : n + k < n + 80 := by omega
      have hs1 : (lfV (roomL l m k)).toArray.size = (n + 80) * 6 := by rw [List.size_toArray, lfV_length, roomL_len l m hk8, hln]
      have hth : Hid (wr.there g ((n + k) * 6) C.toArray.size) := block_there hg.out (by rw [hs1, List.size_toArray, hC6.out]; omega)
      have hset : Hid ((wr.setCells g ((n + k) * 6) C.toArray.toList).heap[g]? = some (.cells (lfV (roomL l m (k + 1))).toArray 47 (0, 0))) := by
        have h := leaf_set hg.out (k := n + k) (by rw [roomL_len l m hk8]; omega) m
        rw [roomL_step l m hlt, hln]
        rw [hC.out] at h
        exact h
      have hb' : Hid (Below w1.heap.size w1 (wr.setCells g ((n + k) * 6) C.toArray.toList)) := setCells_below (Nat.le_of_eq hgE'.out.symm) _ _ hb.out
      clear hs1 hg hb
      go_wp2_with (first
        | (refine wpList_load_mid rfl 47 (.tmp 3) rfl gm 0 rfl C _ hrg.out Try.underlying47 rfl hin.out ?_)
        | (refine wpList_store_mid rfl 47 (.tmp 25) (.tmp 24) rfl g ((n + k) * 6) C.toArray rfl rfl hth.out hin2.out hone.out ?_))
      go_roundg (80 - k)
      case rel => exact ⟨k + 1, by omega, by omega, by simp; omega, hset, hb'⟩
      case measure => omega
    · obtain rfl : k = 80 := by omega
      have hfin : Hid (Below gm w wr) := hb0.out.trans (hb.out.mono (Nat.le_of_lt hsz1.out))
      have hgl : Hid (gm ≤ g) := by show _ ≤ _; rw [hgE'.out]; exact Nat.le_of_lt hsz1.out
      go_wp2
      go_returns
      exact ⟨g, rfl, by rw [hgm'.out]; exact hgl.out, hg.out, by rw [hgm'.out]; exact hfin.out⟩
end Go.Proofs.Ytaogndianciogaa.Mm
/- bulkheadbook.Intact of leaves. -/
namespace Go.Proofs.Ytaogndianciogaa.Mm
open Go.RowKit
set_option linter.unusedVariables false
set_option linter.unusedSimpArgs false
theorem take_relL {l1 : List Lf} {n k : Nat} {m x : Lf} (hx : l1[n + k]? = some x) (e : x = m) (h : (l1.drop n).take k = List.replicate k m) : (l1.drop n).take (k + 1) = List.replicate (k + 1) m := by
  rw [List.take_add_one, h, List.getElem?_drop, hx, e, List.replicate_succ']
  rfl
theorem lfV_take (l : List Lf) (n : Nat) : ∀ (i : Nat) (x : Value), (lfV (l.take n))[i]? = some x → (lfV l)[i]? = some x := by
  intro i x h
  have e : l = l.take n ++ l.drop n := (List.take_append_drop n l).symm
  have hl : i < (lfV (l.take n)).length := (List.getElem?_eq_some_iff.1 h).1
  rw [e, lfV_append, List.getElem?_append_left hl]
  exact h
set_option maxHeartbeats 2000000 in
set_option maxRecDepth 100000 in
theorem intactL_any (v1 v2 : Value) (n n2 : Nat) (l1 l2 : List Lf) (m : Lf) (hn : n ≤ 2147483647) (w : World) (h1 : RdX w 6 v1 n2 (lfV l1)) (h2 : RdX w 6 v2 n (lfV l2)) (heq : l1 = l2 ++ List.replicate 80 m) :
    Calls Try.prog 41 #[v1, v2, m.val] w (fun e w' => e = .returned (.bool true) ∧ Below w.heap.size w w') := by
  have hv2 := h2
  have hv1' : Hid (∀ w', Below w.heap.size w w' → RdX w' 6 v1 n2 (lfV l1)) := fun w' hb => h1.below hb
  obtain ⟨hlen1, A1, k1, rfl, hc1, hm1, hr1⟩ := h1
  obtain ⟨hlen2, A2, k2, rfl, hc2, hm2, hr2⟩ := h2
  have hln1 : l1.length = n2 := by rw [lfV_length] at hlen1; omega
  have hln2 : l2.length = n := by rw [lfV_length] at hlen2; omega
  have hm1' : k1 ≤ 9223372036854775807 := by unfold maxLen at hm1; omega
  have hm2' : k2 ≤ 9223372036854775807 := by unfold maxLen at hm2; omega
  obtain rfl : n2 = n + 80 := by rw [← hln1, heq, List.length_append, List.length_replicate, hln2]
  have htk : l1.take n = l2 := by rw [heq, List.take_append_of_le_length (by omega), List.take_of_length_le (by omega)]
  have hat : Hid (∀ k, k < 80 → l1[n + k]? = some m) := fun k hk => by rw [heq, List.getElem?_append_right (by omega), List.getElem?_replicate, if_pos (by omega)]
  obtain ⟨gb, off, rfl, hgl, hx⟩ := hr1 (by omega)
  have hpre : RdX w 6 (.slice (some ⟨gb, off, none⟩) n k1) n (lfV (l1.take n)) :=
    ⟨by rw [lfV_length, List.length_take]; omega, _, k1, rfl, by omega, hm1, fun _ => ⟨gb, off, rfl, hgl, fun i x hi => hx i x (lfV_take l1 n i x hi)⟩⟩
  have hb0 : Hid (Below w.heap.size w (w.alloc (.cells #[.int .u64 m.virt, .int .u64 m.phys, .int .i64 m.pages, .bool m.big, .bool m.write, .bool m.exec] 47))) := (Below.refl _ _).alloc (Nat.le_refl _) _
  have H : Hid (∀ w1, Below w.heap.size w w1 → Calls Try.prog 28 #[.slice (some ⟨gb, off, none⟩) n k1, .slice A2 n k2] w1 (fun e w' => e = .returned (.bool true) ∧ Below w1.heap.size w1 w')) := by
    intro w1 hb1
    have h9 := sameL_any _ _ n n (l1.take n) l2 w1 (hpre.below hb1) (hv2.below hb1)
    rw [decide_eq_true htk] at h9
    refine h9.mono ?_
    rintro e w' ⟨he, j, rfl⟩
    exact ⟨he, below_drewN (Below.refl _ _) j⟩
  have hX := Lib.hid (heap_alloc_new w (.cells #[.int .u64 m.virt, .int .u64 m.phys, .int .i64 m.pages, .bool m.big, .bool m.write, .bool m.exec] 47))
  have hsz1 : Hid (w.heap.size < (w.alloc (.cells #[.int .u64 m.virt, .int .u64 m.phys, .int .i64 m.pages, .bool m.big, .bool m.write, .bool m.exec] 47)).heap.size) := by rw [World.size_alloc]; exact Nat.lt_succ_self _
  clear hpre hv2 hr1 hr2 hm1 hm2 hx htk heq hlen1 hlen2
  have hneq : ∀ W, (binOp .neq 47 m.val m.val).run Try.prog W = .ok (.bool false) W := fun W => by
    have h := neqLf m m W
    rwa [decide_eq_true rfl] at h
  have hguard := guardLf
  simp only [Lf.val] at hneq
  unfold Lf.val
  go_enter Try.func41, Try.ntmps41
  go_upto_region 1 with (fail)
  generalize w.alloc (.cells #[.int .u64 m.virt, .int .u64 m.phys, .int .i64 m.pages, .bool m.big, .bool m.write, .bool m.exec] 47) = w1 at *
  generalize hgm : w.heap.size = gm at *
  have hgm' := Lib.hid hgm
  clear hgm
  go_wp2_with fail
  refine (H.out w1 hb0.out).mono ?_
  rintro en w2 ⟨rfl, hb2'⟩
  have hb2 := Lib.hid hb2'
  clear hb2' H
  go_wp2
  go_loopg [7] 81 (fun g1 v7 wr => ∃ k : Nat, k + g1 = 81 ∧ k ≤ 80 ∧ v7 = .int .i64 ((n + k : Nat) : Int) ∧ Hid (Below w1.heap.size w1 wr))
  case atStart => exact ⟨0, rfl, by omega, rfl, hb2⟩
  case round =>
    clear hb2
    obtain ⟨k, hk, hk8, rfl, hb⟩ := hrel
    by_cases hlt : k < 80
    · have hbk : ∀ o, wr.cell? ⟨gm, o, none⟩ = w1.cell? ⟨gm, o, none⟩ := fun o => World.cell?_of_block (w := w1) (hb.out.block gm hsz1.out)
      have d0 : wr.cell? ⟨gm, 0, none⟩ = some (.int .u64 m.virt) := (hbk 0).trans (cell_of_row w1 gm 0 _ _ _ hX.out)
      have d1 : wr.cell? ⟨gm, 1, none⟩ = some (.int .u64 m.phys) := (hbk 1).trans (cell_of_row w1 gm 1 _ _ _ hX.out)
      have d2 : wr.cell? ⟨gm, 2, none⟩ = some (.int .i64 m.pages) := (hbk 2).trans (cell_of_row w1 gm 2 _ _ _ hX.out)
      have d3 : wr.cell? ⟨gm, 3, none⟩ = some (.bool m.big) := (hbk 3).trans (cell_of_row w1 gm 3 _ _ _ hX.out)
      have d4 : wr.cell? ⟨gm, 4, none⟩ = some (.bool m.write) := (hbk 4).trans (cell_of_row w1 gm 4 _ _ _ hX.out)
      have d5 : wr.cell? ⟨gm, 5, none⟩ = some (.bool m.exec) := (hbk 5).trans (cell_of_row w1 gm 5 _ _ _ hX.out)
      obtain ⟨_, _, _, hve, _, _, _, hL⟩ := RdX.leaf (hv1'.out wr (hb0.out.trans (hb.out.mono (Nat.le_of_lt hsz1.out)))) (hat.out k hlt) (by omega)
      cases hve
      obtain ⟨c0, c1, c2, c3, c4, c5⟩ := hL
      have hltI : (n : Int) + (k : Int) < (n : Int) + 80 := by omega
      have hltN : n + k < n + 80 := by omega
      clear hbk
      go_wp2
      go_quiet (fail)
      go_wp2
      go_roundg (80 - k)
      case rel => exact ⟨k + 1, by omega, by omega, by simp; omega, below_drewN hb.out _⟩
      case measure => omega
    · obtain rfl : k = 80 := by omega
      have hfin : Hid (Below gm w wr) := hb0.out.trans (hb.out.mono (Nat.le_of_lt hsz1.out))
      go_wp2
      go_returns
      exact ⟨rfl, by rw [hgm'.out]; exact hfin.out⟩
end Go.Proofs.Ytaogndianciogaa.Mm
