/- pages.Read: the table that bytes are. -/
import Derived.Test.YtaogndianciogaaGet
import Derived.Test.YtaogndianciogaaBytes
import Derived.Deep.WholeRow
import Derived.Laws.ResultCell
namespace Go.Proofs.Ytaogndianciogaa.Mm
open Go.RowKit
set_option linter.unusedVariables false
set_option linter.unusedSimpArgs false
/-- the entries that bytes are -/
def entriesOf (l : List Int) : List Int := (List.range 512).map fun i => valB ((l.drop (8 * i)).take 8)
/-- a table of which the first entries are laid -/
def partCells (es : List Int) (k : Nat) : Array Value := ((es.take k).map (fun x => Value.int .u64 x) ++ List.replicate (512 - k) (Value.int .u64 0)).toArray
theorem partCells_zero (es : List Int) : partCells es 0 = Array.replicate 512 (Value.int .u64 0) := by
  simp only [partCells, List.take_zero, List.map_nil, List.nil_append, Nat.sub_zero]
  exact List.toArray_replicate _ _
theorem partCells_full {es : List Int} (h : es.length = 512) : Value.agg (partCells es 512) = tabV es := by
  simp [partCells, tabV, List.take_of_length_le (Nat.le_of_eq h)]
theorem partCells_size {es : List Int} {k : Nat} (h : es.length = 512) (hk : k ≤ 512) : (partCells es k).size = 512 := by simp [partCells]; omega
theorem partCells_get {es : List Int} {k : Nat} (h : es.length = 512) (hk : k < 512) : (partCells es k)[k]? = some (.int .u64 0) := by
  simp only [partCells, List.getElem?_toArray]
  rw [List.getElem?_append_right (by simp; omega)]
  rw [List.getElem?_replicate, if_pos (by simp; omega)]
theorem partCells_set {es : List Int} {k : Nat} {x : Int} (h : es.length = 512) (hx : es[k]? = some x) : (partCells es k).setIfInBounds k (.int .u64 x) = partCells es (k + 1) := by
  have hk : k < 512 := by have := (List.getElem?_eq_some_iff.1 hx).1; omega
  simp only [partCells, List.setIfInBounds_toArray]
  congr 1
  rw [List.set_append_right _ _ (by simp; omega)]
  rw [show k - (List.map (fun x => Value.int IntKind.u64 x) (List.take k es)).length = 0 from by simp; omega]
  rw [show 512 - k = (512 - (k + 1)) + 1 from by omega, List.replicate_succ, List.set_cons_zero, List.take_add_one, hx]
  simp
theorem partCells_one (es : List Int) (k : Nat) : (partCells es k).all (·.oneCell') = true := by
  rw [Array.all_eq_true_iff_forall_mem]
  intro v hv
  simp only [partCells, List.mem_toArray, List.mem_append, List.mem_map, List.mem_replicate] at hv
  rcases hv with ⟨x, _, rfl⟩ | ⟨_, rfl⟩ <;> rfl
/-- the table of no entries -/
def zeroTab : Value := tabV (List.replicate 512 0)
/-- what Read answers -/
def readTab (n : Nat) (l : List Int) : Value := if n = 4096 then tabV (entriesOf l) else zeroTab
theorem zeroTab_eq : zeroTab = .agg (Array.replicate 512 (Value.int .u64 0)) := by
  simp only [zeroTab, tabV, List.map_replicate]
  rw [List.toArray_replicate]
theorem run_ret_table {fn : Func} {p u : Tmp} {tmps : Array Value} {w : World} {g : Nat} {cs : Array Value} (h : fn.results = #[.cell p 24, .tmp u]) (hp : tmps.getD p undef = .pointer (some ⟨g, 0, none⟩)) (hg : w.heap[g]? = some (.cells cs 24 (0, 0))) (hs : cs.size = 512) :
    (results fn tmps).run Try.prog w = .ok (.tuple #[.agg cs, tmps.getD u undef]) w := by
  rw [results_cell_tmp h, hp]
  have hi : (Try.prog.info? 24).map (·.size) = some cs.size := by rw [hs]; kernel_rfl
  simp [asAddr, Result.andThen, run_loadVar_row (P := Try.prog) w g 24 24 cs (0, 0) _ hg Try.underlying24 rfl hi]
theorem RdC.drop {w : World} {T : TypeId} {g off n c k : Nat} {xs : List Value} (h : RdC w T 1 (.slice (some ⟨g, off, none⟩) n c) n xs) (hk : k < n) : RdC w T 1 (.slice (some ⟨g, off + k, none⟩) (n - k) (c - k)) (n - k) (xs.drop k) := by
  obtain ⟨hl, A, c', e, hc, hm, hr⟩ := h
  cases e
  obtain ⟨gb, off', cs, e, hg, hx⟩ := hr (by omega)
  cases e
  refine ⟨by simp at hl ⊢; omega, _, _, rfl, by omega, by omega, fun _ => ⟨_, _, cs, rfl, hg, fun i x hi => ?_⟩⟩
  rw [List.getElem?_drop] at hi
  have := hx (k + i) x hi
  rw [Nat.add_assoc]
  exact this
set_option maxHeartbeats 1000000 in
set_option maxRecDepth 100000 in
theorem read_any (v : Value) (n : Nat) (l : List Int) (hl : U8s l) (w : World) (hv : RdC w 5 1 v n (u8V l)) :
    Calls Try.prog 11 #[v] w (fun e w' => e = .returned (.tuple #[readTab n l, .bool (n == 4096)]) ∧ Below w.heap.size w w') := by
  obtain ⟨hlen, A, c, rfl, hc, hm, hr⟩ := hv
  have hln : l.length = n := by simpa [u8V] using hlen
  obtain ⟨Z, hZ, hzv⟩ : ∃ Z : Array Value, Z = Array.replicate 512 (.int .u64 0) ∧ ∀ w, (zeroValue 24).run Try.prog w = .ok (.agg Z) w := ⟨_, rfl, fun w => by kernel_rfl⟩
  have hZs : Z.size = 512 := by rw [hZ]; simp
  have hin : (Try.prog.info? 24).map (·.size) = some Z.size := by rw [hZs]; kernel_rfl
  have hin' := Lib.hid hin
  have hone : Hid (Z.all (·.oneCell') = true) := by rw [hZ]; exact (partCells_zero []) ▸ partCells_one [] 0
  have hZ' := Lib.hid hZ
  have hZs' := Lib.hid hZs
  clear hZ hin hZs
  by_cases hn : n = 4096
  · subst hn
    obtain ⟨gb, off, cs, rfl, hg, hx⟩ := hr (by omega)
    have hV : Hid (RdC w 5 1 (.slice (some ⟨gb, off, none⟩) 4096 c) 4096 (u8V l)) := ⟨hlen, _, c, rfl, hc, hm, fun _ => ⟨gb, off, cs, rfl, hg, hx⟩⟩
    have hes : (entriesOf l).length = 512 := by simp [entriesOf]
    have hltg := lt_of_block hg
    clear hr hg hx
    go_enter Try.func11, Try.ntmps11
    go_wp2_with fail
    go_loopg [5, 10, 13] 513 (fun g1 v5 v10 v13 wr => ∃ k : Nat, k + g1 = 513 ∧ k ≤ 512 ∧ v10 = .int .i64 k ∧ Hid (wr.heap[w.heap.size + 1]? = some (.cells (partCells (entriesOf l) k) 24 (0, 0))) ∧ Hid (wr.heap[w.heap.size]? = some (.cells Z 24 (0, 0))) ∧ Hid (Below w.heap.size w wr))
    case atStart =>
      refine ⟨0, rfl, by omega, rfl, ?_, ?_, ?_⟩
      · rw [partCells_zero, ← hZ'.out]
        have := heap_alloc_new (w.alloc (.cells Z 24)) (.cells Z 24)
        rw [World.size_alloc] at this
        exact this
      · exact (Below.heap_alloc _ _ _ (by simp)).trans (heap_alloc_new w _)
      · exact ((Below.refl _ _).alloc (Nat.le_refl _) _).alloc (by simp) _
    case round =>
      obtain ⟨k, hk, hk8, rfl, ht, hr, hb⟩ := hrel
      by_cases hlt : k < 512
      · have hsl := Lib.hid (RdC.drop (k := 8 * k) (hV.out.below hb.out) (by omega))
        have c1 : wr.cell? ⟨w.heap.size + 1, k, none⟩ = some (.int .u64 0) := (cell_of_row wr _ k _ _ _ ht.out).trans (partCells_get hes hlt)
        have f1 : wr.frozen? ⟨w.heap.size + 1, k, none⟩ = false := frozen_of_block ht.out
        have hltI : (k : Int) < 512 := by omega
        have hc1 : ¬ c = 8 * k := by omega
        have hc2 : (8 : Int) * (k : Int) ≤ 4096 := by omega
        go_wp2_with fail
        have hsl2 : RdC wr 5 1 (.slice (some ⟨gb, off + 8 * k, none⟩) (4096 - 8 * k) (c - 8 * k)) (4096 - 8 * k) (u8V (l.drop (8 * k))) := by
          have := hsl.out
          unfold u8V at this ⊢
          rw [List.map_drop]; exact this
        refine (get_any _ _ (l.drop (8 * k)) (fun x hx => hl x (List.mem_of_mem_drop hx)) (by omega) wr hsl2).mono ?_
        rintro en w2 ⟨rfl, rfl⟩
        have hent : (entriesOf l)[k]? = some (valB ((l.drop (8 * k)).take 8)) := by simp [entriesOf, hlt]
        have hblk := Lib.hid (setCell_block ht.out (i := k) (.int .u64 (valB ((l.drop (8 * k)).take 8))))
        have hset := Lib.hid (partCells_set hes hent)
        have hb2 := Lib.hid (hb.out.setCell (p := ⟨w.heap.size + 1, k, none⟩) (by simp) (.int .u64 (valB ((l.drop (8 * k)).take 8))))
        have hfar := Lib.hid ((setCell_far (w := w2) (g := w.heap.size + 1) (i := k) (k := w.heap.size) (by omega) (.int .u64 (valB ((l.drop (8 * k)).take 8)))).trans hr.out)
        generalize valB ((l.drop (8 * k)).take 8) = x at *
        clear hsl hsl2 hent
        go_wp2
        go_roundg (512 - k)
        case rel => exact ⟨k + 1, by omega, by omega, by simp, by rw [← hset.out]; exact hblk.out, hfar.out, hb2.out⟩
        case measure => omega
      · obtain rfl : k = 512 := by omega
        have htab := partCells_full hes
        generalize hP : partCells (entriesOf l) 512 = Pc at ht htab
        have hPs : Pc.size = 512 := by rw [← hP]; exact partCells_size hes (by omega)
        have hP1 : Pc.all (·.oneCell') = true := by rw [← hP]; exact partCells_one _ _
        have hin2 : (Try.prog.info? 24).map (·.size) = some Pc.size := by rw [hPs]; kernel_rfl
        have hP1' := Lib.hid hP1
        have hin2' := Lib.hid hin2
        have hZP : Hid (Z.size = Pc.size) := by rw [hPs]; exact hZs'.out
        have hPs' := Lib.hid hPs
        have hv1 : Hid (readTab 4096 l = .agg Pc) := by show readTab 4096 l = .agg Pc; unfold readTab; rw [if_pos rfl, htab]
        clear hP hPs hP1 hin2 htab
        go_wp2_with (first
          | (refine wpList_load_row rfl 24 (.tmp 4) rfl (w.heap.size + 1) rfl 24 Pc (0, 0) _ ht.out Try.underlying24 rfl hin2'.out ?_)
          | (refine wpList_store_row rfl 24 (.tmp 2) (.tmp 24) rfl w.heap.size Pc rfl rfl 24 Z hr.out hin2'.out hZP.out hP1'.out ?_))
        rw [hv1.out]
        exact bodyPost_ret (run_ret_table Try.results11 rfl (setRow_heap _ _ _ _ _ _ hr.out) hPs'.out) rfl ⟨rfl, below_setRow hb.out (Nat.le_refl _) _⟩
  · have hnI : ((n : Int) != 4096) = true := by simp; omega
    have hne := Lib.hid hn
    have hv1 : readTab n l = .agg Z := by unfold readTab; rw [if_neg hn, zeroTab_eq, hZ'.out]
    have hv2 : (n == 4096) = false := by simp [hn]
    rw [hv1, hv2]
    clear hr hn hv1 hv2
    go_enter Try.func11, Try.ntmps11
    go_wp2_with (refine wpList_store_row rfl 24 (.tmp 2) (.tmp 9) rfl w.heap.size Z rfl rfl 24 Z (heap_alloc_new w _) hin'.out rfl hone.out ?_)
    rw [setRow_self _ _ _ _ _ (heap_alloc_new w _)]
    exact bodyPost_ret (run_ret_table Try.results11 rfl (heap_alloc_new w _) hZs'.out) rfl ⟨rfl, (Below.refl _ _).alloc (Nat.le_refl _) _⟩
end Go.Proofs.Ytaogndianciogaa.Mm
