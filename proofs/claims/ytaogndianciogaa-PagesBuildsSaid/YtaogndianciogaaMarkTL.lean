/- bulkheadlaw12.tableMark, leafMark. -/
import Derived.Test.YtaogndianciogaaApG
import Derived.Test.YtaogndianciogaaMref
import Derived.Deep.WholeRow
import Derived.Laws.ResultCell
namespace Go.Proofs.Ytaogndianciogaa.Mm
open Go.RowKit
set_option linter.unusedVariables false
set_option linter.unusedSimpArgs false
def mkT (i j : Nat) : List Int := ((i : Int) + 1) :: (j : Int) :: List.replicate 510 0
theorem mkT_len (i j : Nat) : (mkT i j).length = 512 := by unfold mkT; rw [List.length_cons, List.length_cons, List.length_replicate]
def mkTV (i j : Nat) : List Value := (mkT i j).map (Value.int .u64)
theorem mkTV_len (i j : Nat) : (mkTV i j).length = 512 := by unfold mkTV; rw [List.length_map, mkT_len]
set_option maxRecDepth 100000 in
theorem built_mkT (a b : Int) : Try.prog.built 24 [(0, .int .u64 a), (1, .int .u64 b)] = some ((a :: b :: List.replicate 510 0).map (Value.int .u64)).toArray := by kernel_rfl
def mkLf (i : Nat) : Lf := ⟨0, 0, -1000 - i, false, false, false⟩
def mkLV (i j : Nat) : List Value := (mkLf i).cells
theorem results_cell1 {fn : Func} {p : Tmp} {ty : TypeId} (h : fn.results = #[.cell p ty]) (tmps : Array Value) (P : Program) (w : World) :
    (results fn tmps).run P w = ((asAddr (tmps.getD p undef)).run P w).andThen fun a w₁ => ((loadVar ty a).run P w₁).andThen fun v w₂ => .ok v w₂ := by
  simp only [results, h]
  simp [Sem.run_bind, Result.andThen]
  cases Sem.run P (asAddr (tmps[p]?.getD undef)) w with
  | halt h w => rfl
  | ok a w =>
    dsimp only
    cases Sem.run P (loadVar ty a) w <;> rfl
theorem run_ret_tab1 {fn : Func} {p : Tmp} {tmps : Array Value} {w : World} {g : Nat} {cs : Array Value} (h : fn.results = #[.cell p 24]) (hp : tmps.getD p undef = .pointer (some ⟨g, 0, none⟩)) (hg : w.heap[g]? = some (.cells cs 24 (0, 0))) (hs : cs.size = 512) :
    (results fn tmps).run Try.prog w = .ok (.agg cs) w := by
  rw [results_cell1 h, hp]
  have hi : (Try.prog.info? 24).map (·.size) = some cs.size := by rw [hs]; kernel_rfl
  simp [asAddr, Result.andThen, run_loadVar_row (P := Try.prog) w g 24 24 cs (0, 0) _ hg Try.underlying24 rfl hi]
set_option maxHeartbeats 1000000 in
set_option maxRecDepth 100000 in
theorem tmark_any (i j : Nat) (hi : i < 9223372036854775807) (hj : j ≤ 9223372036854775807) (w : World) :
    Calls Try.prog 23 #[.int .i64 i, .int .i64 j] w (fun e w' => e = .returned (.agg (mkTV i j).toArray) ∧ Below w.heap.size w w') := by
  obtain ⟨Z, hZ, hzv⟩ : ∃ Z : Array Value, Z = Array.replicate 512 (.int .u64 0) ∧ ∀ w, (zeroValue 24).run Try.prog w = .ok (.agg Z) w := ⟨_, rfl, fun w => by kernel_rfl⟩
  have hZs : Hid (Z.size = 512) := by show _ = _; rw [hZ]; simp
  have hin : Hid ((Try.prog.info? 24).map (·.size) = some (mkTV i j).toArray.size) := by show _ = _; rw [List.size_toArray, mkTV_len]; kernel_rfl
  have hzz : Hid (Z.size = (mkTV i j).toArray.size) := hZs.out.trans (by rw [List.size_toArray, mkTV_len])
  have hone : Hid ((mkTV i j).toArray.all (·.oneCell') = true) := all_oneCell_toArray (u64_one)
  have hbt : Hid (Try.prog.built 24 [(0, .int .u64 ((i : Int) + 1)), (1, .int .u64 (j : Int))] = some (mkTV i j).toArray) := built_mkT _ _
  have hms : Hid ((mkTV i j).toArray.size = 512) := by show _ = _; rw [List.size_toArray, mkTV_len]
  clear hZ
  generalize (mkTV i j).toArray = M at *
  go_enter Try.func23, Try.ntmps23
  go_wp2_with (first
    | (refine wpList_build_as rfl 24 _ rfl M (by rw [parts_two]; exact hbt.out) ?_)
    | (refine wpList_store_row rfl 24 (.tmp 4) (.tmp 10) rfl w.heap.size M rfl rfl 24 Z (heap_alloc_new w _) hin.out hzz.out hone.out ?_))
  rw [World.setRow_alloc_new]
  exact bodyPost_ret (run_ret_tab1 Try.results23 rfl (heap_alloc_new w _) hms.out) rfl ⟨rfl, (Below.refl _ _).alloc (Nat.le_refl _) _⟩
set_option maxHeartbeats 1000000 in
theorem lmark_any (i j : Nat) (hi : i < 9223372036854770000) (w : World) :
    Calls Try.prog 25 #[.int .i64 i, .int .i64 j] w (fun e w' => e = .returned (mkLf i).val ∧ Below w.heap.size w w') := by
  have hiI : (i : Int) < 9223372036854770000 := by omega
  go_enter Try.func25, Try.ntmps25
  go_wp2
  go_returns
  exact ⟨rfl, (Below.refl _ _).alloc (Nat.le_refl _) _⟩
end Go.Proofs.Ytaogndianciogaa.Mm
