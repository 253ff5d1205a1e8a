/- pages.Bytes: the bytes of a table. -/
import Derived.Test.YtaogndianciogaaAll
import Derived.Deep.MidRow
namespace Go.Proofs.Ytaogndianciogaa.Mm
open Go.RowKit
set_option linter.unusedVariables false
set_option linter.unusedSimpArgs false
/-- a table's value -/
def tabV (es : List Int) : Value := .agg (es.map fun x => Value.int .u64 x).toArray
/-- numbers of 64 bits -/
def U64s (es : List Int) : Prop := ∀ x ∈ es, 0 ≤ x ∧ x < 18446744073709551616
def bytesOf (es : List Int) : List Value := es.flatMap fun x => bytesN x 8
theorem bytesOf_length (es : List Int) : (bytesOf es).length = es.length * 8 := by
  induction es with
  | nil => rfl
  | cons x r ih => simp only [bytesOf, List.flatMap_cons, List.length_append, bytesN_length, List.length_cons] at *; rw [ih]; omega
theorem bytesOf_snoc (es : List Int) (x : Int) : bytesOf (es ++ [x]) = bytesOf es ++ bytesN x 8 := by simp [bytesOf]
/-- an entry of a table by value -/
theorem run_entry {w : World} {cs : Array Value} {k : Nat} {x : Int} (hk : k < 512) (h : cs[k]? = some (.int .u64 x)) : (Instr.index 24 (.agg cs) (.int .i64 k)).run Try.prog w = .ok (.int .u64 x) w := by
  obtain ⟨i0, hi0, hz0, hz1, hz2⟩ := info_parts (P := Try.prog) (t := 22) (z := some (.int .u64 0)) (s := 1) (b := 8) (by kernel_rfl)
  have hag : (isAgg 22).run Try.prog w = .ok false w := by kernel_rfl
  have h0 : (0 : Int) ≤ (k : Int) ∧ (k : Int) < ((512 : Nat) : Int) := by omega
  have hg : cs.getD k undef = .int .u64 x := by rw [Array.getD_eq_getD_getElem?, h]; rfl
  simp [Instr.index, run_underlying Try.underlying24, asIntOf, go_sem, sizeOf, typeInfo, hi0, hz1, part, hag, h, hk]
theorem bytesOf_one (es : List Int) : ∀ u ∈ bytesOf es, u.oneCell' = true := by
  intro u hu
  simp only [bytesOf, List.mem_flatMap] at hu
  obtain ⟨x, _, hu⟩ := hu
  exact bytesN_one x 8 u hu
theorem own_mono {w : World} {base base' : Nat} {T : TypeId} {sz : Nat} {v : Value} {n : Nat} {xs : List Value} (h : w.ownsRow base T sz v n xs) (hb : base' ≤ base) : w.ownsRow base' T sz v n xs := by
  obtain ⟨h1, h2⟩ := h
  refine ⟨h1, ?_⟩
  rcases h2 with h2 | ⟨g, cap, cur, e, hbg, hr⟩
  · exact .inl h2
  · exact .inr ⟨g, cap, cur, e, Nat.le_trans hb hbg, hr⟩
set_option maxHeartbeats 1000000 in
set_option maxRecDepth 100000 in
theorem bytes_any (es : List Int) (he : es.length = 512) (hu : U64s es) (w : World) :
    Calls Try.prog 8 #[tabV es] w
      (fun e w' => ∃ v', e = .returned v' ∧ w'.ownsRow w.heap.size 5 1 v' 4096 (bytesOf es) ∧ Below w.heap.size w w') := by
  unfold tabV
  generalize hcs : (es.map fun x => Value.int .u64 x).toArray = cs
  have hcsz : cs.size = 512 := by rw [← hcs]; simp [he]
  have hcs' := Lib.hid hcs
  clear hcs
  go_enter Try.func8, Try.ntmps8
  go_wp2_with fail
  refine (newWriter_any _).mono ?_
  rintro en w1 ⟨gw, rfl, hwr, hb⟩
  have hb1 : Below w.heap.size w w1 := ((Below.refl w.heap.size w).alloc (Nat.le_refl _) _).trans (hb.mono (by simp))
  have hblk : w1.heap[w.heap.size]? = some (.cells cs 24 (0, 0)) := (hb.block w.heap.size (by simp)).trans (heap_alloc_new w _)
  have hrg : w1.rangeAt w.heap.size 0 cs.toList := fun j v hv => by
    rw [Nat.zero_add]; exact (cell_of_row w1 w.heap.size j cs _ _ hblk).trans (by simpa using hv)
  have hrg' := Lib.hid hrg
  have hin : (Try.prog.info? 24).map (·.size) = some cs.toList.length := by rw [Array.length_toList, hcsz]; kernel_rfl
  have hin' := Lib.hid hin
  clear hrg hin
  have hwr' : Hid (Wr w.heap.size gw w1 (.slice none 0 0) 0 (bytesOf (es.take 0))) := ⟨hwr.cell, Nat.le_trans (by simp) hwr.le, by
    have := World.ownsRow_nil w1 w.heap.size 5 1
    simpa [bytesOf] using this⟩
  have hb1' := Lib.hid hb1
  clear hwr hb hb1 hblk
  go_wp2_with (refine wpList_load_mid rfl 24 (.tmp 1) rfl w.heap.size 0 rfl cs.toList (.array 512 22) hrg'.out Try.underlying24 rfl hin'.out ?_)
  go_loopg [5, 8] 513 (fun g1 v5 v8 wr => ∃ (k : Nat) (vb : Value), k + g1 = 513 ∧ k ≤ 512 ∧ v8 = .int .i64 k ∧ Hid (Wr w.heap.size gw wr vb (k * 8) (bytesOf (es.take k))) ∧ Hid (Below w.heap.size w wr))
  case atStart => exact ⟨0, _, rfl, by omega, rfl, hwr', hb1'⟩
  case round =>
    obtain ⟨k, vb, hk, hk8, rfl, hwr, hb⟩ := hrel
    by_cases hlt : k < 512
    · have hx : es[k]? = some (es[k]'(by omega)) := List.getElem?_eq_getElem _
      have hxu := hu _ (List.getElem_mem (show k < es.length by omega))
      generalize es[k]'(by omega) = x at hx hxu
      have hget : cs[k]? = some (.int .u64 x) := by rw [← hcs'.out]; simp [hx]
      have hlt' : (k : Int) < 512 := by omega
      have hx' := Lib.hid hx
      clear hx
      have hent : ∀ w2, (Instr.index 24 (.agg cs) (.int .i64 k)).run Try.prog w2 = .ok (.int .u64 x) w2 := fun w2 => run_entry hlt hget
      clear hget
      go_wp2_with fail
      refine (long_any w.heap.size gw vb (k * 8) _ x hxu.1 hxu.2 wr hwr.out (by omega) hb.out.size).mono ?_
      rintro en w2 ⟨rfl, vb', hwr2, hb2⟩
      have H : Wr w.heap.size gw w2 vb' ((k + 1) * 8) (bytesOf (es.take (k + 1))) := by
        rw [List.take_add_one, hx'.out, Option.toList_some, bytesOf_snoc, Nat.add_mul, Nat.one_mul]
        exact hwr2
      have H' := Lib.hid H
      have HB := Lib.hid (hb.out.trans hb2)
      clear H hwr2 hb2
      go_wp2
      go_roundg (512 - k)
      case rel => exact ⟨k + 1, vb', by omega, by omega, by simp, H', HB⟩
      case measure => omega
    · obtain rfl : k = 512 := by omega
      go_wp2_with fail
      refine (all_any w.heap.size gw vb 4096 _ wr hwr.out (bytesOf_one _) (by omega) (by omega)).mono ?_
      rintro en w2 ⟨v', rfl, hown2, hb2⟩
      have H : w2.ownsRow w.heap.size 5 1 v' 4096 (bytesOf es) := by
        have := hown2
        rw [show es.take 512 = es from List.take_of_length_le (by omega)] at this
        exact own_mono this hb.out.size
      have H' := Lib.hid H
      have HB := Lib.hid (hb.out.trans (hb2.mono hb.out.size))
      clear H hown2 hb2
      go_wp2
      go_returns
      exact ⟨_, rfl, H'.out, HB.out⟩
end Go.Proofs.Ytaogndianciogaa.Mm
