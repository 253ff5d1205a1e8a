/- The statement PagesBytes' own function answers true. -/
import Derived.Test.YtaogndianciogaaLawSt
namespace Go.Proofs.Ytaogndianciogaa.Mm
open Go.RowKit
set_option linter.unusedVariables false
set_option linter.unusedSimpArgs false
set_option maxHeartbeats 8000000 in
set_option maxRecDepth 100000 in
theorem pagesBytes_any (es : List Int) (he : es.length = 512) (hu : U64s es) (v : Value) (n : Nat) (l : List Int) (hl : U8s l) (w : World) (hv : RdX w 1 v n (u8V l)) :
    Calls Try.prog 3 #[tabV es, v] w (fun e w' => e = .returned (.bool true) ∧ Below w.heap.size w w') := by
  obtain ⟨A, c, rfl, hcn, hcm⟩ : ∃ A c, v = .slice A n c ∧ n ≤ c ∧ c ≤ 9223372036854775807 := by
    obtain ⟨_, A, c, e, h1, hm, _⟩ := hv
    exact ⟨A, c, e, h1, by unfold maxLen at hm; omega⟩
  have hln : l.length = n := by have := hv.1; simpa [u8V] using this
  have hv0 := Lib.hid hv
  clear hv
  unfold tabV
  generalize hcs : (es.map fun x => Value.int .u64 x).toArray = cs
  have hcsz : cs.size = 512 := by rw [← hcs]; simp [he]
  have hcs' := Lib.hid hcs
  clear hcs
  obtain ⟨i0, hi0, hz0, hz1, hz2⟩ := info_parts infoByte
  obtain ⟨Z, hZ, hzv⟩ : ∃ Z : Array Value, Z = Array.replicate 512 (.int .u64 0) ∧ ∀ w, (zeroValue 24).run Try.prog w = .ok (.agg Z) w := ⟨_, rfl, fun w => by kernel_rfl⟩
  have hZs : Hid (Z.size = 512) := by rw [hZ]; show _ = _; simp
  have hZv : Hid (zeroTab = .agg Z) := by rw [zeroTab_eq, hZ]; rfl
  have hZl : Hid (Z = ((List.replicate 512 (0 : Int)).map (Value.int .u64)).toArray) := by rw [hZ]; show _ = _; simp only [List.map_replicate, List.toArray_replicate]
  clear hZ
  have hw2 : Hid (((w.alloc (.cells cs 24)).alloc (.cells #[.int .i64 (n : Int)] 3)).heap[w.heap.size + 1]? = some (.cells #[.int .i64 (n : Int)] 3 (0, 0))) := by
    have := heap_alloc_new (w.alloc (.cells cs 24)) (.cells #[.int .i64 (n : Int)] 3)
    rwa [World.size_alloc] at this
  have hbey := Lib.hid (beyond_any (.slice (some ⟨w.heap.size + 1, 0, none⟩) 1 1) 1 [(n : Int)] (by simp) (by simp; omega) ((w.alloc (.cells cs 24)).alloc (.cells #[.int .i64 (n : Int)] 3))
    ⟨rfl, _, 1, rfl, Nat.le_refl _, by decide, fun _ => ⟨w.heap.size + 1, 0, _, rfl, hw2.out, fun i x hi => by simpa using hi⟩⟩)
  have hb2 : Hid (Below w.heap.size w ((w.alloc (.cells cs 24)).alloc (.cells #[.int .i64 (n : Int)] 3))) := ((Below.refl _ _).alloc (Nat.le_refl _) _).alloc (by simp) _
  by_cases hn : 2147483647 < n
  · have hd : decide ((2147483647 : Int) < sumI [(n : Int)]) = true := decide_eq_true (by simp [sumI]; omega)
    rw [hd] at hbey
    clear hd
    go_enter Try.func3, Try.ntmps3
    go_wp2_with fail
    refine hbey.out.mono ?_
    rintro en w3 ⟨rfl, rfl⟩
    go_wp2
    go_returns
    exact ⟨rfl, hb2.out⟩
  · have hd : decide ((2147483647 : Int) < sumI [(n : Int)]) = false := decide_eq_false (by simp [sumI]; omega)
    rw [hd] at hbey
    clear hd
    go_enter Try.func3, Try.ntmps3
    go_wp2_with fail
    refine hbey.out.mono ?_
    rintro en w3 ⟨rfl, rfl⟩
    have hst := Lib.hid (LS0.start w cs n)
    clear hbey hw2 hb2
    go_wp2
    go_loopg [6, 7] 513 (fun g1 v6 v7 wr => ∃ k : Nat, k + g1 = 513 ∧ k ≤ 512 ∧ v7 = .int .i64 k ∧ Hid (LS0 w cs wr) ∧ Hid (wr.ownsRow w.heap.size 5 1 v6 (k * 8) (u8V (byteInts (es.take k)))))
    case atStart => exact ⟨0, rfl, by omega, rfl, hst, World.ownsRow_nil _ _ _ _⟩
    case round =>
      clear hst
      obtain ⟨k, hk, hk8, rfl, hst, hown⟩ := hrel
      by_cases hlt : k < 512
      · have hx : es[k]? = some (es[k]'(by omega)) := List.getElem?_eq_getElem _
        have hxu := hu _ (List.getElem_mem (show k < es.length by omega))
        generalize es[k]'(by omega) = x at hx hxu
        have hx' := Lib.hid hx
        have hget : cs[k]? = some (.int .u64 x) := by rw [← hcs'.out]; simp [hx]
        have hget' := Lib.hid hget
        clear hx hget
        obtain ⟨hx0, hx1⟩ := hxu
        have hltI : (k : Int) < 512 := by omega
        go_wp2
        go_loopg [6, 8] 9 (fun g2 v6 v8 wr => ∃ j : Nat, j + g2 = 9 ∧ j ≤ 8 ∧ v8 = .int .i64 j ∧ Hid (LS0 w cs wr) ∧ Hid (wr.ownsRow w.heap.size 5 1 v6 (k * 8 + j) (u8V (byteInts (es.take k) ++ (List.range j).map (byteAt x)))))
        case atStart => exact ⟨0, rfl, by omega, rfl, hst, by simpa using hown⟩
        case round =>
          clear hst hown
          obtain ⟨j, hj, hj8, rfl, hst, hown⟩ := hrel
          by_cases hlt2 : j < 8
          · have cT : wr.cell? ⟨w.heap.size, k, none⟩ = some (.int .u64 x) := (cell_of_row wr _ k _ _ _ hst.out.table).trans hget'.out
            have hltI2 : (j : Int) < 8 := by omega
            obtain ⟨A6, n6, c6, rfl⟩ : ∃ A n c, u6 = .slice A n c := by
              obtain ⟨_, A, c, e, _⟩ := RdC.of_own hown.out
              exact ⟨A, _, c, e⟩
            have hown2 := Lib.hid (own_below hown.out ((Below.refl wr.heap.size wr).alloc (Nat.le_refl _) (.cells #[.int .u8 (x / 2 ^ (8 * j) % 256)] 5)))
            have hB1 : w.heap.size ≤ (wr.alloc (.cells #[.int .u8 (x / 2 ^ (8 * j) % 256)] 5)).heap.size := by
              have := hst.out.below.size
              simp; omega
            have hone : Hid (∀ u ∈ [Value.int .u8 (x / 2 ^ (8 * j) % 256)], u.oneCell' = true) := by
              intro u hu
              simp at hu
              subst hu; rfl
            have hpost : Hid (∀ v' (w' : World), w'.ownsRow w.heap.size 5 1 v' (k * 8 + j + 1) (u8V (byteInts (es.take k) ++ (List.range j).map (byteAt x)) ++ [.int .u8 (x / 2 ^ (8 * j) % 256)]) → w'.ownsRow w.heap.size 5 1 v' (k * 8 + (j + 1)) (u8V (byteInts (es.take k) ++ (List.range (j + 1)).map (byteAt x)))) := by
              intro v' w' h
              have e : u8V (byteInts (es.take k) ++ (List.range (j + 1)).map (byteAt x)) = u8V (byteInts (es.take k) ++ (List.range j).map (byteAt x)) ++ [.int .u8 (x / 2 ^ (8 * j) % 256)] := by
                rw [List.range_succ, List.map_append, ← List.append_assoc]
                unfold u8V
                rw [List.map_append (l₂ := List.map (byteAt x) [j])]
                rfl
              rw [e]
              exact h
            have hm1 : k * 8 + j + 1 ≤ maxLen := by unfold maxLen; omega
            have hm2 : (k * 8 + j + 1) * 1 ≤ 140737488355328 := by omega
            go_wp2_with (at_builtin; refine wpList_append_own _ rfl (.tmp 29) (.tmp 38) 25 rfl w.heap.size 5 i0 (.int .u8 0) 1 1 Try.underlying25 hi0 hz0 hz1 hz2 rfl (by decide) (.slice A6 n6 c6) (k * 8 + j) (u8V (byteInts (es.take k) ++ (List.range j).map (byteAt x))) rfl hown2.out ⟨wr.heap.size, 0, none⟩ 1 1 [.int .u8 (x / 2 ^ (8 * j) % 256)] rfl rfl (cell_one_new wr _ _) hone.out hm1 hm2 hB1 ?_
                         intro v' w' hown' hgrow' _
                         have hst2 := Lib.hid (hst.out.grown hown.out hgrow')
                         have hown3 := Lib.hid (hpost.out v' w' hown')
                         clear hown' hgrow')
            go_roundg (8 - j)
            case rel => exact ⟨j + 1, by omega, by omega, by simp, hst2, hown3⟩
            case measure => omega
          · obtain rfl : j = 8 := by omega
            have hown2 : Hid (wr.ownsRow w.heap.size 5 1 u6 ((k + 1) * 8) (u8V (byteInts (es.take (k + 1))))) := by
              have := hown.out
              rw [← byteInts_snoc] at this
              show wr.ownsRow _ _ _ _ _ _
              rw [List.take_add_one, hx'.out, Option.toList_some, Nat.add_mul, Nat.one_mul]
              exact this
            go_wp2
            go_roundg (512 - k)
            case rel => exact ⟨k + 1, by omega, by omega, by simp, hst, hown2⟩
            case measure => omega
      · obtain rfl : k = 512 := by omega
        have hstF := Lib.hid hst.out.full
        have hown2 : Hid (wr.ownsRow w.heap.size 5 1 u6 4096 (u8V (byteInts es))) := by
          have := hown.out
          rw [List.take_of_length_le (by omega)] at this
          exact this
        clear hst hown
        have hin : Hid ((Try.prog.info? 24).map (·.size) = some cs.size) := by rw [hcsz]; show (Try.prog.info? 24).map (·.size) = some 512; kernel_rfl
        have hvt : Hid (tabV es = .agg cs) := by unfold tabV; rw [hcs'.out]; rfl
        clear hk8 hlt
        go_wp2
        go_loopg [9] 3 (fun g1 v9 wr => ∃ k : Nat, k + g1 = 3 ∧ k ≤ 2 ∧ v9 = .int .i64 k ∧ Hid (LSt w cs wr) ∧ Hid (RdC wr 5 1 u6 4096 (u8V (byteInts es))))
        case atStart => exact ⟨0, rfl, by omega, rfl, hstF, RdC.of_own hown2.out⟩
        case round =>
          clear hstF hown2
          obtain ⟨k, hk, hk2, rfl, hst, hwant⟩ := hrel
          by_cases hlt : k < 2
          · have htab := Lib.hid hst.out.table
            have hltI : (k : Int) < 2 := by omega
            have hbytes := Lib.hid (bytes_any es he hu wr)
            rw [hvt.out, bytesOf_ints] at hbytes
            go_wp2_with (refine wpList_load_row rfl 24 (.tmp 2) rfl w.heap.size rfl 24 cs (0, 0) _ htab.out Try.underlying24 rfl hin.out ?_)
            refine hbytes.out.mono ?_
            rintro en w2 ⟨v1, rfl, hown1', hb1'⟩
            have hb1 := Lib.hid hb1'
            have hown1 := Lib.hid hown1'
            clear hb1' hown1'
            have hwant2 := Lib.hid (hwant.out.below hb1.out)
            have hsame := Lib.hid (same_any v1 u6 4096 4096 (byteInts es) (byteInts es) w2 (RdC.of_own hown1.out).weak hwant2.out.weak)
            have hd : decide (byteInts es = byteInts es) = true := decide_eq_true rfl
            rw [hd] at hsame
            clear hd
            go_wp2_with fail
            refine hsame.out.mono ?_
            rintro en w3 ⟨rfl, j, rfl⟩
            have hkeep := Lib.hid (hst.out.keep_call (w2 := w2.drewN j) (below_drewN hb1.out j) (v := v1) (n := 4096) (xs := byteInts es) (own_keep hown1.out fun _ _ _ => rfl) (by omega))
            go_wp2_with fail
            refine hkeep.out.mono ?_
            rintro en w4 ⟨rfl, hst4', hk4⟩
            have hst4 := Lib.hid hst4'
            have hwant4 := Lib.hid ((hwant2.out.drewN j).keep hk4)
            clear hst4' hk4
            go_wp2
            go_roundg (2 - k)
            case rel => exact ⟨k + 1, by omega, by omega, by simp, hst4, hwant4⟩
            case measure => omega
          · obtain rfl : k = 2 := by omega
            have hread := Lib.hid (read_any u6 4096 (byteInts es) (byteInts_u8 es) wr hwant.out)
            have e1 : readTab 4096 (byteInts es) = .agg cs := by unfold readTab; rw [if_pos rfl, entries_bytes he hu]; exact hvt.out
            have e2 : ((4096 : Nat) == 4096) = true := rfl
            rw [e1, e2] at hread
            clear e1 e2 hwant
            have hone : Hid (cs.all (·.oneCell') = true) := by
              rw [← hcs'.out]
              show _ = _
              simp [Value.oneCell']
            have hZcs : Hid (Z.size = cs.size) := by rw [hZs.out, hcsz]; rfl
            have hequal := fun w => tab_equal es es he he w
            rw [decide_eq_true rfl, hcs'.out] at hequal
            have hguard := tab_guard
            go_wp2_with fail
            refine hread.out.mono ?_
            rintro en w2 ⟨rfl, hb2'⟩
            have hst2 := Lib.hid (hst.out.next hb2')
            clear hb2' hst
            have hnew2 := Lib.hid (heap_alloc_new w2 (.cells Z 24))
            have hst3 := Lib.hid (hst2.out.next (below_setRow ((Below.refl w2.heap.size w2).alloc (Nat.le_refl _) (.cells Z 24)) (Nat.le_refl w2.heap.size) cs))
            go_wp2_with (refine wpList_store_row rfl 24 (.tmp 11) (.tmp 56) rfl w2.heap.size cs rfl rfl 24 Z hnew2.out hin.out hZcs.out hone.out ?_)
            refine wp_load_row 24 (.tmp 11) rfl w2.heap.size rfl 24 cs (0, 0) _ (setRow_heap _ _ _ _ _ _ hnew2.out) Try.underlying24 rfl hin.out ?_
            rename_i hK
            refine hK _ _ ?_
            clear hK
            go_wp2_with fail
            refine wp_load_row 24 (.tmp 2) rfl w.heap.size rfl 24 cs (0, 0) _ hst3.out.table Try.underlying24 rfl hin.out ?_
            rename_i hK
            refine hK _ _ ?_
            clear hK
            clear hnew2 hst2
            generalize (w2.alloc (.cells Z 24)).setRow w2.heap.size cs = w3 at *
            go_wp2_with fail
            have hroomy := Lib.hid (roomy_any (.slice A n c) n l 165 (by omega) w3 (hv0.out.below hst3.out.below))
            refine hroomy.out.mono ?_
            rintro en w4 ⟨rfl, hblk', hb4'⟩
            have hst4 := Lib.hid (hst3.out.next hb4')
            have hrl : roomyL l 165 80 = l ++ List.replicate 80 165 := by simp [roomyL]
            have hfull : Hid (RdC w4 5 1 (.slice (some ⟨w3.heap.size, 0, none⟩) (n + 80) (n + 80)) (n + 80) (u8V (l ++ List.replicate 80 165))) := by
              rw [← hrl]
              refine ⟨by rw [u8V_length, roomyL_length _ _ (by omega)]; omega, _, _, rfl, Nat.le_refl _, by unfold maxLen; omega, fun _ => ⟨_, 0, _, rfl, hblk', fun i x hi => by simpa using hi⟩⟩
            have hpre : Hid (RdC w4 5 1 (.slice (some ⟨w3.heap.size, 0, none⟩) n (n + 80)) n (u8V l)) := by
              refine ⟨by rw [u8V_length]; omega, _, _, rfl, by omega, by unfold maxLen; omega, fun _ => ⟨_, 0, _, rfl, hblk', fun i x hi => ?_⟩⟩
              have hi2 : (u8V (l ++ List.replicate 80 165))[i]? = some x := by
                unfold u8V at hi ⊢
                rw [List.map_append, List.getElem?_append_left (List.getElem?_eq_some_iff.1 hi).1]
                exact hi
              rw [hrl, Nat.zero_add, List.getElem?_toArray]
              exact hi2
            clear hroomy hblk' hb4' hrl hst3
            generalize w3.heap.size = g13 at *
            clear w3
            have hread2 := Lib.hid (read_any _ n l hl w4 hpre.out)
            have hnI : ¬ (2147483647 : Int) < (n : Int) := by omega
            by_cases hn4 : n = 4096
            · subst hn4
              have hel : (entriesOf l).length = 512 := by simp [entriesOf]
              obtain ⟨cx, hcx⟩ : ∃ cx, cx = ((entriesOf l).map fun x => Value.int .u64 x).toArray := ⟨_, rfl⟩
              have hcxs : cx.size = 512 := by rw [hcx]; simp [hel]
              have e1 : readTab 4096 l = .agg cx := by unfold readTab; rw [if_pos rfl, hcx]; rfl
              have e2 : ((4096 : Nat) == 4096) = true := rfl
              rw [e1, e2] at hread2
              have hcx' : Hid (tabV (entriesOf l) = .agg cx) := by rw [hcx]; rfl
              have hone2 : Hid (cx.all (·.oneCell') = true) := by
                rw [hcx]
                show _ = _
                simp [Value.oneCell']
              have hin2 : Hid ((Try.prog.info? 24).map (·.size) = some cx.size) := by rw [hcxs]; show (Try.prog.info? 24).map (·.size) = some 512; kernel_rfl
              have hZcx : Hid (Z.size = cx.size) := by rw [hZs.out, hcxs]; rfl
              clear e1 e2 hcx hpre
              go_wp2_with fail
              refine hread2.out.mono ?_
              rintro en w5 ⟨rfl, hb5'⟩
              have hst5 := Lib.hid (hst4.out.next hb5')
              have hfull5 := Lib.hid (hfull.out.below hb5')
              clear hb5' hread2 hst4 hfull
              have hnew5 := Lib.hid (heap_alloc_new w5 (.cells Z 24))
              have hb6 := Lib.hid (below_setRow ((Below.refl w5.heap.size w5).alloc (Nat.le_refl _) (.cells Z 24)) (Nat.le_refl w5.heap.size) cx)
              have hst6 := Lib.hid (hst5.out.next hb6.out)
              have hfull6 := Lib.hid (hfull5.out.below hb6.out)
              have htx6 : Hid (((w5.alloc (.cells Z 24)).setRow w5.heap.size cx).heap[w5.heap.size]? = some (.cells cx 24 (0, 0))) := setRow_heap _ _ _ _ _ _ hnew5.out
              have hint := Lib.hid (intact_any _ _ 4096 (4096 + 80) _ l 165 (by omega) _ hfull6.out (hv0.out.below hst6.out.below))
              rw [decide_eq_true rfl] at hint
              go_wp2_with (refine wpList_store_row rfl 24 (.tmp 14) (.tmp 73) rfl w5.heap.size cx rfl rfl 24 Z hnew5.out hin2.out hZcx.out hone2.out ?_)
              generalize (w5.alloc (.cells Z 24)).setRow w5.heap.size cx = w6 at *
              refine hint.out.mono ?_
              rintro en w7 ⟨rfl, j, rfl⟩
              have hst7 := Lib.hid (hst6.out.next (w2 := w6.drewN j) (below_drewN (Below.refl _ _) j))
              have htx7 : Hid ((w6.drewN j).heap[w5.heap.size]? = some (.cells cx 24 (0, 0))) := htx6.out
              clear hint hfull5 hfull6 hst6 hst5 hb6 hnew5 htx6
              generalize w6.drewN j = w7 at *
              clear w6
              go_wp2_with fail
              refine wp_load_row 24 (.tmp 14) rfl w5.heap.size rfl 24 cx (0, 0) _ htx7.out Try.underlying24 rfl hin2.out ?_
              rename_i hK
              refine hK _ _ ?_
              clear hK
              have hby := Lib.hid (bytes_any (entriesOf l) hel (entries_u64 hl) w7)
              rw [hcx'.out, bytesOf_ints, bytes_entries hl hln] at hby
              go_wp2_with fail
              refine hby.out.mono ?_
              rintro en w8 ⟨v8, rfl, hown8, hb8⟩
              have hst8 := Lib.hid (hst7.out.next hb8)
              have hsame8 := Lib.hid (same_any v8 (.slice A 4096 c) 4096 4096 l l w8 (RdC.of_own hown8).weak (hv0.out.below hst8.out.below))
              rw [decide_eq_true rfl] at hsame8
              clear hown8 hb8 hby hst7 htx7
              go_wp2_with fail
              refine hsame8.out.mono ?_
              rintro en w9 ⟨rfl, j2, rfl⟩
              have hap := Lib.hid (hst8.out.next (w2 := w8.drewN j2) (below_drewN (Below.refl _ _) j2)).apart_call
              clear hst8 hsame8
              generalize w8.drewN j2 = w9 at *
              go_wp2_with fail
              refine hap.out.mono ?_
              rintro en w10 ⟨rfl, hb10'⟩
              have hb10 := Lib.hid hb10'
              clear hb10'
              go_wp2
              go_returns
              exact ⟨rfl, hb10.out⟩
            · have e1 : readTab n l = .agg Z := by unfold readTab; rw [if_neg hn4]; exact hZv.out
              have e2 : (n == 4096) = false := by simp [hn4]
              rw [e1, e2] at hread2
              have hnI2 : ((n : Int) == 4096) = false := by simp; omega
              have hin2 : Hid ((Try.prog.info? 24).map (·.size) = some Z.size) := by rw [hZs.out]; show (Try.prog.info? 24).map (·.size) = some 512; kernel_rfl
              have hone2 : Hid (Z.all (·.oneCell') = true) := by
                rw [hZl.out]
                show _ = _
                simp [Value.oneCell']
              have hequalZ := fun w => tab_equal (List.replicate 512 0) (List.replicate 512 0) (by simp) (by simp) w
              rw [decide_eq_true rfl, ← hZl.out] at hequalZ
              clear e1 e2 hpre hequal
              go_wp2_with fail
              refine hread2.out.mono ?_
              rintro en w5 ⟨rfl, hb5'⟩
              have hst5 := Lib.hid (hst4.out.next hb5')
              have hfull5 := Lib.hid (hfull.out.below hb5')
              clear hb5' hread2 hst4 hfull
              have hnew5 := Lib.hid (heap_alloc_new w5 (.cells Z 24))
              have hb6 := Lib.hid (below_setRow ((Below.refl w5.heap.size w5).alloc (Nat.le_refl _) (.cells Z 24)) (Nat.le_refl w5.heap.size) Z)
              have hst6 := Lib.hid (hst5.out.next hb6.out)
              have hfull6 := Lib.hid (hfull5.out.below hb6.out)
              have htx6 : Hid (((w5.alloc (.cells Z 24)).setRow w5.heap.size Z).heap[w5.heap.size]? = some (.cells Z 24 (0, 0))) := setRow_heap _ _ _ _ _ _ hnew5.out
              have hint := Lib.hid (intact_any _ _ n (n + 80) _ l 165 (by omega) _ hfull6.out (hv0.out.below hst6.out.below))
              rw [decide_eq_true rfl] at hint
              go_wp2_with (refine wpList_store_row rfl 24 (.tmp 14) (.tmp 73) rfl w5.heap.size Z rfl rfl 24 Z hnew5.out hin2.out rfl hone2.out ?_)
              generalize (w5.alloc (.cells Z 24)).setRow w5.heap.size Z = w6 at *
              refine wp_load_row 24 (.tmp 14) rfl w5.heap.size rfl 24 Z (0, 0) _ htx6.out Try.underlying24 rfl hin2.out ?_
              rename_i hK
              refine hK _ _ ?_
              clear hK
              go_wp2_with fail
              refine hint.out.mono ?_
              rintro en w7 ⟨rfl, j, rfl⟩
              have hap := Lib.hid (hst6.out.next (w2 := w6.drewN j) (below_drewN (Below.refl _ _) j)).apart_call
              clear hint hfull5 hfull6 hst6 hst5 hb6 hnew5 htx6
              generalize w6.drewN j = w7 at *
              clear w6
              go_wp2_with fail
              refine hap.out.mono ?_
              rintro en w10 ⟨rfl, hb10'⟩
              have hb10 := Lib.hid hb10'
              clear hb10'
              go_wp2
              go_returns
              exact ⟨rfl, hb10.out⟩
end Go.Proofs.Ytaogndianciogaa.Mm
