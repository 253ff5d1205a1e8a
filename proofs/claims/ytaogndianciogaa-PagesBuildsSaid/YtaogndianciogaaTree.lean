/- bulkheadlaw12.tree. -/
import Derived.Test.YtaogndianciogaaTreeP
namespace Go.Proofs.Ytaogndianciogaa.Mm
open Go.RowKit
set_option linter.unusedVariables false
set_option linter.unusedSimpArgs false
theorem entryB_ent (e lv : Int) : ∃ f t b r x no, entryB e lv = (⟨f, t, b, r, x⟩, no) := ⟨_, _, _, _, _, _, rfl⟩
theorem rootT_skip {base : Int} {F : List Int} {m c j n : Nat} {E : Ent} {no : Int} (hE : entryB (tbl F 0 j) 0 = (E, no)) (h : no = 41 ∧ tbl F 0 j = 0) : rootT base F m (c + 1) j n = rootT base F m c (j + 1) n := by
  rw [rootT, hE, if_pos h]
theorem rootT_bad {base : Int} {F : List Int} {m c j n : Nat} {E : Ent} {no : Int} (hE : entryB (tbl F 0 j) 0 = (E, no)) (h : ¬ (no = 41 ∧ tbl F 0 j = 0)) (h2 : no ≠ 0 ∨ E.frame ≠ (base + n * 4096) % 18446744073709551616 ∨ m ≤ n) : rootT base F m (c + 1) j n = false := by
  rw [rootT, hE, if_neg h, if_pos h2]
def rootE (base : Int) (F : List Int) (m c j : Nat) : Option Nat → Bool
  | none => false
  | some r => rootT base F m c j r
theorem rootT_down {base : Int} {F : List Int} {m c j n : Nat} {E : Ent} {no : Int} (hE : entryB (tbl F 0 j) 0 = (E, no)) (h : ¬ (no = 41 ∧ tbl F 0 j = 0)) (h2 : ¬ (no ≠ 0 ∨ E.frame ≠ (base + n * 4096) % 18446744073709551616 ∨ m ≤ n)) :
    rootT base F m (c + 1) j n = rootE base F m c (j + 1) (midT base F m n 512 0 (n + 1)) := by
  rw [rootT, hE, if_neg h, if_neg h2]
  cases midT base F m n 512 0 (n + 1) <;> rfl
theorem bigW_iff {F : List Int} {t k : Nat} {E : Ent} {no : Int} (hE : entryB (tbl F t k) 1 = (E, no)) : bigW (tbl F t k) ↔ (no = 0 ∧ E.big = true) := by
  unfold bigW; rw [hE]
theorem midT_skip {base : Int} {F : List Int} {m t c k n : Nat} {E : Ent} {no : Int} (hE : entryB (tbl F t k) 1 = (E, no)) (h : (no = 41 ∧ tbl F t k = 0) ∨ (no = 0 ∧ E.big = true)) : midT base F m t (c + 1) k n = midT base F m t c (k + 1) n := by
  rw [midT, hE, if_pos (h.imp id (bigW_iff hE).2)]
theorem midT_bad {base : Int} {F : List Int} {m t c k n : Nat} {E : Ent} {no : Int} (hE : entryB (tbl F t k) 1 = (E, no)) (h : ¬ ((no = 41 ∧ tbl F t k = 0) ∨ (no = 0 ∧ E.big = true))) (h2 : no ≠ 0 ∨ E.frame ≠ (base + n * 4096) % 18446744073709551616 ∨ m ≤ n) : midT base F m t (c + 1) k n = none := by
  rw [midT, hE, if_neg (fun k => h (k.imp id (bigW_iff hE).1)), if_pos h2]
theorem midT_down {base : Int} {F : List Int} {m t c k n : Nat} {E : Ent} {no : Int} (hE : entryB (tbl F t k) 1 = (E, no)) (h : ¬ ((no = 41 ∧ tbl F t k = 0) ∨ (no = 0 ∧ E.big = true))) (h2 : ¬ (no ≠ 0 ∨ E.frame ≠ (base + n * 4096) % 18446744073709551616 ∨ m ≤ n)) :
    midT base F m t (c + 1) k n = midT base F m t c (k + 1) (n + 1) := by
  rw [midT, hE, if_neg (fun k => h (k.imp id (bigW_iff hE).1)), if_neg h2]
set_option maxHeartbeats 8000000 in
set_option maxRecDepth 100000 in
theorem tree_any (va : Value) (m : Nat) (F : List Int) (base : Int) (hF : F.length = m * 512) (hu : ∀ x ∈ F, 0 ≤ x ∧ x < 18446744073709551616) (hm1 : 1 ≤ m) (hm2 : m ≤ 100000) (hb0 : 0 ≤ base) (hb1 : base < 4294967296) (w : World) (hv : RdC w 24 512 va m (u64V F)) :
    Calls Try.prog 29 #[va, .int .u64 base] w (fun e w' => e = .returned (.bool (rootT base F m 512 0 1)) ∧ Below w.heap.size w w') := by
  have hcell : Hid (∃ g off c, va = .slice (some ⟨g, off, none⟩) m c ∧ m ≤ c ∧ g < w.heap.size ∧ ∀ t k, t < m → k < 512 → w.cell? ⟨g, off + (t * 512 + k), none⟩ = some (.int .u64 (tbl F t k))) := by
    obtain ⟨_, A, c, rfl, hc, _, hr⟩ := hv
    obtain ⟨g, off, cs, rfl, hg, hx⟩ := hr (by omega)
    refine ⟨g, off, c, rfl, hc, lt_of_block hg, fun t k ht hk => (cell_of_row w g _ cs _ _ hg).trans (hx _ _ ?_)⟩
    have hlt : t * 512 + k < F.length := by omega
    unfold tbl u64V
    simp [List.getD_eq_getElem?_getD, List.getElem?_eq_getElem hlt]
  have hrange : Hid (∀ t k, 0 ≤ tbl F t k ∧ tbl F t k < 18446744073709551616) := by
    intro t k
    unfold tbl
    rw [List.getD_eq_getElem?_getD]
    cases h : F[t * 512 + k]? with
    | none => exact ⟨by decide, by decide⟩
    | some x => exact hu x (List.mem_of_getElem? h)
  clear hv hu
  obtain ⟨g, off, c, rfl, hmc, hg, hcl⟩ := hcell.out
  clear hcell
  have hcl' := Lib.hid hcl
  clear hcl
  go_enter Try.func29, Try.ntmps29
  go_wp2
  go_loopg [5, 6] 513 (fun g1 v5 v6 wr => ∃ (j next : Nat), j + g1 = 513 ∧ j ≤ 512 ∧ v6 = .int .i64 j ∧ v5 = .int .i64 next ∧ 1 ≤ next ∧ next ≤ m ∧ Hid (Below w.heap.size w wr) ∧ Hid (rootT base F m (512 - j) j next = rootT base F m 512 0 1))
  case atStart => exact ⟨0, 1, by omega, by omega, rfl, rfl, by omega, hm1, Below.refl _ _, rfl⟩
  case round =>
    obtain ⟨j, next, hj, hj2, rfl, rfl, hn1, hn2, hbel, hR⟩ := hrel
    by_cases hlt : j < 512
    · obtain ⟨f, t, b, r, x, no, hE⟩ := entryB_ent (tbl F 0 j) 0
      have hr0 := hrange.out 0 j
      have hcall := Lib.hid (fun w => entry_calls (tbl F 0 j) 0 hr0.1 hr0.2 w)
      have hc0 : wr.cell? ⟨g, off + j, none⟩ = some (.int .u64 (tbl F 0 j)) := by
        have := (hbel.out.cell (p := ⟨g, off + (0 * 512 + j), none⟩) hg).trans (hcl'.out 0 j (by omega) hlt)
        simpa using this
      have hcj : 512 - j = (512 - (j + 1)) + 1 := by omega
      have hskip := Lib.hid (rootT_skip (base := base) (F := F) (m := m) (c := 512 - (j + 1)) (n := next) hE)
      have hbad := Lib.hid (rootT_bad (base := base) (F := F) (m := m) (c := 512 - (j + 1)) (n := next) hE)
      have hdown := Lib.hid (rootT_down (base := base) (F := F) (m := m) (c := 512 - (j + 1)) (n := next) hE)
      rw [hcj] at hR
      rw [hE] at hcall
      have hcall' : Hid (∀ w, Calls Try.prog 49 #[.int .u64 (tbl F 0 j), .int .i64 0] w fun en w' => en = .returned (.tuple #[.agg #[.int .u64 f, .bool t, .bool b, .bool r, .bool x], .int .i64 no]) ∧ Below w.heap.size w w') := hcall.out
      have hmod : (base + (next : Int) * 4096) % 18446744073709551616 = base + next * 4096 := Int.emod_eq_of_lt (by omega) (by omega)
      rw [hmod] at hbad hdown
      clear hcall hE hcj hmod hr0
      generalize tbl F 0 j = e0 at *
      have hltI : (j : Int) < 512 := by omega
      have hgw : g < wr.heap.size := Nat.lt_of_lt_of_le hg hbel.out.size
      go_wp2_with fail
      refine (hcall'.out _).mono ?_
      rintro en w1 ⟨rfl, hb1'⟩
      have hbel1 : Hid (Below w.heap.size w w1) := hbel.out.trans (hb1'.mono hbel.out.size)
      have hbelA : Hid (∀ o, Below w.heap.size w (w1.alloc o)) := fun o => hbel1.out.alloc hbel1.out.size o
      have hc1 : w1.cell? ⟨g, off + j, none⟩ = some (.int .u64 e0) := (hb1'.cell (p := ⟨g, off + j, none⟩) hgw).trans hc0
      have hg1 : g < w1.heap.size := Nat.lt_of_lt_of_le hgw hb1'.size
      clear hb1' hc0 hbel
      by_cases hz : no = 41 ∧ e0 = 0
      · obtain ⟨rfl, rfl⟩ := hz
        have hR' : Hid (rootT base F m (512 - (j + 1)) (j + 1) next = rootT base F m 512 0 1) := by show _ = _; rw [← hR.out, hskip.out ⟨rfl, rfl⟩]
        clear hskip hbad hdown
        go_wp2
        go_roundg (512 - j)
        case rel => exact ⟨j + 1, next, by omega, by omega, by simp, rfl, hn1, hn2, hbelA.out _, hR'⟩
        case measure => omega
      · by_cases hbadc : no ≠ 0 ∨ f ≠ base + next * 4096 ∨ m ≤ next
        · have hres : Hid (rootT base F m 512 0 1 = false) := by show _ = _; rw [← hR.out, hbad.out hz hbadc]
          clear hskip hbad hdown hR
          have hz2 : no ≠ 41 ∨ (no = 41 ∧ e0 ≠ 0) := by
            by_cases h : no = 41
            · exact .inr ⟨h, fun h2 => hz ⟨h, h2⟩⟩
            · exact .inl h
          have hb3 : no ≠ 0 ∨ (no = 0 ∧ f ≠ base + next * 4096) ∨ (no = 0 ∧ f = base + next * 4096 ∧ m ≤ next) := by
            by_cases h : no = 0
            · by_cases h2 : f = base + next * 4096
              · exact .inr (.inr ⟨h, h2, (hbadc.resolve_left (fun k => k h)).resolve_left (fun k => k h2)⟩)
              · exact .inr (.inl ⟨h, h2⟩)
            · exact .inl h
          clear hz hbadc
          rcases hb3 with h1 | ⟨rfl, h2⟩ | ⟨rfl, rfl, h3⟩
          · have h1' : (no != 0) = true := by simpa using h1
            rcases hz2 with h4 | ⟨rfl, h5⟩
            · have h4' : (no == 41) = false := by simpa using h4
              clear h1 h4
              go_wp2
              go_returns
              exact ⟨by rw [hres.out]; rfl, hbelA.out _⟩
            · have h5' : (e0 == 0) = false := by simpa using h5
              clear h1 h5
              go_wp2
              go_returns
              exact ⟨by rw [hres.out]; rfl, hbelA.out _⟩
          · have h2' : (f != base + (next : Int) * 4096) = true := by simpa using h2
            clear hz2 h2
            go_wp2
            go_returns
            exact ⟨by rw [hres.out]; rfl, hbelA.out _⟩
          · have h3' : (m : Int) ≤ (next : Int) := by omega
            clear hz2 h3
            go_wp2
            go_returns
            exact ⟨by rw [hres.out]; rfl, hbelA.out _⟩
        · have hno : no = 0 := Decidable.not_not.1 (fun h => hbadc (.inl h))
          have hfr : f = base + next * 4096 := Decidable.not_not.1 (fun h => hbadc (.inr (.inl h)))
          have hnm : ¬ m ≤ next := fun h => hbadc (.inr (.inr h))
          have hnmI : (next : Int) < (m : Int) := by omega
          have hR2 : Hid (rootE base F m (512 - (j + 1)) (j + 1) (midT base F m next 512 0 (next + 1)) = rootT base F m 512 0 1) := by
            show _ = _
            rw [← hR.out, hdown.out hz hbadc]
          clear hskip hbad hdown hR hz hbadc
          subst hno hfr
          have hnx : ((next + 1 : Nat) : Int) = (next : Int) + 1 := by omega
          go_wp2
          go_loopg [5, 10] 513 (fun g2 v5 v10 wq => ∃ (k n2 : Nat), k + g2 = 513 ∧ k ≤ 512 ∧ v10 = .int .i64 k ∧ v5 = .int .i64 n2 ∧ 1 ≤ n2 ∧ n2 ≤ m ∧ Hid (Below w.heap.size w wq) ∧ Hid (midT base F m next (512 - k) k n2 = midT base F m next 512 0 (next + 1)))
          case atStart => exact ⟨0, next + 1, by omega, by omega, rfl, by rw [hnx], by omega, by omega, hbelA.out _, rfl⟩
          case round =>
            clear hbel1 hbelA hc1 hg1 hnx hcall'
            obtain ⟨k, n2, hk, hk2, rfl, rfl, hn21, hn22, hbel, hRm⟩ := hrel
            by_cases hltk : k < 512
            · obtain ⟨f, t, b, r, x, no, hE⟩ := entryB_ent (tbl F next k) 1
              have hr0 := hrange.out next k
              have hcall := Lib.hid (fun w => entry_calls (tbl F next k) 1 hr0.1 hr0.2 w)
              have hc0 : wr.cell? ⟨g, off + (next * 512 + k), none⟩ = some (.int .u64 (tbl F next k)) :=
                (hbel.out.cell (p := ⟨g, off + (next * 512 + k), none⟩) hg).trans (hcl'.out next k (by omega) hltk)
              have hcj : 512 - k = (512 - (k + 1)) + 1 := by omega
              have hskip := Lib.hid (midT_skip (base := base) (F := F) (m := m) (c := 512 - (k + 1)) (n := n2) hE)
              have hbad := Lib.hid (midT_bad (base := base) (F := F) (m := m) (c := 512 - (k + 1)) (n := n2) hE)
              have hdown := Lib.hid (midT_down (base := base) (F := F) (m := m) (c := 512 - (k + 1)) (n := n2) hE)
              rw [hcj] at hRm
              rw [hE] at hcall
              have hcall' : Hid (∀ w, Calls Try.prog 49 #[.int .u64 (tbl F next k), .int .i64 1] w fun en w' => en = .returned (.tuple #[.agg #[.int .u64 f, .bool t, .bool b, .bool r, .bool x], .int .i64 no]) ∧ Below w.heap.size w w') := hcall.out
              have hmod : (base + (n2 : Int) * 4096) % 18446744073709551616 = base + n2 * 4096 := Int.emod_eq_of_lt (by omega) (by omega)
              rw [hmod] at hbad hdown
              have hadd : off + (next * 512 + k) = off + next * 512 + k := by omega
              rw [hadd] at hc0
              clear hcall hE hcj hmod hr0 hadd
              generalize tbl F next k = e1 at *
              have hltI2 : (k : Int) < 512 := by omega
              have hgw2 : g < wr.heap.size := Nat.lt_of_lt_of_le hg hbel.out.size
              go_wp2_with fail
              refine (hcall'.out _).mono ?_
              rintro en w1 ⟨rfl, hb1'⟩
              have hbel1 : Hid (Below w.heap.size w w1) := hbel.out.trans (hb1'.mono hbel.out.size)
              have hbelA : Hid (∀ o, Below w.heap.size w (w1.alloc o)) := fun o => hbel1.out.alloc hbel1.out.size o
              have hc1 : w1.cell? ⟨g, off + next * 512 + k, none⟩ = some (.int .u64 e1) := (hb1'.cell (p := ⟨g, off + next * 512 + k, none⟩) hgw2).trans hc0
              have hg1 : g < w1.heap.size := Nat.lt_of_lt_of_le hgw2 hb1'.size
              clear hb1' hc0 hbel
              by_cases hz : (no = 41 ∧ e1 = 0) ∨ (no = 0 ∧ b = true)
              · have hR' : Hid (midT base F m next (512 - (k + 1)) (k + 1) n2 = midT base F m next 512 0 (next + 1)) := by show _ = _; rw [← hRm.out, hskip.out hz]
                clear hskip hbad hdown
                rcases hz with ⟨rfl, rfl⟩ | ⟨rfl, rfl⟩
                all_goals
                  go_wp2
                  go_roundg (512 - k)
                  case rel => exact ⟨k + 1, n2, by omega, by omega, by simp, rfl, hn21, hn22, hbelA.out _, hR'⟩
                  case measure => omega
              · by_cases hbadc : no ≠ 0 ∨ f ≠ base + n2 * 4096 ∨ m ≤ n2
                · have hres : Hid (rootT base F m 512 0 1 = false) := by show _ = _; rw [← hR2.out, ← hRm.out, hbad.out hz hbadc]; rfl
                  clear hskip hbad hdown hRm hR2
                  have hz2 : (no ≠ 41 ∧ no ≠ 0) ∨ (no = 41 ∧ e1 ≠ 0) ∨ (no = 0 ∧ b = false) := by
                    by_cases h : no = 41
                    · exact .inr (.inl ⟨h, fun h2 => hz (.inl ⟨h, h2⟩)⟩)
                    · by_cases h0 : no = 0
                      · exact .inr (.inr ⟨h0, by cases hb : b <;> first | rfl | exact absurd (.inr ⟨h0, hb⟩) hz⟩)
                      · exact .inl ⟨h, h0⟩
                  have hb3 : no ≠ 0 ∨ (no = 0 ∧ f ≠ base + n2 * 4096) ∨ (no = 0 ∧ f = base + n2 * 4096 ∧ m ≤ n2) := by
                    by_cases h : no = 0
                    · by_cases h2 : f = base + n2 * 4096
                      · exact .inr (.inr ⟨h, h2, (hbadc.resolve_left (fun k => k h)).resolve_left (fun k => k h2)⟩)
                      · exact .inr (.inl ⟨h, h2⟩)
                    · exact .inl h
                  clear hz hbadc
                  rcases hz2 with ⟨h4, h5⟩ | ⟨rfl, h5⟩ | ⟨rfl, rfl⟩
                  · have h4' : (no == 41) = false := by simpa using h4
                    have h5' : (no == 0) = false := by simpa using h5
                    have h1' : (no != 0) = true := by simpa using h5
                    clear h4 h5 hb3
                    go_wp2
                    go_returns
                    exact ⟨by rw [hres.out]; rfl, hbelA.out _⟩
                  · have h5' : (e1 == 0) = false := by simpa using h5
                    clear h5 hb3
                    go_wp2
                    go_returns
                    exact ⟨by rw [hres.out]; rfl, hbelA.out _⟩
                  · rcases hb3 with h1 | ⟨_, h2⟩ | ⟨_, rfl, h3⟩
                    · exact absurd rfl h1
                    · have h2' : (f != base + (n2 : Int) * 4096) = true := by simpa using h2
                      clear h2
                      go_wp2
                      go_returns
                      exact ⟨by rw [hres.out]; rfl, hbelA.out _⟩
                    · have h3' : (m : Int) ≤ (n2 : Int) := by omega
                      clear h3
                      go_wp2
                      go_returns
                      exact ⟨by rw [hres.out]; rfl, hbelA.out _⟩
                · have hno : no = 0 := Decidable.not_not.1 (fun h => hbadc (.inl h))
                  have hfr : f = base + n2 * 4096 := Decidable.not_not.1 (fun h => hbadc (.inr (.inl h)))
                  have hnm2 : ¬ m ≤ n2 := fun h => hbadc (.inr (.inr h))
                  have hnmI2 : (n2 : Int) < (m : Int) := by omega
                  have hR3 : Hid (midT base F m next (512 - (k + 1)) (k + 1) (n2 + 1) = midT base F m next 512 0 (next + 1)) := by
                    show _ = _
                    rw [← hRm.out, hdown.out hz hbadc]
                  have hbf : b = false := by
                    cases hb : b
                    · rfl
                    · exact absurd (.inr ⟨hno, hb⟩) hz
                  clear hskip hbad hdown hRm hz hbadc
                  subst hno hfr hbf
                  go_wp2
                  go_roundg (512 - k)
                  case rel => exact ⟨k + 1, n2 + 1, by omega, by omega, by simp, by simp, by omega, by omega, hbelA.out _, hR3⟩
                  case measure => omega
            · obtain rfl : k = 512 := by omega
              have hfin : Hid (rootT base F m (512 - (j + 1)) (j + 1) n2 = rootT base F m 512 0 1) := by
                show _ = _
                rw [← hR2.out, ← hRm.out]; rfl
              go_wp2
              go_roundg (512 - j)
              case rel => exact ⟨j + 1, n2, by omega, by omega, by simp, rfl, hn21, hn22, hbel, hfin⟩
              case measure => omega
    · obtain rfl : j = 512 := by omega
      have hfin : Hid (rootT base F m 512 0 1 = decide (next = m)) := by
        show _ = _
        rw [← hR.out]; rfl
      by_cases hnm : next = m
      · have hfin2 : Hid (rootT base F m 512 0 1 = true) := by show _ = _; rw [hfin.out, decide_eq_true hnm]
        subst hnm
        go_wp2
        go_returns
        exact ⟨by rw [hfin2.out]; rfl, hbel.out⟩
      · have hfin2 : Hid (rootT base F m 512 0 1 = false) := by show _ = _; rw [hfin.out, decide_eq_false hnm]
        have hnmI : ((next : Int) == (m : Int)) = false := by simp; omega
        clear hnm
        go_wp2
        go_returns
        exact ⟨by rw [hfin2.out]; rfl, hbel.out⟩
end Go.Proofs.Ytaogndianciogaa.Mm
