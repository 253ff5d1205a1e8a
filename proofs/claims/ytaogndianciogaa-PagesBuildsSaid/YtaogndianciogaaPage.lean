/- (*pages.builder).page. -/
import Derived.Test.YtaogndianciogaaChild
namespace Go.Proofs.Ytaogndianciogaa.Mm
open Go.RowKit
set_option linter.unusedVariables false
set_option linter.unusedSimpArgs false
structure Bp where
  m : Nat
  F : List Int
  mid : Nat
  low : Nat
  virt : Int
/-- the word of a page's entry -/
def leafW (ph : Int) (x : Lf) (level : Int) : Int := (makeA ⟨ph, false, x.big, x.write, x.exec⟩ level).1
/-- the middle table is open -/
def openMid (base : Int) (s : Bp) (v : Nat) : Bp :=
  if s.mid = 0 ∨ (v : Int) / 1073741824 ≠ s.virt / 1073741824 then { s with m := s.m + 1, F := childF base s.F s.m 0 (v / 1073741824), mid := s.m, low := 0 } else s
def openLow (base : Int) (s : Bp) (v : Nat) : Bp :=
  if s.low = 0 ∨ (v : Int) / 2097152 ≠ s.virt / 2097152 then { s with m := s.m + 1, F := childF base s.F s.m s.mid (v / 2097152 % 512), low := s.m } else s
def pageP (base : Int) (s : Bp) (v : Nat) (ph : Int) (x : Lf) : Bp :=
  if x.big then { openMid base s v with F := (openMid base s v).F.set ((openMid base s v).mid * 512 + v / 2097152 % 512) (leafW ph x 1), virt := v, low := 0 }
  else { openLow base (openMid base s v) v with F := (openLow base (openMid base s v) v).F.set ((openLow base (openMid base s v) v).low * 512 + v / 4096 % 512) (leafW ph x 2), virt := v }
/-- the builder as it lies -/
def BSp (w : World) (B gb : Nat) (base : Int) (s : Bp) : Prop := ∃ va, BSt w B gb base va s.m s.F s.mid s.low s.virt
/-- nothing below B has turned, and no block of leaves anywhere -/
def Bl (B : Nat) (w w' : World) : Prop := Below B w w' ∧ ∀ (g : Nat) (cs : Array Value), w.heap[g]? = some (.cells cs 47 (0, 0)) → w'.heap[g]? = w.heap[g]?
theorem Bl.size {B : Nat} {w w' : World} (h : Bl B w w') : w.heap.size ≤ w'.heap.size := h.1.size
theorem Bl.alloc {B : Nat} {w : World} (hB : B ≤ w.heap.size) (o : Obj) : Bl B w (w.alloc o) := ⟨(Below.refl _ _).alloc hB _, fun g cs hg => Below.heap_alloc _ _ _ (lt_of_block hg)⟩
theorem Bl.thenBelow {B : Nat} {w w1 w2 : World} (h : Bl B w w1) (hb : Below w1.heap.size w1 w2) (hB : B ≤ w1.heap.size) : Bl B w w2 :=
  ⟨h.1.trans (hb.mono hB), fun g cs hg => (hb.block g (Nat.lt_of_lt_of_le (lt_of_block hg) h.size)).trans (h.2 g cs hg)⟩
theorem Bl.setCell {B : Nat} {w w1 : World} {g : Nat} {cs : Array Value} {T : TypeId} (h : Bl B w w1) (hB : B ≤ g) (hg : w1.heap[g]? = some (.cells cs T (0, 0))) (hT : T ≠ 47) (i : Nat) (u : Value) : Bl B w (w1.setCell ⟨g, i, none⟩ u) :=
  ⟨h.1.setCell (by simpa using hB) _, fun k ds hk => (setCell_far (fun e => by
    subst e
    have := (h.2 k ds hk).trans hk
    rw [hg] at this; cases this; exact hT rfl) _).trans (h.2 k ds hk)⟩
theorem own_block {w : World} {B : Nat} {T : TypeId} {g n cap sz : Nat} {xs : List Value} (h : w.ownsRow B T sz (.slice (some ⟨g, 0, none⟩) n cap) n xs) : ∃ cur, w.heap[g]? = some (.cells cur T (0, 0)) := by
  rcases h.2 with ⟨e, _⟩ | ⟨g', cap', cur, e, _, hg, _⟩
  · cases e
  · cases e; exact ⟨cur, hg⟩
theorem Bl.setOwn {B : Nat} {w w1 : World} {g n cap sz : Nat} {xs : List Value} (h : Bl B w w1) (hB : B ≤ g) (ho : w1.ownsRow B 24 sz (.slice (some ⟨g, 0, none⟩) n cap) n xs) (i : Nat) (u : Value) : Bl B w (w1.setCell ⟨g, i, none⟩ u) := by
  obtain ⟨cur, hg⟩ := own_block ho
  exact h.setCell hB hg (by decide) i u
theorem Bl.thenFr {B gb : Nat} {base : Int} {va : Value} {m : Nat} {F : List Int} {mid low : Nat} {virt : Int} {w w1 w2 : World} (h : Bl B w w1) (hs : BSt w1 B gb base va m F mid low virt) (hf : Fr w1.heap.size (fun k => k = gb ∨ va.ownBlock = some k) w1 w2) (hB : B ≤ w1.heap.size) : Bl B w w2 := by
  have hle := hs.le
  refine ⟨h.1.trans ((hf.mono hB (fun _ _ h => h)).below (fun k hk h => h.elim (fun h => by omega) (fun h => by have := (hs.own.lt k h).1; omega))), fun g cs hg => ?_⟩
  have hg1 := (h.2 g cs hg).trans hg
  refine (hf.block g (lt_of_block hg1) (fun hS => ?_)).trans (h.2 g cs hg)
  rcases hS with rfl | hS
  · rw [hs.cell] at hg1; cases hg1
  · exact own_ne hs.own hg1 (by decide) hS.symm
section
variable {w : World} {B gb : Nat} {base : Int} {va : Value} {m : Nat} {F : List Int} {mid low : Nat} {virt : Int}
theorem BSt.setMid (h : BSt w B gb base va m F mid low virt) (k : Nat) : BSt (w.setCell ⟨gb, 2, none⟩ (.int .i64 k)) B gb base va m F k low virt :=
  ⟨h.le, setCell_block h.cell _, own_far h.own h.cell (by decide) _⟩
theorem BSt.setLow (h : BSt w B gb base va m F mid low virt) (k : Nat) : BSt (w.setCell ⟨gb, 3, none⟩ (.int .i64 k)) B gb base va m F mid k virt :=
  ⟨h.le, setCell_block h.cell _, own_far h.own h.cell (by decide) _⟩
theorem BSt.setVirt (h : BSt w B gb base va m F mid low virt) (k : Int) : BSt (w.setCell ⟨gb, 4, none⟩ (.int .u64 k)) B gb base va m F mid low k :=
  ⟨h.le, setCell_block h.cell _, own_far h.own h.cell (by decide) _⟩
theorem BSt.below {w' : World} (h : BSt w B gb base va m F mid low virt) (hb : Below w.heap.size w w') : BSt w' B gb base va m F mid low virt :=
  ⟨h.le, (hb.block _ (lt_of_block h.cell)).trans h.cell, own_below h.own hb⟩
end
set_option maxHeartbeats 8000000 in
set_option maxRecDepth 100000 in
theorem page_any (B gb : Nat) (base : Int) (s : Bp) (v : Nat) (ph : Int) (x : Lf) (w : World) (hs : BSp w B gb base s) (hmid : s.mid < s.m) (hlow : s.low < s.m) (hm : s.m ≤ 90000) (hs0 : 0 ≤ s.virt) (hs1 : s.virt < 18446744073709551616)
    (hv : v < 549755813888) (hp0 : 0 ≤ ph) (hp1 : ph < 18446744073709551616) (hb0 : 0 ≤ base) (hb1 : base < 4294967296) (hB : B ≤ w.heap.size) :
    Calls Try.prog 54 #[.pointer (some ⟨gb, 0, none⟩), .int .u64 v, .int .u64 ph, x.val] w
      (fun en w' => en = .returned (.tuple #[]) ∧ BSp w' B gb base (pageP base s v ph x) ∧ Bl B w w') := by
  obtain ⟨va, hst⟩ := hs
  have hgl := hst.le
  have hlt := lt_of_block hst.cell
  have hcx : Hid ((w.alloc (.cells #[.int .u64 x.virt, .int .u64 x.phys, .int .i64 x.pages, .bool x.big, .bool x.write, .bool x.exec] 47)).heap[w.heap.size]? = some (.cells #[.int .u64 x.virt, .int .u64 x.phys, .int .i64 x.pages, .bool x.big, .bool x.write, .bool x.exec] 47 (0, 0))) := heap_alloc_new _ _
  have hst1 : Hid (BSt (w.alloc (.cells #[.int .u64 x.virt, .int .u64 x.phys, .int .i64 x.pages, .bool x.big, .bool x.write, .bool x.exec] 47)) B gb base va s.m s.F s.mid s.low s.virt) :=
    ⟨hgl, (Below.heap_alloc _ _ _ hlt).trans hst.cell, own_below hst.own ((Below.refl _ _).alloc (Nat.le_refl _) _)⟩
  have hbel1 : Hid (Bl B w (w.alloc (.cells #[.int .u64 x.virt, .int .u64 x.phys, .int .i64 x.pages, .bool x.big, .bool x.write, .bool x.exec] 47))) := Bl.alloc hB _
  have hsz : w.heap.size < (w.alloc (.cells #[.int .u64 x.virt, .int .u64 x.phys, .int .i64 x.pages, .bool x.big, .bool x.write, .bool x.exec] 47)).heap.size := by simp
  obtain ⟨m, F, mid, low, vt⟩ := s
  obtain ⟨xv, xp, xn, xb, xw, xe⟩ := x
  dsimp only at *
  unfold Lf.val
  dsimp only
  clear hst
  go_enter Try.func54, Try.ntmps54
  go_upto_region 1 with (fail)
  generalize w.alloc (.cells #[.int .u64 xv, .int .u64 xp, .int .i64 xn, .bool xb, .bool xw, .bool xe] 47) = w1 at *
  have d2 : w1.cell? ⟨gb, 2, none⟩ = some (.int .i64 mid) := cell_of_row w1 gb 2 _ _ _ hst1.out.cell
  have d4 : w1.cell? ⟨gb, 4, none⟩ = some (.int .u64 vt) := cell_of_row w1 gb 4 _ _ _ hst1.out.cell
  have h3 : (mid = 0 ∨ (¬ mid = 0 ∧ ¬ (v : Int) / 1073741824 = vt / 1073741824)) ∨ (¬ mid = 0 ∧ (v : Int) / 1073741824 = vt / 1073741824) := by omega
  have hv30 : ((v / 1073741824 : Nat) : Int) = (v : Int) / 1073741824 := by simp
  have hv21 : ((v / 2097152 % 512 : Nat) : Int) = (v : Int) / 2097152 % 512 := by simp
  have hv12 : ((v / 4096 % 512 : Nat) : Int) = (v : Int) / 4096 % 512 := by simp
  have hchild := Lib.hid (child_any B gb base va m F mid low vt 0 (v / 1073741824) w1 hst1.out (by omega) (by omega) (by omega) hb0 hb1 (Nat.le_trans hB (Nat.le_of_lt hsz)))
  rw [hv30] at hchild
  have hcxne : Hid (w.heap.size ≠ gb ∧ va.ownBlock ≠ some w.heap.size) := by
    refine ⟨by omega, fun e => ?_⟩
    exact own_ne hst1.out.own hcx.out (by decide) e.symm
  rcases h3 with (h1 | ⟨h1, h2⟩) | ⟨h1, h2⟩
  · have hom : Hid (openMid base ⟨m, F, mid, low, vt⟩ v = ⟨m + 1, childF base F m 0 (v / 1073741824), m, 0, vt⟩) := by
      unfold openMid; rw [if_pos (.inl h1)]; rfl
    go_wp2_with fail
    refine hchild.out.mono ?_
    rintro en w2 ⟨rfl, va2, hstA, hfrA⟩
    have hlt2 := lt_of_block hstA.cell
    have k2 : w2.cell? ⟨gb, 2, none⟩ = some (.int .i64 mid) := cell_of_row w2 gb 2 _ _ _ hstA.cell
    have k3 : w2.cell? ⟨gb, 3, none⟩ = some (.int .i64 low) := cell_of_row w2 gb 3 _ _ _ hstA.cell
    have j2 : w2.frozen? ⟨gb, 2, none⟩ = false := frozen_of_block hstA.cell
    have j3 : w2.frozen? ⟨gb, 3, none⟩ = false := frozen_of_block hstA.cell
    have hst2 : Hid (BSt ((w2.setCell ⟨gb, 2, none⟩ (.int .i64 m)).setCell ⟨gb, 3, none⟩ (.int .i64 (0 : Nat))) B gb base va2 (m + 1) (childF base F m 0 (v / 1073741824)) m 0 vt) := (hstA.setMid m).setLow 0
    have hcx2 : Hid (((w2.setCell ⟨gb, 2, none⟩ (.int .i64 m)).setCell ⟨gb, 3, none⟩ (.int .i64 (0 : Nat))).heap[w.heap.size]? = some (.cells #[.int .u64 xv, .int .u64 xp, .int .i64 xn, .bool xb, .bool xw, .bool xe] 47 (0, 0))) :=
      (setCell_far hcxne.out.1 _).trans ((setCell_far hcxne.out.1 _).trans ((hfrA.block _ hsz (fun h => h.elim hcxne.out.1 hcxne.out.2)).trans hcx.out))
    have hbel2 : Hid (Bl B w ((w2.setCell ⟨gb, 2, none⟩ (.int .i64 m)).setCell ⟨gb, 3, none⟩ (.int .i64 (0 : Nat)))) :=
      ((hbel1.out.thenFr hst1.out hfrA (Nat.le_trans hB (Nat.le_of_lt hsz))).setCell hgl hstA.cell (by decide) 2 _).setCell hgl (hstA.setMid m).cell (by decide) 3 _
    have hsz2 : w.heap.size < ((w2.setCell ⟨gb, 2, none⟩ (.int .i64 m)).setCell ⟨gb, 3, none⟩ (.int .i64 (0 : Nat))).heap.size := lt_of_block hcx2.out
    go_upto_region 3 with (fail)
    clear k2 k3 j2 j3 hstA hfrA hlt2
    have e0 : ((0 : Nat) : Int) = 0 := rfl
    rw [e0] at hst2 hcx2 hbel2 hsz2
    generalize (w2.setCell ⟨gb, 2, none⟩ (.int .i64 m)).setCell ⟨gb, 3, none⟩ (.int .i64 0) = w3 at *
    obtain ⟨m2, F2, mid2, low2, hq⟩ : ∃ m2 F2 mid2 low2, Hid (BSt w3 B gb base va2 m2 F2 mid2 low2 vt ∧ openMid base ⟨m, F, mid, low, vt⟩ v = ⟨m2, F2, mid2, low2, vt⟩ ∧ mid2 < m2 ∧ low2 < m2 ∧ m2 ≤ 90001) := ⟨m + 1, _, m, 0, hst2.out, hom.out, by omega, by omega, by omega⟩
    clear hst2 hom
    obtain ⟨hst3, hom, hmid2, hlow2, hm2⟩ := hq.out
    clear hq
    have hst3' := Lib.hid hst3
    obtain ⟨g, cap, rfl, hBg, hltg⟩ := hst3.own.form (by omega)
    have hgbl := lt_of_block hst3.cell
    have e3 : w3.cell? ⟨w.heap.size, 3, none⟩ = some (.bool xb) := cell_of_row w3 _ 3 _ _ _ hcx2.out
    have e4 : w3.cell? ⟨w.heap.size, 4, none⟩ = some (.bool xw) := cell_of_row w3 _ 4 _ _ _ hcx2.out
    have e5 : w3.cell? ⟨w.heap.size, 5, none⟩ = some (.bool xe) := cell_of_row w3 _ 5 _ _ _ hcx2.out
    have hall : Hid (Below w3.heap.size w3 (w3.alloc (.cells #[.int .u64 ph, .bool false, .bool xb, .bool xw, .bool xe] 94))) := (Below.refl _ _).alloc (Nat.le_refl _) _
    have hen : Hid ((w3.alloc (.cells #[.int .u64 ph, .bool false, .bool xb, .bool xw, .bool xe] 94)).heap[w3.heap.size]? = some (.cells #[.int .u64 ph, .bool false, .bool xb, .bool xw, .bool xe] 94 (0, 0))) := heap_alloc_new _ _
    have hst4 := Lib.hid (hst3.below hall.out)
    have hcx4 : Hid ((w3.alloc (.cells #[.int .u64 ph, .bool false, .bool xb, .bool xw, .bool xe] 94)).heap[w.heap.size]? = some (.cells #[.int .u64 xv, .int .u64 xp, .int .i64 xn, .bool xb, .bool xw, .bool xe] 47 (0, 0))) := (hall.out.block _ hsz2).trans hcx2.out
    have hbel4 : Hid (Bl B w (w3.alloc (.cells #[.int .u64 ph, .bool false, .bool xb, .bool xw, .bool xe] 94))) := hbel2.out.thenBelow hall.out (Nat.le_trans hB (Nat.le_of_lt hsz2))
    clear hst3 hst3'
    cases xb with
    | true =>
      go_upto_region 5 with (fail)
      clear e3 e4 e5
      generalize w3.alloc (.cells #[.int .u64 ph, .bool false, .bool true, .bool xw, .bool xe] 94) = wE at *
      generalize w3.heap.size = ge at *
      have q1 : wE.cell? ⟨gb, 1, none⟩ = some (.slice (some ⟨g, 0, none⟩) m2 cap) := cell_of_row wE gb 1 _ _ _ hst4.out.cell
      have q2 : wE.cell? ⟨gb, 2, none⟩ = some (.int .i64 mid2) := cell_of_row wE gb 2 _ _ _ hst4.out.cell
      have r0 : wE.cell? ⟨ge, 0, none⟩ = some (.int .u64 ph) := cell_of_row wE ge 0 _ _ _ hen.out
      have r1 : wE.cell? ⟨ge, 1, none⟩ = some (.bool false) := cell_of_row wE ge 1 _ _ _ hen.out
      have r2 : wE.cell? ⟨ge, 2, none⟩ = some (.bool true) := cell_of_row wE ge 2 _ _ _ hen.out
      have r3 : wE.cell? ⟨ge, 3, none⟩ = some (.bool xw) := cell_of_row wE ge 3 _ _ _ hen.out
      have r4 : wE.cell? ⟨ge, 4, none⟩ = some (.bool xe) := cell_of_row wE ge 4 _ _ _ hen.out
      have hmidI : (mid2 : Int) < (m2 : Int) := by omega
      have hmidI0 : (0 : Int) ≤ (mid2 : Int) := by omega
      have hmk : Hid (∀ W, Calls Try.prog 60 #[.agg #[.int .u64 ph, .bool false, .bool true, .bool xw, .bool xe], .int .i64 1] W
          (fun en w' => en = .returned (.tuple #[.int .u64 (makeA ⟨ph, false, true, xw, xe⟩ 1).1, .int .i64 (makeA ⟨ph, false, true, xw, xe⟩ 1).2]) ∧ Below W.heap.size W w')) := fun W => make_any ⟨ph, false, true, xw, xe⟩ 1 hp0 hp1 W
      have hkw : Hid (leafW ph ⟨xv, xp, xn, true, xw, xe⟩ 1 = (makeA ⟨ph, false, true, xw, xe⟩ 1).1) := rfl
      generalize (makeA ⟨ph, false, true, xw, xe⟩ 1).1 = kw at *
      generalize (makeA ⟨ph, false, true, xw, xe⟩ 1).2 = no at *
      obtain ⟨k21, hk21⟩ : ∃ k21, k21 = v / 2097152 % 512 := ⟨_, rfl⟩
      have hk512 : k21 < 512 := by omega
      rw [← hk21] at hv21
      have hkI : (k21 : Int) < 512 := by omega
      have hkI0 : (0 : Int) ≤ (k21 : Int) := by omega
      have hidx : (v : Int) / 2097152 % 512 = (k21 : Int) := hv21.symm
      have hidxA : ((v : Int) / 2097152).tmod 512 = (k21 : Int) := by rw [Int.tmod_eq_emod_of_nonneg (by omega), hv21]
      have hk21' := Lib.hid hk21
      clear hv21 hk21 hv12 hv30
      have hi : mid2 * 512 + k21 < m2 * 512 := by omega
      obtain ⟨⟨u9, ct⟩, ft⟩ := own_cell hst4.out.own hi
      have hneg : gb ≠ g := fun e => own_ne hst4.out.own hst4.out.cell (by decide) (by rw [e]; rfl)
      have hnee : ge ≠ g := fun e => own_ne hst4.out.own hen.out (by decide) (by rw [e]; rfl)
      have hgE : gb < wE.heap.size := lt_of_block hst4.out.cell
      have hltE : g < wE.heap.size := (hst4.out.own.lt g rfl).2
      go_region_held3 (fun w' => w'.cell? ⟨gb, 1, none⟩ = some (.slice (some ⟨g, 0, none⟩) m2 cap) ∧ w'.cell? ⟨gb, 2, none⟩ = some (.int .i64 mid2) ∧ w'.cell? ⟨ge, 0, none⟩ = some (.int .u64 ph) ∧ w'.cell? ⟨ge, 1, none⟩ = some (.bool false) ∧ w'.cell? ⟨ge, 2, none⟩ = some (.bool true) ∧ w'.cell? ⟨ge, 3, none⟩ = some (.bool xw) ∧ w'.cell? ⟨ge, 4, none⟩ = some (.bool xe))
        (first
          | exact ⟨q1, q2, r0, r1, r2, r3, r4⟩
          | exact qq
          | exact qs _)
        (first
          | (go_at_call 60; refine (hmk.out _).mono ?_; rintro en w5 ⟨rfl, hb5'⟩
             have hb5 : Below wE.heap.size wE w5 := (Below.drew (Below.refl wE.heap.size wE)).trans hb5'
             have hgeE : ge < wE.heap.size := lt_of_block hen.out
             have qq : w5.cell? ⟨gb, 1, none⟩ = some (.slice (some ⟨g, 0, none⟩) m2 cap) ∧ w5.cell? ⟨gb, 2, none⟩ = some (.int .i64 mid2) ∧ w5.cell? ⟨ge, 0, none⟩ = some (.int .u64 ph) ∧ w5.cell? ⟨ge, 1, none⟩ = some (.bool false) ∧ w5.cell? ⟨ge, 2, none⟩ = some (.bool true) ∧ w5.cell? ⟨ge, 3, none⟩ = some (.bool xw) ∧ w5.cell? ⟨ge, 4, none⟩ = some (.bool xe) :=
               ⟨(hb5.cell hgE).trans q1, (hb5.cell hgE).trans q2, (hb5.cell hgeE).trans r0, (hb5.cell hgeE).trans r1, (hb5.cell hgeE).trans r2, (hb5.cell hgeE).trans r3, (hb5.cell hgeE).trans r4⟩
             have y2 : w5.cell? ⟨g, mid2 * 512 + k21, none⟩ = some u9 := (hb5.cell hltE).trans ct
             have y3 : w5.frozen? ⟨g, mid2 * 512 + k21, none⟩ = false := (hb5.frozen hltE).trans ft
             have qs : ∀ x, (w5.setCell ⟨g, mid2 * 512 + k21, none⟩ x).cell? ⟨gb, 1, none⟩ = some (.slice (some ⟨g, 0, none⟩) m2 cap) ∧ (w5.setCell ⟨g, mid2 * 512 + k21, none⟩ x).cell? ⟨gb, 2, none⟩ = some (.int .i64 mid2) ∧ (w5.setCell ⟨g, mid2 * 512 + k21, none⟩ x).cell? ⟨ge, 0, none⟩ = some (.int .u64 ph) ∧ (w5.setCell ⟨g, mid2 * 512 + k21, none⟩ x).cell? ⟨ge, 1, none⟩ = some (.bool false) ∧ (w5.setCell ⟨g, mid2 * 512 + k21, none⟩ x).cell? ⟨ge, 2, none⟩ = some (.bool true) ∧ (w5.setCell ⟨g, mid2 * 512 + k21, none⟩ x).cell? ⟨ge, 3, none⟩ = some (.bool xw) ∧ (w5.setCell ⟨g, mid2 * 512 + k21, none⟩ x).cell? ⟨ge, 4, none⟩ = some (.bool xe) := fun x =>
               ⟨(World.cell?_of_block (setCell_far hneg x)).trans qq.1, (World.cell?_of_block (setCell_far hneg x)).trans qq.2.1, (World.cell?_of_block (setCell_far hnee x)).trans qq.2.2.1, (World.cell?_of_block (setCell_far hnee x)).trans qq.2.2.2.1, (World.cell?_of_block (setCell_far hnee x)).trans qq.2.2.2.2.1, (World.cell?_of_block (setCell_far hnee x)).trans qq.2.2.2.2.2.1, (World.cell?_of_block (setCell_far hnee x)).trans qq.2.2.2.2.2.2⟩))
      all_goals
        have hst6 : Hid (BSt (w5.setCell ⟨g, mid2 * 512 + k21, none⟩ (.int .u64 kw)) B gb base (.slice (some ⟨g, 0, none⟩) m2 cap) m2 (F2.set (mid2 * 512 + k21) kw) mid2 low2 vt) := by
          refine ⟨hst4.out.le, (setCell_far hneg _).trans ((hb5.block gb hgE).trans hst4.out.cell), ?_⟩
          have := ownsRow_set (own_below hst4.out.own hb5) hi (.int .u64 kw)
          unfold u64V at this ⊢
          rw [List.map_set]
          exact this
        have hbel6 : Hid (Bl B w (w5.setCell ⟨g, mid2 * 512 + k21, none⟩ (.int .u64 kw))) := (hbel4.out.thenBelow hb5 (Nat.le_trans hB hbel4.out.size)).setOwn hBg (own_below hst4.out.own hb5) _ _
        clear qq qs y2 y3 q1 q2 r0 r1 r2 r3 r4 ct ft hb5 hb5'
        generalize w5.setCell ⟨g, mid2 * 512 + k21, none⟩ (.int .u64 kw) = w6 at *
        have z3 : w6.cell? ⟨gb, 3, none⟩ = some (.int .i64 low2) := cell_of_row w6 gb 3 _ _ _ hst6.out.cell
        have z4 : w6.cell? ⟨gb, 4, none⟩ = some (.int .u64 vt) := cell_of_row w6 gb 4 _ _ _ hst6.out.cell
        have f3 : w6.frozen? ⟨gb, 3, none⟩ = false := frozen_of_block hst6.out.cell
        have f4 : w6.frozen? ⟨gb, 4, none⟩ = false := frozen_of_block hst6.out.cell
        have hfin : Hid (BSp ((w6.setCell ⟨gb, 4, none⟩ (.int .u64 v)).setCell ⟨gb, 3, none⟩ (.int .i64 (0 : Nat))) B gb base (pageP base ⟨m, F, mid, low, vt⟩ v ph ⟨xv, xp, xn, true, xw, xe⟩) ∧ Bl B w ((w6.setCell ⟨gb, 4, none⟩ (.int .u64 v)).setCell ⟨gb, 3, none⟩ (.int .i64 (0 : Nat)))) := by
          refine ⟨⟨.slice (some ⟨g, 0, none⟩) m2 cap, ?_⟩, (hbel6.out.setCell hgl hst6.out.cell (by decide) 4 _).setCell hgl (hst6.out.setVirt v).cell (by decide) 3 _⟩
          have e : pageP base ⟨m, F, mid, low, vt⟩ v ph ⟨xv, xp, xn, true, xw, xe⟩ = ⟨m2, F2.set (mid2 * 512 + k21) kw, mid2, 0, v⟩ := by
            unfold pageP
            rw [if_pos rfl, hom, hkw.out, hk21'.out]
          rw [e]
          exact (hst6.out.setVirt v).setLow 0
        have e0 : ((0 : Nat) : Int) = 0 := rfl
        rw [e0] at hfin
        go_wp2
        go_returns
        exact ⟨rfl, hfin.out⟩
    | false =>
      go_upto_region 7 with (fail)
      clear e3 e4 e5
      generalize w3.alloc (.cells #[.int .u64 ph, .bool false, .bool false, .bool xw, .bool xe] 94) = wE at *
      generalize w3.heap.size = ge at *
      have d3 : wE.cell? ⟨gb, 3, none⟩ = some (.int .i64 low2) := cell_of_row wE gb 3 _ _ _ hst4.out.cell
      have d4 : wE.cell? ⟨gb, 4, none⟩ = some (.int .u64 vt) := cell_of_row wE gb 4 _ _ _ hst4.out.cell
      have d2' : wE.cell? ⟨gb, 2, none⟩ = some (.int .i64 mid2) := cell_of_row wE gb 2 _ _ _ hst4.out.cell
      have hchild2 := Lib.hid (child_any B gb base _ m2 F2 mid2 low2 vt mid2 (v / 2097152 % 512) wE hst4.out hmid2 (by omega) (by omega) hb0 hb1 (Nat.le_trans hB hbel4.out.size))
      rw [hv21] at hchild2
      have hgee : Hid (ge ≠ gb ∧ (Value.slice (some ⟨g, 0, none⟩) m2 cap).ownBlock ≠ some ge) := by
        refine ⟨?_, fun e => own_ne hst4.out.own hen.out (by decide) e.symm⟩
        rintro rfl
        have := hst4.out.cell
        rw [hen.out] at this; cases this
      have h4 : (low2 = 0 ∨ (¬ low2 = 0 ∧ ¬ (v : Int) / 2097152 = vt / 2097152)) ∨ (¬ low2 = 0 ∧ (v : Int) / 2097152 = vt / 2097152) := by omega
      rcases h4 with (h1 | ⟨h1, h2⟩) | ⟨h1, h2⟩
      · have hom2 : Hid (openLow base ⟨m2, F2, mid2, low2, vt⟩ v = ⟨m2 + 1, childF base F2 m2 mid2 (v / 2097152 % 512), mid2, m2, vt⟩) := by
          unfold openLow; rw [if_pos (.inl h1)]; rfl
        go_wp2_with fail
        refine hchild2.out.mono ?_
        rintro en w4 ⟨rfl, va3, hstA, hfrA⟩
        have k3 : w4.cell? ⟨gb, 3, none⟩ = some (.int .i64 low2) := cell_of_row w4 gb 3 _ _ _ hstA.cell
        have j3 : w4.frozen? ⟨gb, 3, none⟩ = false := frozen_of_block hstA.cell
        have hst5 : Hid (BSt (w4.setCell ⟨gb, 3, none⟩ (.int .i64 m2)) B gb base va3 (m2 + 1) (childF base F2 m2 mid2 (v / 2097152 % 512)) mid2 m2 vt) := hstA.setLow m2
        have hen5 : Hid ((w4.setCell ⟨gb, 3, none⟩ (.int .i64 m2)).heap[ge]? = some (.cells #[.int .u64 ph, .bool false, .bool false, .bool xw, .bool xe] 94 (0, 0))) :=
          (setCell_far hgee.out.1 _).trans ((hfrA.block _ (lt_of_block hen.out) (fun h => h.elim hgee.out.1 hgee.out.2)).trans hen.out)
        have hbel5 : Hid (Bl B w (w4.setCell ⟨gb, 3, none⟩ (.int .i64 m2))) :=
          (hbel4.out.thenFr hst4.out hfrA (Nat.le_trans hB hbel4.out.size)).setCell hgl hstA.cell (by decide) 3 _
        go_upto_region 9 with (fail)
        clear k3 j3 hstA hfrA d2' d3 d4 hchild2 hst4 hen hbel4 hcx4 hall hltg hBg
        generalize w4.setCell ⟨gb, 3, none⟩ (.int .i64 m2) = w5 at *
        clear hgbl
        clear wE
        rename World => wE
        have hst4 := hst5
        have hen := hen5
        have hbel4 := hbel5
        clear hst5 hen5 hbel5
        obtain ⟨m3, F3, low3, hq2⟩ : ∃ m3 F3 low3, Hid (BSt wE B gb base va3 m3 F3 mid2 low3 vt ∧ openLow base ⟨m2, F2, mid2, low2, vt⟩ v = ⟨m3, F3, mid2, low3, vt⟩ ∧ low3 < m3 ∧ m3 ≤ 90002) := ⟨m2 + 1, _, m2, hst4.out, hom2.out, by omega, by omega⟩
        clear hst4 hom2
        obtain ⟨hst4, hom2, hlow3, hm3⟩ := hq2.out
        clear hq2
        have hst4' := Lib.hid hst4
        obtain ⟨g, cap, rfl, hBg, hltg⟩ := hst4.own.form (by omega)
        clear hst4
        have hst4 := hst4'
        clear hst4'
        have q1 : wE.cell? ⟨gb, 1, none⟩ = some (.slice (some ⟨g, 0, none⟩) m3 cap) := cell_of_row wE gb 1 _ _ _ hst4.out.cell
        have q2 : wE.cell? ⟨gb, 3, none⟩ = some (.int .i64 low3) := cell_of_row wE gb 3 _ _ _ hst4.out.cell
        have r0 : wE.cell? ⟨ge, 0, none⟩ = some (.int .u64 ph) := cell_of_row wE ge 0 _ _ _ hen.out
        have r1 : wE.cell? ⟨ge, 1, none⟩ = some (.bool false) := cell_of_row wE ge 1 _ _ _ hen.out
        have r2 : wE.cell? ⟨ge, 2, none⟩ = some (.bool false) := cell_of_row wE ge 2 _ _ _ hen.out
        have r3 : wE.cell? ⟨ge, 3, none⟩ = some (.bool xw) := cell_of_row wE ge 3 _ _ _ hen.out
        have r4 : wE.cell? ⟨ge, 4, none⟩ = some (.bool xe) := cell_of_row wE ge 4 _ _ _ hen.out
        have hmidI : (low3 : Int) < (m3 : Int) := by omega
        have hmidI0 : (0 : Int) ≤ (low3 : Int) := by omega
        have hmk : Hid (∀ W, Calls Try.prog 60 #[.agg #[.int .u64 ph, .bool false, .bool false, .bool xw, .bool xe], .int .i64 2] W
            (fun en w' => en = .returned (.tuple #[.int .u64 (makeA ⟨ph, false, false, xw, xe⟩ 2).1, .int .i64 (makeA ⟨ph, false, false, xw, xe⟩ 2).2]) ∧ Below W.heap.size W w')) := fun W => make_any ⟨ph, false, false, xw, xe⟩ 2 hp0 hp1 W
        have hkw : Hid (leafW ph ⟨xv, xp, xn, false, xw, xe⟩ 2 = (makeA ⟨ph, false, false, xw, xe⟩ 2).1) := rfl
        generalize (makeA ⟨ph, false, false, xw, xe⟩ 2).1 = kw at *
        generalize (makeA ⟨ph, false, false, xw, xe⟩ 2).2 = no at *
        obtain ⟨k12, hk12⟩ : ∃ k12, k12 = v / 4096 % 512 := ⟨_, rfl⟩
        have hk512 : k12 < 512 := by omega
        rw [← hk12] at hv12
        have hkI : (k12 : Int) < 512 := by omega
        have hkI0 : (0 : Int) ≤ (k12 : Int) := by omega
        have hidx : (v : Int) / 4096 % 512 = (k12 : Int) := hv12.symm
        have hidxA : ((v : Int) / 4096).tmod 512 = (k12 : Int) := by rw [Int.tmod_eq_emod_of_nonneg (by omega), hv12]
        have hk12' := Lib.hid hk12
        clear hv12 hk12
        have hi : low3 * 512 + k12 < m3 * 512 := by omega
        obtain ⟨⟨u9, ct⟩, ft⟩ := own_cell hst4.out.own hi
        have hneg : gb ≠ g := fun e => own_ne hst4.out.own hst4.out.cell (by decide) (by rw [e]; rfl)
        have hnee : ge ≠ g := fun e => own_ne hst4.out.own hen.out (by decide) (by rw [e]; rfl)
        have hgE : gb < wE.heap.size := lt_of_block hst4.out.cell
        have hltE : g < wE.heap.size := (hst4.out.own.lt g rfl).2
        go_region_held3 (fun w' => w'.cell? ⟨gb, 1, none⟩ = some (.slice (some ⟨g, 0, none⟩) m3 cap) ∧ w'.cell? ⟨gb, 3, none⟩ = some (.int .i64 low3) ∧ w'.cell? ⟨ge, 0, none⟩ = some (.int .u64 ph) ∧ w'.cell? ⟨ge, 1, none⟩ = some (.bool false) ∧ w'.cell? ⟨ge, 2, none⟩ = some (.bool false) ∧ w'.cell? ⟨ge, 3, none⟩ = some (.bool xw) ∧ w'.cell? ⟨ge, 4, none⟩ = some (.bool xe))
          (first
            | exact ⟨q1, q2, r0, r1, r2, r3, r4⟩
            | exact qq
            | exact qs _)
          (first
            | (go_at_call 60; refine (hmk.out _).mono ?_; rintro en w5 ⟨rfl, hb5'⟩
               have hb5 : Below wE.heap.size wE w5 := (Below.drew (Below.refl wE.heap.size wE)).trans hb5'
               have hgeE : ge < wE.heap.size := lt_of_block hen.out
               have qq : w5.cell? ⟨gb, 1, none⟩ = some (.slice (some ⟨g, 0, none⟩) m3 cap) ∧ w5.cell? ⟨gb, 3, none⟩ = some (.int .i64 low3) ∧ w5.cell? ⟨ge, 0, none⟩ = some (.int .u64 ph) ∧ w5.cell? ⟨ge, 1, none⟩ = some (.bool false) ∧ w5.cell? ⟨ge, 2, none⟩ = some (.bool false) ∧ w5.cell? ⟨ge, 3, none⟩ = some (.bool xw) ∧ w5.cell? ⟨ge, 4, none⟩ = some (.bool xe) :=
                 ⟨(hb5.cell hgE).trans q1, (hb5.cell hgE).trans q2, (hb5.cell hgeE).trans r0, (hb5.cell hgeE).trans r1, (hb5.cell hgeE).trans r2, (hb5.cell hgeE).trans r3, (hb5.cell hgeE).trans r4⟩
               have y2 : w5.cell? ⟨g, low3 * 512 + k12, none⟩ = some u9 := (hb5.cell hltE).trans ct
               have y3 : w5.frozen? ⟨g, low3 * 512 + k12, none⟩ = false := (hb5.frozen hltE).trans ft
               have qs : ∀ x, (w5.setCell ⟨g, low3 * 512 + k12, none⟩ x).cell? ⟨gb, 1, none⟩ = some (.slice (some ⟨g, 0, none⟩) m3 cap) ∧ (w5.setCell ⟨g, low3 * 512 + k12, none⟩ x).cell? ⟨gb, 3, none⟩ = some (.int .i64 low3) ∧ (w5.setCell ⟨g, low3 * 512 + k12, none⟩ x).cell? ⟨ge, 0, none⟩ = some (.int .u64 ph) ∧ (w5.setCell ⟨g, low3 * 512 + k12, none⟩ x).cell? ⟨ge, 1, none⟩ = some (.bool false) ∧ (w5.setCell ⟨g, low3 * 512 + k12, none⟩ x).cell? ⟨ge, 2, none⟩ = some (.bool false) ∧ (w5.setCell ⟨g, low3 * 512 + k12, none⟩ x).cell? ⟨ge, 3, none⟩ = some (.bool xw) ∧ (w5.setCell ⟨g, low3 * 512 + k12, none⟩ x).cell? ⟨ge, 4, none⟩ = some (.bool xe) := fun x =>
                 ⟨(World.cell?_of_block (setCell_far hneg x)).trans qq.1, (World.cell?_of_block (setCell_far hneg x)).trans qq.2.1, (World.cell?_of_block (setCell_far hnee x)).trans qq.2.2.1, (World.cell?_of_block (setCell_far hnee x)).trans qq.2.2.2.1, (World.cell?_of_block (setCell_far hnee x)).trans qq.2.2.2.2.1, (World.cell?_of_block (setCell_far hnee x)).trans qq.2.2.2.2.2.1, (World.cell?_of_block (setCell_far hnee x)).trans qq.2.2.2.2.2.2⟩))
        all_goals
          have hst6 : Hid (BSt (w5.setCell ⟨g, low3 * 512 + k12, none⟩ (.int .u64 kw)) B gb base (.slice (some ⟨g, 0, none⟩) m3 cap) m3 (F3.set (low3 * 512 + k12) kw) mid2 low3 vt) := by
            refine ⟨hst4.out.le, (setCell_far hneg _).trans ((hb5.block gb hgE).trans hst4.out.cell), ?_⟩
            have := ownsRow_set (own_below hst4.out.own hb5) hi (.int .u64 kw)
            unfold u64V at this ⊢
            rw [List.map_set]
            exact this
          have hbel6 : Hid (Bl B w (w5.setCell ⟨g, low3 * 512 + k12, none⟩ (.int .u64 kw))) := (hbel4.out.thenBelow hb5 (Nat.le_trans hB hbel4.out.size)).setOwn hBg (own_below hst4.out.own hb5) _ _
          clear qq qs y2 y3 q1 q2 r0 r1 r2 r3 r4 ct ft hb5 hb5'
          generalize w5.setCell ⟨g, low3 * 512 + k12, none⟩ (.int .u64 kw) = w6 at *
          have z4 : w6.cell? ⟨gb, 4, none⟩ = some (.int .u64 vt) := cell_of_row w6 gb 4 _ _ _ hst6.out.cell
          have f4 : w6.frozen? ⟨gb, 4, none⟩ = false := frozen_of_block hst6.out.cell
          have hfin : Hid (BSp (w6.setCell ⟨gb, 4, none⟩ (.int .u64 v)) B gb base (pageP base ⟨m, F, mid, low, vt⟩ v ph ⟨xv, xp, xn, false, xw, xe⟩) ∧ Bl B w (w6.setCell ⟨gb, 4, none⟩ (.int .u64 v))) := by
            refine ⟨⟨.slice (some ⟨g, 0, none⟩) m3 cap, ?_⟩, hbel6.out.setCell hgl hst6.out.cell (by decide) 4 _⟩
            have e : pageP base ⟨m, F, mid, low, vt⟩ v ph ⟨xv, xp, xn, false, xw, xe⟩ = ⟨m3, F3.set (low3 * 512 + k12) kw, mid2, low3, v⟩ := by
              unfold pageP
              rw [if_neg (by simp), hom, hom2, hkw.out, hk12'.out]
            rw [e]
            exact hst6.out.setVirt v
          go_wp2
          go_returns
          exact ⟨rfl, hfin.out⟩
      · have hom2 : Hid (openLow base ⟨m2, F2, mid2, low2, vt⟩ v = ⟨m2 + 1, childF base F2 m2 mid2 (v / 2097152 % 512), mid2, m2, vt⟩) := by
          unfold openLow; rw [if_pos (.inr h2)]; rfl
        have hne21 : ((v : Int) / 2097152 != vt / 2097152) = true := by simp [h2]
        have hlI : ((low2 : Int) == 0) = false := by simp [h1]
        go_wp2_with fail
        refine hchild2.out.mono ?_
        rintro en w4 ⟨rfl, va3, hstA, hfrA⟩
        have k3 : w4.cell? ⟨gb, 3, none⟩ = some (.int .i64 low2) := cell_of_row w4 gb 3 _ _ _ hstA.cell
        have j3 : w4.frozen? ⟨gb, 3, none⟩ = false := frozen_of_block hstA.cell
        have hst5 : Hid (BSt (w4.setCell ⟨gb, 3, none⟩ (.int .i64 m2)) B gb base va3 (m2 + 1) (childF base F2 m2 mid2 (v / 2097152 % 512)) mid2 m2 vt) := hstA.setLow m2
        have hen5 : Hid ((w4.setCell ⟨gb, 3, none⟩ (.int .i64 m2)).heap[ge]? = some (.cells #[.int .u64 ph, .bool false, .bool false, .bool xw, .bool xe] 94 (0, 0))) :=
          (setCell_far hgee.out.1 _).trans ((hfrA.block _ (lt_of_block hen.out) (fun h => h.elim hgee.out.1 hgee.out.2)).trans hen.out)
        have hbel5 : Hid (Bl B w (w4.setCell ⟨gb, 3, none⟩ (.int .i64 m2))) :=
          (hbel4.out.thenFr hst4.out hfrA (Nat.le_trans hB hbel4.out.size)).setCell hgl hstA.cell (by decide) 3 _
        go_upto_region 9 with (fail)
        clear k3 j3 hstA hfrA d2' d3 d4 hchild2 hst4 hen hbel4 hcx4 hall hltg hBg
        generalize w4.setCell ⟨gb, 3, none⟩ (.int .i64 m2) = w5 at *
        clear hgbl
        clear wE
        rename World => wE
        have hst4 := hst5
        have hen := hen5
        have hbel4 := hbel5
        clear hst5 hen5 hbel5
        obtain ⟨m3, F3, low3, hq2⟩ : ∃ m3 F3 low3, Hid (BSt wE B gb base va3 m3 F3 mid2 low3 vt ∧ openLow base ⟨m2, F2, mid2, low2, vt⟩ v = ⟨m3, F3, mid2, low3, vt⟩ ∧ low3 < m3 ∧ m3 ≤ 90002) := ⟨m2 + 1, _, m2, hst4.out, hom2.out, by omega, by omega⟩
        clear hst4 hom2
        obtain ⟨hst4, hom2, hlow3, hm3⟩ := hq2.out
        clear hq2
        have hst4' := Lib.hid hst4
        obtain ⟨g, cap, rfl, hBg, hltg⟩ := hst4.own.form (by omega)
        clear hst4
        have hst4 := hst4'
        clear hst4'
        have q1 : wE.cell? ⟨gb, 1, none⟩ = some (.slice (some ⟨g, 0, none⟩) m3 cap) := cell_of_row wE gb 1 _ _ _ hst4.out.cell
        have q2 : wE.cell? ⟨gb, 3, none⟩ = some (.int .i64 low3) := cell_of_row wE gb 3 _ _ _ hst4.out.cell
        have r0 : wE.cell? ⟨ge, 0, none⟩ = some (.int .u64 ph) := cell_of_row wE ge 0 _ _ _ hen.out
        have r1 : wE.cell? ⟨ge, 1, none⟩ = some (.bool false) := cell_of_row wE ge 1 _ _ _ hen.out
        have r2 : wE.cell? ⟨ge, 2, none⟩ = some (.bool false) := cell_of_row wE ge 2 _ _ _ hen.out
        have r3 : wE.cell? ⟨ge, 3, none⟩ = some (.bool xw) := cell_of_row wE ge 3 _ _ _ hen.out
        have r4 : wE.cell? ⟨ge, 4, none⟩ = some (.bool xe) := cell_of_row wE ge 4 _ _ _ hen.out
        have hmidI : (low3 : Int) < (m3 : Int) := by omega
        have hmidI0 : (0 : Int) ≤ (low3 : Int) := by omega
        have hmk : Hid (∀ W, Calls Try.prog 60 #[.agg #[.int .u64 ph, .bool false, .bool false, .bool xw, .bool xe], .int .i64 2] W
            (fun en w' => en = .returned (.tuple #[.int .u64 (makeA ⟨ph, false, false, xw, xe⟩ 2).1, .int .i64 (makeA ⟨ph, false, false, xw, xe⟩ 2).2]) ∧ Below W.heap.size W w')) := fun W => make_any ⟨ph, false, false, xw, xe⟩ 2 hp0 hp1 W
        have hkw : Hid (leafW ph ⟨xv, xp, xn, false, xw, xe⟩ 2 = (makeA ⟨ph, false, false, xw, xe⟩ 2).1) := rfl
        generalize (makeA ⟨ph, false, false, xw, xe⟩ 2).1 = kw at *
        generalize (makeA ⟨ph, false, false, xw, xe⟩ 2).2 = no at *
        obtain ⟨k12, hk12⟩ : ∃ k12, k12 = v / 4096 % 512 := ⟨_, rfl⟩
        have hk512 : k12 < 512 := by omega
        rw [← hk12] at hv12
        have hkI : (k12 : Int) < 512 := by omega
        have hkI0 : (0 : Int) ≤ (k12 : Int) := by omega
        have hidx : (v : Int) / 4096 % 512 = (k12 : Int) := hv12.symm
        have hidxA : ((v : Int) / 4096).tmod 512 = (k12 : Int) := by rw [Int.tmod_eq_emod_of_nonneg (by omega), hv12]
        have hk12' := Lib.hid hk12
        clear hv12 hk12
        have hi : low3 * 512 + k12 < m3 * 512 := by omega
        obtain ⟨⟨u9, ct⟩, ft⟩ := own_cell hst4.out.own hi
        have hneg : gb ≠ g := fun e => own_ne hst4.out.own hst4.out.cell (by decide) (by rw [e]; rfl)
        have hnee : ge ≠ g := fun e => own_ne hst4.out.own hen.out (by decide) (by rw [e]; rfl)
        have hgE : gb < wE.heap.size := lt_of_block hst4.out.cell
        have hltE : g < wE.heap.size := (hst4.out.own.lt g rfl).2
        go_region_held3 (fun w' => w'.cell? ⟨gb, 1, none⟩ = some (.slice (some ⟨g, 0, none⟩) m3 cap) ∧ w'.cell? ⟨gb, 3, none⟩ = some (.int .i64 low3) ∧ w'.cell? ⟨ge, 0, none⟩ = some (.int .u64 ph) ∧ w'.cell? ⟨ge, 1, none⟩ = some (.bool false) ∧ w'.cell? ⟨ge, 2, none⟩ = some (.bool false) ∧ w'.cell? ⟨ge, 3, none⟩ = some (.bool xw) ∧ w'.cell? ⟨ge, 4, none⟩ = some (.bool xe))
          (first
            | exact ⟨q1, q2, r0, r1, r2, r3, r4⟩
            | exact qq
            | exact qs _)
          (first
            | (go_at_call 60; refine (hmk.out _).mono ?_; rintro en w5 ⟨rfl, hb5'⟩
               have hb5 : Below wE.heap.size wE w5 := (Below.drew (Below.refl wE.heap.size wE)).trans hb5'
               have hgeE : ge < wE.heap.size := lt_of_block hen.out
               have qq : w5.cell? ⟨gb, 1, none⟩ = some (.slice (some ⟨g, 0, none⟩) m3 cap) ∧ w5.cell? ⟨gb, 3, none⟩ = some (.int .i64 low3) ∧ w5.cell? ⟨ge, 0, none⟩ = some (.int .u64 ph) ∧ w5.cell? ⟨ge, 1, none⟩ = some (.bool false) ∧ w5.cell? ⟨ge, 2, none⟩ = some (.bool false) ∧ w5.cell? ⟨ge, 3, none⟩ = some (.bool xw) ∧ w5.cell? ⟨ge, 4, none⟩ = some (.bool xe) :=
                 ⟨(hb5.cell hgE).trans q1, (hb5.cell hgE).trans q2, (hb5.cell hgeE).trans r0, (hb5.cell hgeE).trans r1, (hb5.cell hgeE).trans r2, (hb5.cell hgeE).trans r3, (hb5.cell hgeE).trans r4⟩
               have y2 : w5.cell? ⟨g, low3 * 512 + k12, none⟩ = some u9 := (hb5.cell hltE).trans ct
               have y3 : w5.frozen? ⟨g, low3 * 512 + k12, none⟩ = false := (hb5.frozen hltE).trans ft
               have qs : ∀ x, (w5.setCell ⟨g, low3 * 512 + k12, none⟩ x).cell? ⟨gb, 1, none⟩ = some (.slice (some ⟨g, 0, none⟩) m3 cap) ∧ (w5.setCell ⟨g, low3 * 512 + k12, none⟩ x).cell? ⟨gb, 3, none⟩ = some (.int .i64 low3) ∧ (w5.setCell ⟨g, low3 * 512 + k12, none⟩ x).cell? ⟨ge, 0, none⟩ = some (.int .u64 ph) ∧ (w5.setCell ⟨g, low3 * 512 + k12, none⟩ x).cell? ⟨ge, 1, none⟩ = some (.bool false) ∧ (w5.setCell ⟨g, low3 * 512 + k12, none⟩ x).cell? ⟨ge, 2, none⟩ = some (.bool false) ∧ (w5.setCell ⟨g, low3 * 512 + k12, none⟩ x).cell? ⟨ge, 3, none⟩ = some (.bool xw) ∧ (w5.setCell ⟨g, low3 * 512 + k12, none⟩ x).cell? ⟨ge, 4, none⟩ = some (.bool xe) := fun x =>
                 ⟨(World.cell?_of_block (setCell_far hneg x)).trans qq.1, (World.cell?_of_block (setCell_far hneg x)).trans qq.2.1, (World.cell?_of_block (setCell_far hnee x)).trans qq.2.2.1, (World.cell?_of_block (setCell_far hnee x)).trans qq.2.2.2.1, (World.cell?_of_block (setCell_far hnee x)).trans qq.2.2.2.2.1, (World.cell?_of_block (setCell_far hnee x)).trans qq.2.2.2.2.2.1, (World.cell?_of_block (setCell_far hnee x)).trans qq.2.2.2.2.2.2⟩))
        all_goals
          have hst6 : Hid (BSt (w5.setCell ⟨g, low3 * 512 + k12, none⟩ (.int .u64 kw)) B gb base (.slice (some ⟨g, 0, none⟩) m3 cap) m3 (F3.set (low3 * 512 + k12) kw) mid2 low3 vt) := by
            refine ⟨hst4.out.le, (setCell_far hneg _).trans ((hb5.block gb hgE).trans hst4.out.cell), ?_⟩
            have := ownsRow_set (own_below hst4.out.own hb5) hi (.int .u64 kw)
            unfold u64V at this ⊢
            rw [List.map_set]
            exact this
          have hbel6 : Hid (Bl B w (w5.setCell ⟨g, low3 * 512 + k12, none⟩ (.int .u64 kw))) := (hbel4.out.thenBelow hb5 (Nat.le_trans hB hbel4.out.size)).setOwn hBg (own_below hst4.out.own hb5) _ _
          clear qq qs y2 y3 q1 q2 r0 r1 r2 r3 r4 ct ft hb5 hb5'
          generalize w5.setCell ⟨g, low3 * 512 + k12, none⟩ (.int .u64 kw) = w6 at *
          have z4 : w6.cell? ⟨gb, 4, none⟩ = some (.int .u64 vt) := cell_of_row w6 gb 4 _ _ _ hst6.out.cell
          have f4 : w6.frozen? ⟨gb, 4, none⟩ = false := frozen_of_block hst6.out.cell
          have hfin : Hid (BSp (w6.setCell ⟨gb, 4, none⟩ (.int .u64 v)) B gb base (pageP base ⟨m, F, mid, low, vt⟩ v ph ⟨xv, xp, xn, false, xw, xe⟩) ∧ Bl B w (w6.setCell ⟨gb, 4, none⟩ (.int .u64 v))) := by
            refine ⟨⟨.slice (some ⟨g, 0, none⟩) m3 cap, ?_⟩, hbel6.out.setCell hgl hst6.out.cell (by decide) 4 _⟩
            have e : pageP base ⟨m, F, mid, low, vt⟩ v ph ⟨xv, xp, xn, false, xw, xe⟩ = ⟨m3, F3.set (low3 * 512 + k12) kw, mid2, low3, v⟩ := by
              unfold pageP
              rw [if_neg (by simp), hom, hom2, hkw.out, hk12'.out]
            rw [e]
            exact hst6.out.setVirt v
          go_wp2
          go_returns
          exact ⟨rfl, hfin.out⟩
      · have hom2 : Hid (openLow base ⟨m2, F2, mid2, low2, vt⟩ v = ⟨m2, F2, mid2, low2, vt⟩) := by
          unfold openLow; rw [if_neg (fun h => h.elim h1 (fun h => h h2))]; rfl
        have hne21 : ((v : Int) / 2097152 != vt / 2097152) = false := by simp [h2]
        have hlI : ((low2 : Int) == 0) = false := by simp [h1]
        go_upto_region 9 with (fail)
        clear d2' d3 d4 hchild2 hcx4 hall hltg hBg hgbl
        obtain ⟨va3, hva3⟩ : ∃ y, y = Value.slice (some ⟨g, 0, none⟩) m2 cap := ⟨_, rfl⟩
        obtain ⟨m3, F3, low3, hq2⟩ : ∃ m3 F3 low3, Hid (BSt wE B gb base va3 m3 F3 mid2 low3 vt ∧ openLow base ⟨m2, F2, mid2, low2, vt⟩ v = ⟨m3, F3, mid2, low3, vt⟩ ∧ low3 < m3 ∧ m3 ≤ 90002) := ⟨m2, _, low2, by rw [hva3]; exact hst4.out, hom2.out, by omega, by omega⟩
        clear hst4 hom2 hva3
        obtain ⟨hst4, hom2, hlow3, hm3⟩ := hq2.out
        clear hq2
        have hst4' := Lib.hid hst4
        obtain ⟨g, cap, rfl, hBg, hltg⟩ := hst4.own.form (by omega)
        clear hst4
        have hst4 := hst4'
        clear hst4'
        have q1 : wE.cell? ⟨gb, 1, none⟩ = some (.slice (some ⟨g, 0, none⟩) m3 cap) := cell_of_row wE gb 1 _ _ _ hst4.out.cell
        have q2 : wE.cell? ⟨gb, 3, none⟩ = some (.int .i64 low3) := cell_of_row wE gb 3 _ _ _ hst4.out.cell
        have r0 : wE.cell? ⟨ge, 0, none⟩ = some (.int .u64 ph) := cell_of_row wE ge 0 _ _ _ hen.out
        have r1 : wE.cell? ⟨ge, 1, none⟩ = some (.bool false) := cell_of_row wE ge 1 _ _ _ hen.out
        have r2 : wE.cell? ⟨ge, 2, none⟩ = some (.bool false) := cell_of_row wE ge 2 _ _ _ hen.out
        have r3 : wE.cell? ⟨ge, 3, none⟩ = some (.bool xw) := cell_of_row wE ge 3 _ _ _ hen.out
        have r4 : wE.cell? ⟨ge, 4, none⟩ = some (.bool xe) := cell_of_row wE ge 4 _ _ _ hen.out
        have hmidI : (low3 : Int) < (m3 : Int) := by omega
        have hmidI0 : (0 : Int) ≤ (low3 : Int) := by omega
        have hmk : Hid (∀ W, Calls Try.prog 60 #[.agg #[.int .u64 ph, .bool false, .bool false, .bool xw, .bool xe], .int .i64 2] W
            (fun en w' => en = .returned (.tuple #[.int .u64 (makeA ⟨ph, false, false, xw, xe⟩ 2).1, .int .i64 (makeA ⟨ph, false, false, xw, xe⟩ 2).2]) ∧ Below W.heap.size W w')) := fun W => make_any ⟨ph, false, false, xw, xe⟩ 2 hp0 hp1 W
        have hkw : Hid (leafW ph ⟨xv, xp, xn, false, xw, xe⟩ 2 = (makeA ⟨ph, false, false, xw, xe⟩ 2).1) := rfl
        generalize (makeA ⟨ph, false, false, xw, xe⟩ 2).1 = kw at *
        generalize (makeA ⟨ph, false, false, xw, xe⟩ 2).2 = no at *
        obtain ⟨k12, hk12⟩ : ∃ k12, k12 = v / 4096 % 512 := ⟨_, rfl⟩
        have hk512 : k12 < 512 := by omega
        rw [← hk12] at hv12
        have hkI : (k12 : Int) < 512 := by omega
        have hkI0 : (0 : Int) ≤ (k12 : Int) := by omega
        have hidx : (v : Int) / 4096 % 512 = (k12 : Int) := hv12.symm
        have hidxA : ((v : Int) / 4096).tmod 512 = (k12 : Int) := by rw [Int.tmod_eq_emod_of_nonneg (by omega), hv12]
        have hk12' := Lib.hid hk12
        clear hv12 hk12
        have hi : low3 * 512 + k12 < m3 * 512 := by omega
        obtain ⟨⟨u9, ct⟩, ft⟩ := own_cell hst4.out.own hi
        have hneg : gb ≠ g := fun e => own_ne hst4.out.own hst4.out.cell (by decide) (by rw [e]; rfl)
        have hnee : ge ≠ g := fun e => own_ne hst4.out.own hen.out (by decide) (by rw [e]; rfl)
        have hgE : gb < wE.heap.size := lt_of_block hst4.out.cell
        have hltE : g < wE.heap.size := (hst4.out.own.lt g rfl).2
        go_region_held3 (fun w' => w'.cell? ⟨gb, 1, none⟩ = some (.slice (some ⟨g, 0, none⟩) m3 cap) ∧ w'.cell? ⟨gb, 3, none⟩ = some (.int .i64 low3) ∧ w'.cell? ⟨ge, 0, none⟩ = some (.int .u64 ph) ∧ w'.cell? ⟨ge, 1, none⟩ = some (.bool false) ∧ w'.cell? ⟨ge, 2, none⟩ = some (.bool false) ∧ w'.cell? ⟨ge, 3, none⟩ = some (.bool xw) ∧ w'.cell? ⟨ge, 4, none⟩ = some (.bool xe))
          (first
            | exact ⟨q1, q2, r0, r1, r2, r3, r4⟩
            | exact qq
            | exact qs _)
          (first
            | (go_at_call 60; refine (hmk.out _).mono ?_; rintro en w5 ⟨rfl, hb5'⟩
               have hb5 : Below wE.heap.size wE w5 := (Below.drew (Below.refl wE.heap.size wE)).trans hb5'
               have hgeE : ge < wE.heap.size := lt_of_block hen.out
               have qq : w5.cell? ⟨gb, 1, none⟩ = some (.slice (some ⟨g, 0, none⟩) m3 cap) ∧ w5.cell? ⟨gb, 3, none⟩ = some (.int .i64 low3) ∧ w5.cell? ⟨ge, 0, none⟩ = some (.int .u64 ph) ∧ w5.cell? ⟨ge, 1, none⟩ = some (.bool false) ∧ w5.cell? ⟨ge, 2, none⟩ = some (.bool false) ∧ w5.cell? ⟨ge, 3, none⟩ = some (.bool xw) ∧ w5.cell? ⟨ge, 4, none⟩ = some (.bool xe) :=
                 ⟨(hb5.cell hgE).trans q1, (hb5.cell hgE).trans q2, (hb5.cell hgeE).trans r0, (hb5.cell hgeE).trans r1, (hb5.cell hgeE).trans r2, (hb5.cell hgeE).trans r3, (hb5.cell hgeE).trans r4⟩
               have y2 : w5.cell? ⟨g, low3 * 512 + k12, none⟩ = some u9 := (hb5.cell hltE).trans ct
               have y3 : w5.frozen? ⟨g, low3 * 512 + k12, none⟩ = false := (hb5.frozen hltE).trans ft
               have qs : ∀ x, (w5.setCell ⟨g, low3 * 512 + k12, none⟩ x).cell? ⟨gb, 1, none⟩ = some (.slice (some ⟨g, 0, none⟩) m3 cap) ∧ (w5.setCell ⟨g, low3 * 512 + k12, none⟩ x).cell? ⟨gb, 3, none⟩ = some (.int .i64 low3) ∧ (w5.setCell ⟨g, low3 * 512 + k12, none⟩ x).cell? ⟨ge, 0, none⟩ = some (.int .u64 ph) ∧ (w5.setCell ⟨g, low3 * 512 + k12, none⟩ x).cell? ⟨ge, 1, none⟩ = some (.bool false) ∧ (w5.setCell ⟨g, low3 * 512 + k12, none⟩ x).cell? ⟨ge, 2, none⟩ = some (.bool false) ∧ (w5.setCell ⟨g, low3 * 512 + k12, none⟩ x).cell? ⟨ge, 3, none⟩ = some (.bool xw) ∧ (w5.setCell ⟨g, low3 * 512 + k12, none⟩ x).cell? ⟨ge, 4, none⟩ = some (.bool xe) := fun x =>
                 ⟨(World.cell?_of_block (setCell_far hneg x)).trans qq.1, (World.cell?_of_block (setCell_far hneg x)).trans qq.2.1, (World.cell?_of_block (setCell_far hnee x)).trans qq.2.2.1, (World.cell?_of_block (setCell_far hnee x)).trans qq.2.2.2.1, (World.cell?_of_block (setCell_far hnee x)).trans qq.2.2.2.2.1, (World.cell?_of_block (setCell_far hnee x)).trans qq.2.2.2.2.2.1, (World.cell?_of_block (setCell_far hnee x)).trans qq.2.2.2.2.2.2⟩))
        all_goals
          have hst6 : Hid (BSt (w5.setCell ⟨g, low3 * 512 + k12, none⟩ (.int .u64 kw)) B gb base (.slice (some ⟨g, 0, none⟩) m3 cap) m3 (F3.set (low3 * 512 + k12) kw) mid2 low3 vt) := by
            refine ⟨hst4.out.le, (setCell_far hneg _).trans ((hb5.block gb hgE).trans hst4.out.cell), ?_⟩
            have := ownsRow_set (own_below hst4.out.own hb5) hi (.int .u64 kw)
            unfold u64V at this ⊢
            rw [List.map_set]
            exact this
          have hbel6 : Hid (Bl B w (w5.setCell ⟨g, low3 * 512 + k12, none⟩ (.int .u64 kw))) := (hbel4.out.thenBelow hb5 (Nat.le_trans hB hbel4.out.size)).setOwn hBg (own_below hst4.out.own hb5) _ _
          clear qq qs y2 y3 q1 q2 r0 r1 r2 r3 r4 ct ft hb5 hb5'
          generalize w5.setCell ⟨g, low3 * 512 + k12, none⟩ (.int .u64 kw) = w6 at *
          have z4 : w6.cell? ⟨gb, 4, none⟩ = some (.int .u64 vt) := cell_of_row w6 gb 4 _ _ _ hst6.out.cell
          have f4 : w6.frozen? ⟨gb, 4, none⟩ = false := frozen_of_block hst6.out.cell
          have hfin : Hid (BSp (w6.setCell ⟨gb, 4, none⟩ (.int .u64 v)) B gb base (pageP base ⟨m, F, mid, low, vt⟩ v ph ⟨xv, xp, xn, false, xw, xe⟩) ∧ Bl B w (w6.setCell ⟨gb, 4, none⟩ (.int .u64 v))) := by
            refine ⟨⟨.slice (some ⟨g, 0, none⟩) m3 cap, ?_⟩, hbel6.out.setCell hgl hst6.out.cell (by decide) 4 _⟩
            have e : pageP base ⟨m, F, mid, low, vt⟩ v ph ⟨xv, xp, xn, false, xw, xe⟩ = ⟨m3, F3.set (low3 * 512 + k12) kw, mid2, low3, v⟩ := by
              unfold pageP
              rw [if_neg (by simp), hom, hom2, hkw.out, hk12'.out]
            rw [e]
            exact hst6.out.setVirt v
          go_wp2
          go_returns
          exact ⟨rfl, hfin.out⟩
  · have hom : Hid (openMid base ⟨m, F, mid, low, vt⟩ v = ⟨m + 1, childF base F m 0 (v / 1073741824), m, 0, vt⟩) := by
      unfold openMid; rw [if_pos (.inr h2)]; rfl
    have hne30 : ((v : Int) / 1073741824 != vt / 1073741824) = true := by simp [h2]
    have hmI : ((mid : Int) == 0) = false := by simp [h1]
    go_wp2_with fail
    refine hchild.out.mono ?_
    rintro en w2 ⟨rfl, va2, hstA, hfrA⟩
    have hlt2 := lt_of_block hstA.cell
    have k2 : w2.cell? ⟨gb, 2, none⟩ = some (.int .i64 mid) := cell_of_row w2 gb 2 _ _ _ hstA.cell
    have k3 : w2.cell? ⟨gb, 3, none⟩ = some (.int .i64 low) := cell_of_row w2 gb 3 _ _ _ hstA.cell
    have j2 : w2.frozen? ⟨gb, 2, none⟩ = false := frozen_of_block hstA.cell
    have j3 : w2.frozen? ⟨gb, 3, none⟩ = false := frozen_of_block hstA.cell
    have hst2 : Hid (BSt ((w2.setCell ⟨gb, 2, none⟩ (.int .i64 m)).setCell ⟨gb, 3, none⟩ (.int .i64 (0 : Nat))) B gb base va2 (m + 1) (childF base F m 0 (v / 1073741824)) m 0 vt) := (hstA.setMid m).setLow 0
    have hcx2 : Hid (((w2.setCell ⟨gb, 2, none⟩ (.int .i64 m)).setCell ⟨gb, 3, none⟩ (.int .i64 (0 : Nat))).heap[w.heap.size]? = some (.cells #[.int .u64 xv, .int .u64 xp, .int .i64 xn, .bool xb, .bool xw, .bool xe] 47 (0, 0))) :=
      (setCell_far hcxne.out.1 _).trans ((setCell_far hcxne.out.1 _).trans ((hfrA.block _ hsz (fun h => h.elim hcxne.out.1 hcxne.out.2)).trans hcx.out))
    have hbel2 : Hid (Bl B w ((w2.setCell ⟨gb, 2, none⟩ (.int .i64 m)).setCell ⟨gb, 3, none⟩ (.int .i64 (0 : Nat)))) :=
      ((hbel1.out.thenFr hst1.out hfrA (Nat.le_trans hB (Nat.le_of_lt hsz))).setCell hgl hstA.cell (by decide) 2 _).setCell hgl (hstA.setMid m).cell (by decide) 3 _
    have hsz2 : w.heap.size < ((w2.setCell ⟨gb, 2, none⟩ (.int .i64 m)).setCell ⟨gb, 3, none⟩ (.int .i64 (0 : Nat))).heap.size := lt_of_block hcx2.out
    go_upto_region 3 with (fail)
    clear k2 k3 j2 j3 hstA hfrA hlt2
    have e0 : ((0 : Nat) : Int) = 0 := rfl
    rw [e0] at hst2 hcx2 hbel2 hsz2
    generalize (w2.setCell ⟨gb, 2, none⟩ (.int .i64 m)).setCell ⟨gb, 3, none⟩ (.int .i64 0) = w3 at *
    obtain ⟨m2, F2, mid2, low2, hq⟩ : ∃ m2 F2 mid2 low2, Hid (BSt w3 B gb base va2 m2 F2 mid2 low2 vt ∧ openMid base ⟨m, F, mid, low, vt⟩ v = ⟨m2, F2, mid2, low2, vt⟩ ∧ mid2 < m2 ∧ low2 < m2 ∧ m2 ≤ 90001) := ⟨m + 1, _, m, 0, hst2.out, hom.out, by omega, by omega, by omega⟩
    clear hst2 hom
    obtain ⟨hst3, hom, hmid2, hlow2, hm2⟩ := hq.out
    clear hq
    have hst3' := Lib.hid hst3
    obtain ⟨g, cap, rfl, hBg, hltg⟩ := hst3.own.form (by omega)
    have hgbl := lt_of_block hst3.cell
    have e3 : w3.cell? ⟨w.heap.size, 3, none⟩ = some (.bool xb) := cell_of_row w3 _ 3 _ _ _ hcx2.out
    have e4 : w3.cell? ⟨w.heap.size, 4, none⟩ = some (.bool xw) := cell_of_row w3 _ 4 _ _ _ hcx2.out
    have e5 : w3.cell? ⟨w.heap.size, 5, none⟩ = some (.bool xe) := cell_of_row w3 _ 5 _ _ _ hcx2.out
    have hall : Hid (Below w3.heap.size w3 (w3.alloc (.cells #[.int .u64 ph, .bool false, .bool xb, .bool xw, .bool xe] 94))) := (Below.refl _ _).alloc (Nat.le_refl _) _
    have hen : Hid ((w3.alloc (.cells #[.int .u64 ph, .bool false, .bool xb, .bool xw, .bool xe] 94)).heap[w3.heap.size]? = some (.cells #[.int .u64 ph, .bool false, .bool xb, .bool xw, .bool xe] 94 (0, 0))) := heap_alloc_new _ _
    have hst4 := Lib.hid (hst3.below hall.out)
    have hcx4 : Hid ((w3.alloc (.cells #[.int .u64 ph, .bool false, .bool xb, .bool xw, .bool xe] 94)).heap[w.heap.size]? = some (.cells #[.int .u64 xv, .int .u64 xp, .int .i64 xn, .bool xb, .bool xw, .bool xe] 47 (0, 0))) := (hall.out.block _ hsz2).trans hcx2.out
    have hbel4 : Hid (Bl B w (w3.alloc (.cells #[.int .u64 ph, .bool false, .bool xb, .bool xw, .bool xe] 94))) := hbel2.out.thenBelow hall.out (Nat.le_trans hB (Nat.le_of_lt hsz2))
    clear hst3 hst3'
    cases xb with
    | true =>
      go_upto_region 5 with (fail)
      clear e3 e4 e5
      generalize w3.alloc (.cells #[.int .u64 ph, .bool false, .bool true, .bool xw, .bool xe] 94) = wE at *
      generalize w3.heap.size = ge at *
      have q1 : wE.cell? ⟨gb, 1, none⟩ = some (.slice (some ⟨g, 0, none⟩) m2 cap) := cell_of_row wE gb 1 _ _ _ hst4.out.cell
      have q2 : wE.cell? ⟨gb, 2, none⟩ = some (.int .i64 mid2) := cell_of_row wE gb 2 _ _ _ hst4.out.cell
      have r0 : wE.cell? ⟨ge, 0, none⟩ = some (.int .u64 ph) := cell_of_row wE ge 0 _ _ _ hen.out
      have r1 : wE.cell? ⟨ge, 1, none⟩ = some (.bool false) := cell_of_row wE ge 1 _ _ _ hen.out
      have r2 : wE.cell? ⟨ge, 2, none⟩ = some (.bool true) := cell_of_row wE ge 2 _ _ _ hen.out
      have r3 : wE.cell? ⟨ge, 3, none⟩ = some (.bool xw) := cell_of_row wE ge 3 _ _ _ hen.out
      have r4 : wE.cell? ⟨ge, 4, none⟩ = some (.bool xe) := cell_of_row wE ge 4 _ _ _ hen.out
      have hmidI : (mid2 : Int) < (m2 : Int) := by omega
      have hmidI0 : (0 : Int) ≤ (mid2 : Int) := by omega
      have hmk : Hid (∀ W, Calls Try.prog 60 #[.agg #[.int .u64 ph, .bool false, .bool true, .bool xw, .bool xe], .int .i64 1] W
          (fun en w' => en = .returned (.tuple #[.int .u64 (makeA ⟨ph, false, true, xw, xe⟩ 1).1, .int .i64 (makeA ⟨ph, false, true, xw, xe⟩ 1).2]) ∧ Below W.heap.size W w')) := fun W => make_any ⟨ph, false, true, xw, xe⟩ 1 hp0 hp1 W
      have hkw : Hid (leafW ph ⟨xv, xp, xn, true, xw, xe⟩ 1 = (makeA ⟨ph, false, true, xw, xe⟩ 1).1) := rfl
      generalize (makeA ⟨ph, false, true, xw, xe⟩ 1).1 = kw at *
      generalize (makeA ⟨ph, false, true, xw, xe⟩ 1).2 = no at *
      obtain ⟨k21, hk21⟩ : ∃ k21, k21 = v / 2097152 % 512 := ⟨_, rfl⟩
      have hk512 : k21 < 512 := by omega
      rw [← hk21] at hv21
      have hkI : (k21 : Int) < 512 := by omega
      have hkI0 : (0 : Int) ≤ (k21 : Int) := by omega
      have hidx : (v : Int) / 2097152 % 512 = (k21 : Int) := hv21.symm
      have hidxA : ((v : Int) / 2097152).tmod 512 = (k21 : Int) := by rw [Int.tmod_eq_emod_of_nonneg (by omega), hv21]
      have hk21' := Lib.hid hk21
      clear hv21 hk21 hv12 hv30
      have hi : mid2 * 512 + k21 < m2 * 512 := by omega
      obtain ⟨⟨u9, ct⟩, ft⟩ := own_cell hst4.out.own hi
      have hneg : gb ≠ g := fun e => own_ne hst4.out.own hst4.out.cell (by decide) (by rw [e]; rfl)
      have hnee : ge ≠ g := fun e => own_ne hst4.out.own hen.out (by decide) (by rw [e]; rfl)
      have hgE : gb < wE.heap.size := lt_of_block hst4.out.cell
      have hltE : g < wE.heap.size := (hst4.out.own.lt g rfl).2
      go_region_held3 (fun w' => w'.cell? ⟨gb, 1, none⟩ = some (.slice (some ⟨g, 0, none⟩) m2 cap) ∧ w'.cell? ⟨gb, 2, none⟩ = some (.int .i64 mid2) ∧ w'.cell? ⟨ge, 0, none⟩ = some (.int .u64 ph) ∧ w'.cell? ⟨ge, 1, none⟩ = some (.bool false) ∧ w'.cell? ⟨ge, 2, none⟩ = some (.bool true) ∧ w'.cell? ⟨ge, 3, none⟩ = some (.bool xw) ∧ w'.cell? ⟨ge, 4, none⟩ = some (.bool xe))
        (first
          | exact ⟨q1, q2, r0, r1, r2, r3, r4⟩
          | exact qq
          | exact qs _)
        (first
          | (go_at_call 60; refine (hmk.out _).mono ?_; rintro en w5 ⟨rfl, hb5'⟩
             have hb5 : Below wE.heap.size wE w5 := (Below.drew (Below.refl wE.heap.size wE)).trans hb5'
             have hgeE : ge < wE.heap.size := lt_of_block hen.out
             have qq : w5.cell? ⟨gb, 1, none⟩ = some (.slice (some ⟨g, 0, none⟩) m2 cap) ∧ w5.cell? ⟨gb, 2, none⟩ = some (.int .i64 mid2) ∧ w5.cell? ⟨ge, 0, none⟩ = some (.int .u64 ph) ∧ w5.cell? ⟨ge, 1, none⟩ = some (.bool false) ∧ w5.cell? ⟨ge, 2, none⟩ = some (.bool true) ∧ w5.cell? ⟨ge, 3, none⟩ = some (.bool xw) ∧ w5.cell? ⟨ge, 4, none⟩ = some (.bool xe) :=
               ⟨(hb5.cell hgE).trans q1, (hb5.cell hgE).trans q2, (hb5.cell hgeE).trans r0, (hb5.cell hgeE).trans r1, (hb5.cell hgeE).trans r2, (hb5.cell hgeE).trans r3, (hb5.cell hgeE).trans r4⟩
             have y2 : w5.cell? ⟨g, mid2 * 512 + k21, none⟩ = some u9 := (hb5.cell hltE).trans ct
             have y3 : w5.frozen? ⟨g, mid2 * 512 + k21, none⟩ = false := (hb5.frozen hltE).trans ft
             have qs : ∀ x, (w5.setCell ⟨g, mid2 * 512 + k21, none⟩ x).cell? ⟨gb, 1, none⟩ = some (.slice (some ⟨g, 0, none⟩) m2 cap) ∧ (w5.setCell ⟨g, mid2 * 512 + k21, none⟩ x).cell? ⟨gb, 2, none⟩ = some (.int .i64 mid2) ∧ (w5.setCell ⟨g, mid2 * 512 + k21, none⟩ x).cell? ⟨ge, 0, none⟩ = some (.int .u64 ph) ∧ (w5.setCell ⟨g, mid2 * 512 + k21, none⟩ x).cell? ⟨ge, 1, none⟩ = some (.bool false) ∧ (w5.setCell ⟨g, mid2 * 512 + k21, none⟩ x).cell? ⟨ge, 2, none⟩ = some (.bool true) ∧ (w5.setCell ⟨g, mid2 * 512 + k21, none⟩ x).cell? ⟨ge, 3, none⟩ = some (.bool xw) ∧ (w5.setCell ⟨g, mid2 * 512 + k21, none⟩ x).cell? ⟨ge, 4, none⟩ = some (.bool xe) := fun x =>
               ⟨(World.cell?_of_block (setCell_far hneg x)).trans qq.1, (World.cell?_of_block (setCell_far hneg x)).trans qq.2.1, (World.cell?_of_block (setCell_far hnee x)).trans qq.2.2.1, (World.cell?_of_block (setCell_far hnee x)).trans qq.2.2.2.1, (World.cell?_of_block (setCell_far hnee x)).trans qq.2.2.2.2.1, (World.cell?_of_block (setCell_far hnee x)).trans qq.2.2.2.2.2.1, (World.cell?_of_block (setCell_far hnee x)).trans qq.2.2.2.2.2.2⟩))
      all_goals
        have hst6 : Hid (BSt (w5.setCell ⟨g, mid2 * 512 + k21, none⟩ (.int .u64 kw)) B gb base (.slice (some ⟨g, 0, none⟩) m2 cap) m2 (F2.set (mid2 * 512 + k21) kw) mid2 low2 vt) := by
          refine ⟨hst4.out.le, (setCell_far hneg _).trans ((hb5.block gb hgE).trans hst4.out.cell), ?_⟩
          have := ownsRow_set (own_below hst4.out.own hb5) hi (.int .u64 kw)
          unfold u64V at this ⊢
          rw [List.map_set]
          exact this
        have hbel6 : Hid (Bl B w (w5.setCell ⟨g, mid2 * 512 + k21, none⟩ (.int .u64 kw))) := (hbel4.out.thenBelow hb5 (Nat.le_trans hB hbel4.out.size)).setOwn hBg (own_below hst4.out.own hb5) _ _
        clear qq qs y2 y3 q1 q2 r0 r1 r2 r3 r4 ct ft hb5 hb5'
        generalize w5.setCell ⟨g, mid2 * 512 + k21, none⟩ (.int .u64 kw) = w6 at *
        have z3 : w6.cell? ⟨gb, 3, none⟩ = some (.int .i64 low2) := cell_of_row w6 gb 3 _ _ _ hst6.out.cell
        have z4 : w6.cell? ⟨gb, 4, none⟩ = some (.int .u64 vt) := cell_of_row w6 gb 4 _ _ _ hst6.out.cell
        have f3 : w6.frozen? ⟨gb, 3, none⟩ = false := frozen_of_block hst6.out.cell
        have f4 : w6.frozen? ⟨gb, 4, none⟩ = false := frozen_of_block hst6.out.cell
        have hfin : Hid (BSp ((w6.setCell ⟨gb, 4, none⟩ (.int .u64 v)).setCell ⟨gb, 3, none⟩ (.int .i64 (0 : Nat))) B gb base (pageP base ⟨m, F, mid, low, vt⟩ v ph ⟨xv, xp, xn, true, xw, xe⟩) ∧ Bl B w ((w6.setCell ⟨gb, 4, none⟩ (.int .u64 v)).setCell ⟨gb, 3, none⟩ (.int .i64 (0 : Nat)))) := by
          refine ⟨⟨.slice (some ⟨g, 0, none⟩) m2 cap, ?_⟩, (hbel6.out.setCell hgl hst6.out.cell (by decide) 4 _).setCell hgl (hst6.out.setVirt v).cell (by decide) 3 _⟩
          have e : pageP base ⟨m, F, mid, low, vt⟩ v ph ⟨xv, xp, xn, true, xw, xe⟩ = ⟨m2, F2.set (mid2 * 512 + k21) kw, mid2, 0, v⟩ := by
            unfold pageP
            rw [if_pos rfl, hom, hkw.out, hk21'.out]
          rw [e]
          exact (hst6.out.setVirt v).setLow 0
        have e0 : ((0 : Nat) : Int) = 0 := rfl
        rw [e0] at hfin
        go_wp2
        go_returns
        exact ⟨rfl, hfin.out⟩
    | false =>
      go_upto_region 7 with (fail)
      clear e3 e4 e5
      generalize w3.alloc (.cells #[.int .u64 ph, .bool false, .bool false, .bool xw, .bool xe] 94) = wE at *
      generalize w3.heap.size = ge at *
      have d3 : wE.cell? ⟨gb, 3, none⟩ = some (.int .i64 low2) := cell_of_row wE gb 3 _ _ _ hst4.out.cell
      have d4 : wE.cell? ⟨gb, 4, none⟩ = some (.int .u64 vt) := cell_of_row wE gb 4 _ _ _ hst4.out.cell
      have d2' : wE.cell? ⟨gb, 2, none⟩ = some (.int .i64 mid2) := cell_of_row wE gb 2 _ _ _ hst4.out.cell
      have hchild2 := Lib.hid (child_any B gb base _ m2 F2 mid2 low2 vt mid2 (v / 2097152 % 512) wE hst4.out hmid2 (by omega) (by omega) hb0 hb1 (Nat.le_trans hB hbel4.out.size))
      rw [hv21] at hchild2
      have hgee : Hid (ge ≠ gb ∧ (Value.slice (some ⟨g, 0, none⟩) m2 cap).ownBlock ≠ some ge) := by
        refine ⟨?_, fun e => own_ne hst4.out.own hen.out (by decide) e.symm⟩
        rintro rfl
        have := hst4.out.cell
        rw [hen.out] at this; cases this
      have h4 : (low2 = 0 ∨ (¬ low2 = 0 ∧ ¬ (v : Int) / 2097152 = vt / 2097152)) ∨ (¬ low2 = 0 ∧ (v : Int) / 2097152 = vt / 2097152) := by omega
      rcases h4 with (h1 | ⟨h1, h2⟩) | ⟨h1, h2⟩
      · have hom2 : Hid (openLow base ⟨m2, F2, mid2, low2, vt⟩ v = ⟨m2 + 1, childF base F2 m2 mid2 (v / 2097152 % 512), mid2, m2, vt⟩) := by
          unfold openLow; rw [if_pos (.inl h1)]; rfl
        go_wp2_with fail
        refine hchild2.out.mono ?_
        rintro en w4 ⟨rfl, va3, hstA, hfrA⟩
        have k3 : w4.cell? ⟨gb, 3, none⟩ = some (.int .i64 low2) := cell_of_row w4 gb 3 _ _ _ hstA.cell
        have j3 : w4.frozen? ⟨gb, 3, none⟩ = false := frozen_of_block hstA.cell
        have hst5 : Hid (BSt (w4.setCell ⟨gb, 3, none⟩ (.int .i64 m2)) B gb base va3 (m2 + 1) (childF base F2 m2 mid2 (v / 2097152 % 512)) mid2 m2 vt) := hstA.setLow m2
        have hen5 : Hid ((w4.setCell ⟨gb, 3, none⟩ (.int .i64 m2)).heap[ge]? = some (.cells #[.int .u64 ph, .bool false, .bool false, .bool xw, .bool xe] 94 (0, 0))) :=
          (setCell_far hgee.out.1 _).trans ((hfrA.block _ (lt_of_block hen.out) (fun h => h.elim hgee.out.1 hgee.out.2)).trans hen.out)
        have hbel5 : Hid (Bl B w (w4.setCell ⟨gb, 3, none⟩ (.int .i64 m2))) :=
          (hbel4.out.thenFr hst4.out hfrA (Nat.le_trans hB hbel4.out.size)).setCell hgl hstA.cell (by decide) 3 _
        go_upto_region 9 with (fail)
        clear k3 j3 hstA hfrA d2' d3 d4 hchild2 hst4 hen hbel4 hcx4 hall hltg hBg
        generalize w4.setCell ⟨gb, 3, none⟩ (.int .i64 m2) = w5 at *
        clear hgbl
        clear wE
        rename World => wE
        have hst4 := hst5
        have hen := hen5
        have hbel4 := hbel5
        clear hst5 hen5 hbel5
        obtain ⟨m3, F3, low3, hq2⟩ : ∃ m3 F3 low3, Hid (BSt wE B gb base va3 m3 F3 mid2 low3 vt ∧ openLow base ⟨m2, F2, mid2, low2, vt⟩ v = ⟨m3, F3, mid2, low3, vt⟩ ∧ low3 < m3 ∧ m3 ≤ 90002) := ⟨m2 + 1, _, m2, hst4.out, hom2.out, by omega, by omega⟩
        clear hst4 hom2
        obtain ⟨hst4, hom2, hlow3, hm3⟩ := hq2.out
        clear hq2
        have hst4' := Lib.hid hst4
        obtain ⟨g, cap, rfl, hBg, hltg⟩ := hst4.own.form (by omega)
        clear hst4
        have hst4 := hst4'
        clear hst4'
        have q1 : wE.cell? ⟨gb, 1, none⟩ = some (.slice (some ⟨g, 0, none⟩) m3 cap) := cell_of_row wE gb 1 _ _ _ hst4.out.cell
        have q2 : wE.cell? ⟨gb, 3, none⟩ = some (.int .i64 low3) := cell_of_row wE gb 3 _ _ _ hst4.out.cell
        have r0 : wE.cell? ⟨ge, 0, none⟩ = some (.int .u64 ph) := cell_of_row wE ge 0 _ _ _ hen.out
        have r1 : wE.cell? ⟨ge, 1, none⟩ = some (.bool false) := cell_of_row wE ge 1 _ _ _ hen.out
        have r2 : wE.cell? ⟨ge, 2, none⟩ = some (.bool false) := cell_of_row wE ge 2 _ _ _ hen.out
        have r3 : wE.cell? ⟨ge, 3, none⟩ = some (.bool xw) := cell_of_row wE ge 3 _ _ _ hen.out
        have r4 : wE.cell? ⟨ge, 4, none⟩ = some (.bool xe) := cell_of_row wE ge 4 _ _ _ hen.out
        have hmidI : (low3 : Int) < (m3 : Int) := by omega
        have hmidI0 : (0 : Int) ≤ (low3 : Int) := by omega
        have hmk : Hid (∀ W, Calls Try.prog 60 #[.agg #[.int .u64 ph, .bool false, .bool false, .bool xw, .bool xe], .int .i64 2] W
            (fun en w' => en = .returned (.tuple #[.int .u64 (makeA ⟨ph, false, false, xw, xe⟩ 2).1, .int .i64 (makeA ⟨ph, false, false, xw, xe⟩ 2).2]) ∧ Below W.heap.size W w')) := fun W => make_any ⟨ph, false, false, xw, xe⟩ 2 hp0 hp1 W
        have hkw : Hid (leafW ph ⟨xv, xp, xn, false, xw, xe⟩ 2 = (makeA ⟨ph, false, false, xw, xe⟩ 2).1) := rfl
        generalize (makeA ⟨ph, false, false, xw, xe⟩ 2).1 = kw at *
        generalize (makeA ⟨ph, false, false, xw, xe⟩ 2).2 = no at *
        obtain ⟨k12, hk12⟩ : ∃ k12, k12 = v / 4096 % 512 := ⟨_, rfl⟩
        have hk512 : k12 < 512 := by omega
        rw [← hk12] at hv12
        have hkI : (k12 : Int) < 512 := by omega
        have hkI0 : (0 : Int) ≤ (k12 : Int) := by omega
        have hidx : (v : Int) / 4096 % 512 = (k12 : Int) := hv12.symm
        have hidxA : ((v : Int) / 4096).tmod 512 = (k12 : Int) := by rw [Int.tmod_eq_emod_of_nonneg (by omega), hv12]
        have hk12' := Lib.hid hk12
        clear hv12 hk12
        have hi : low3 * 512 + k12 < m3 * 512 := by omega
        obtain ⟨⟨u9, ct⟩, ft⟩ := own_cell hst4.out.own hi
        have hneg : gb ≠ g := fun e => own_ne hst4.out.own hst4.out.cell (by decide) (by rw [e]; rfl)
        have hnee : ge ≠ g := fun e => own_ne hst4.out.own hen.out (by decide) (by rw [e]; rfl)
        have hgE : gb < wE.heap.size := lt_of_block hst4.out.cell
        have hltE : g < wE.heap.size := (hst4.out.own.lt g rfl).2
        go_region_held3 (fun w' => w'.cell? ⟨gb, 1, none⟩ = some (.slice (some ⟨g, 0, none⟩) m3 cap) ∧ w'.cell? ⟨gb, 3, none⟩ = some (.int .i64 low3) ∧ w'.cell? ⟨ge, 0, none⟩ = some (.int .u64 ph) ∧ w'.cell? ⟨ge, 1, none⟩ = some (.bool false) ∧ w'.cell? ⟨ge, 2, none⟩ = some (.bool false) ∧ w'.cell? ⟨ge, 3, none⟩ = some (.bool xw) ∧ w'.cell? ⟨ge, 4, none⟩ = some (.bool xe))
          (first
            | exact ⟨q1, q2, r0, r1, r2, r3, r4⟩
            | exact qq
            | exact qs _)
          (first
            | (go_at_call 60; refine (hmk.out _).mono ?_; rintro en w5 ⟨rfl, hb5'⟩
               have hb5 : Below wE.heap.size wE w5 := (Below.drew (Below.refl wE.heap.size wE)).trans hb5'
               have hgeE : ge < wE.heap.size := lt_of_block hen.out
               have qq : w5.cell? ⟨gb, 1, none⟩ = some (.slice (some ⟨g, 0, none⟩) m3 cap) ∧ w5.cell? ⟨gb, 3, none⟩ = some (.int .i64 low3) ∧ w5.cell? ⟨ge, 0, none⟩ = some (.int .u64 ph) ∧ w5.cell? ⟨ge, 1, none⟩ = some (.bool false) ∧ w5.cell? ⟨ge, 2, none⟩ = some (.bool false) ∧ w5.cell? ⟨ge, 3, none⟩ = some (.bool xw) ∧ w5.cell? ⟨ge, 4, none⟩ = some (.bool xe) :=
                 ⟨(hb5.cell hgE).trans q1, (hb5.cell hgE).trans q2, (hb5.cell hgeE).trans r0, (hb5.cell hgeE).trans r1, (hb5.cell hgeE).trans r2, (hb5.cell hgeE).trans r3, (hb5.cell hgeE).trans r4⟩
               have y2 : w5.cell? ⟨g, low3 * 512 + k12, none⟩ = some u9 := (hb5.cell hltE).trans ct
               have y3 : w5.frozen? ⟨g, low3 * 512 + k12, none⟩ = false := (hb5.frozen hltE).trans ft
               have qs : ∀ x, (w5.setCell ⟨g, low3 * 512 + k12, none⟩ x).cell? ⟨gb, 1, none⟩ = some (.slice (some ⟨g, 0, none⟩) m3 cap) ∧ (w5.setCell ⟨g, low3 * 512 + k12, none⟩ x).cell? ⟨gb, 3, none⟩ = some (.int .i64 low3) ∧ (w5.setCell ⟨g, low3 * 512 + k12, none⟩ x).cell? ⟨ge, 0, none⟩ = some (.int .u64 ph) ∧ (w5.setCell ⟨g, low3 * 512 + k12, none⟩ x).cell? ⟨ge, 1, none⟩ = some (.bool false) ∧ (w5.setCell ⟨g, low3 * 512 + k12, none⟩ x).cell? ⟨ge, 2, none⟩ = some (.bool false) ∧ (w5.setCell ⟨g, low3 * 512 + k12, none⟩ x).cell? ⟨ge, 3, none⟩ = some (.bool xw) ∧ (w5.setCell ⟨g, low3 * 512 + k12, none⟩ x).cell? ⟨ge, 4, none⟩ = some (.bool xe) := fun x =>
                 ⟨(World.cell?_of_block (setCell_far hneg x)).trans qq.1, (World.cell?_of_block (setCell_far hneg x)).trans qq.2.1, (World.cell?_of_block (setCell_far hnee x)).trans qq.2.2.1, (World.cell?_of_block (setCell_far hnee x)).trans qq.2.2.2.1, (World.cell?_of_block (setCell_far hnee x)).trans qq.2.2.2.2.1, (World.cell?_of_block (setCell_far hnee x)).trans qq.2.2.2.2.2.1, (World.cell?_of_block (setCell_far hnee x)).trans qq.2.2.2.2.2.2⟩))
        all_goals
          have hst6 : Hid (BSt (w5.setCell ⟨g, low3 * 512 + k12, none⟩ (.int .u64 kw)) B gb base (.slice (some ⟨g, 0, none⟩) m3 cap) m3 (F3.set (low3 * 512 + k12) kw) mid2 low3 vt) := by
            refine ⟨hst4.out.le, (setCell_far hneg _).trans ((hb5.block gb hgE).trans hst4.out.cell), ?_⟩
            have := ownsRow_set (own_below hst4.out.own hb5) hi (.int .u64 kw)
            unfold u64V at this ⊢
            rw [List.map_set]
            exact this
          have hbel6 : Hid (Bl B w (w5.setCell ⟨g, low3 * 512 + k12, none⟩ (.int .u64 kw))) := (hbel4.out.thenBelow hb5 (Nat.le_trans hB hbel4.out.size)).setOwn hBg (own_below hst4.out.own hb5) _ _
          clear qq qs y2 y3 q1 q2 r0 r1 r2 r3 r4 ct ft hb5 hb5'
          generalize w5.setCell ⟨g, low3 * 512 + k12, none⟩ (.int .u64 kw) = w6 at *
          have z4 : w6.cell? ⟨gb, 4, none⟩ = some (.int .u64 vt) := cell_of_row w6 gb 4 _ _ _ hst6.out.cell
          have f4 : w6.frozen? ⟨gb, 4, none⟩ = false := frozen_of_block hst6.out.cell
          have hfin : Hid (BSp (w6.setCell ⟨gb, 4, none⟩ (.int .u64 v)) B gb base (pageP base ⟨m, F, mid, low, vt⟩ v ph ⟨xv, xp, xn, false, xw, xe⟩) ∧ Bl B w (w6.setCell ⟨gb, 4, none⟩ (.int .u64 v))) := by
            refine ⟨⟨.slice (some ⟨g, 0, none⟩) m3 cap, ?_⟩, hbel6.out.setCell hgl hst6.out.cell (by decide) 4 _⟩
            have e : pageP base ⟨m, F, mid, low, vt⟩ v ph ⟨xv, xp, xn, false, xw, xe⟩ = ⟨m3, F3.set (low3 * 512 + k12) kw, mid2, low3, v⟩ := by
              unfold pageP
              rw [if_neg (by simp), hom, hom2, hkw.out, hk12'.out]
            rw [e]
            exact hst6.out.setVirt v
          go_wp2
          go_returns
          exact ⟨rfl, hfin.out⟩
      · have hom2 : Hid (openLow base ⟨m2, F2, mid2, low2, vt⟩ v = ⟨m2 + 1, childF base F2 m2 mid2 (v / 2097152 % 512), mid2, m2, vt⟩) := by
          unfold openLow; rw [if_pos (.inr h2)]; rfl
        have hne21 : ((v : Int) / 2097152 != vt / 2097152) = true := by simp [h2]
        have hlI : ((low2 : Int) == 0) = false := by simp [h1]
        go_wp2_with fail
        refine hchild2.out.mono ?_
        rintro en w4 ⟨rfl, va3, hstA, hfrA⟩
        have k3 : w4.cell? ⟨gb, 3, none⟩ = some (.int .i64 low2) := cell_of_row w4 gb 3 _ _ _ hstA.cell
        have j3 : w4.frozen? ⟨gb, 3, none⟩ = false := frozen_of_block hstA.cell
        have hst5 : Hid (BSt (w4.setCell ⟨gb, 3, none⟩ (.int .i64 m2)) B gb base va3 (m2 + 1) (childF base F2 m2 mid2 (v / 2097152 % 512)) mid2 m2 vt) := hstA.setLow m2
        have hen5 : Hid ((w4.setCell ⟨gb, 3, none⟩ (.int .i64 m2)).heap[ge]? = some (.cells #[.int .u64 ph, .bool false, .bool false, .bool xw, .bool xe] 94 (0, 0))) :=
          (setCell_far hgee.out.1 _).trans ((hfrA.block _ (lt_of_block hen.out) (fun h => h.elim hgee.out.1 hgee.out.2)).trans hen.out)
        have hbel5 : Hid (Bl B w (w4.setCell ⟨gb, 3, none⟩ (.int .i64 m2))) :=
          (hbel4.out.thenFr hst4.out hfrA (Nat.le_trans hB hbel4.out.size)).setCell hgl hstA.cell (by decide) 3 _
        go_upto_region 9 with (fail)
        clear k3 j3 hstA hfrA d2' d3 d4 hchild2 hst4 hen hbel4 hcx4 hall hltg hBg
        generalize w4.setCell ⟨gb, 3, none⟩ (.int .i64 m2) = w5 at *
        clear hgbl
        clear wE
        rename World => wE
        have hst4 := hst5
        have hen := hen5
        have hbel4 := hbel5
        clear hst5 hen5 hbel5
        obtain ⟨m3, F3, low3, hq2⟩ : ∃ m3 F3 low3, Hid (BSt wE B gb base va3 m3 F3 mid2 low3 vt ∧ openLow base ⟨m2, F2, mid2, low2, vt⟩ v = ⟨m3, F3, mid2, low3, vt⟩ ∧ low3 < m3 ∧ m3 ≤ 90002) := ⟨m2 + 1, _, m2, hst4.out, hom2.out, by omega, by omega⟩
        clear hst4 hom2
        obtain ⟨hst4, hom2, hlow3, hm3⟩ := hq2.out
        clear hq2
        have hst4' := Lib.hid hst4
        obtain ⟨g, cap, rfl, hBg, hltg⟩ := hst4.own.form (by omega)
        clear hst4
        have hst4 := hst4'
        clear hst4'
        have q1 : wE.cell? ⟨gb, 1, none⟩ = some (.slice (some ⟨g, 0, none⟩) m3 cap) := cell_of_row wE gb 1 _ _ _ hst4.out.cell
        have q2 : wE.cell? ⟨gb, 3, none⟩ = some (.int .i64 low3) := cell_of_row wE gb 3 _ _ _ hst4.out.cell
        have r0 : wE.cell? ⟨ge, 0, none⟩ = some (.int .u64 ph) := cell_of_row wE ge 0 _ _ _ hen.out
        have r1 : wE.cell? ⟨ge, 1, none⟩ = some (.bool false) := cell_of_row wE ge 1 _ _ _ hen.out
        have r2 : wE.cell? ⟨ge, 2, none⟩ = some (.bool false) := cell_of_row wE ge 2 _ _ _ hen.out
        have r3 : wE.cell? ⟨ge, 3, none⟩ = some (.bool xw) := cell_of_row wE ge 3 _ _ _ hen.out
        have r4 : wE.cell? ⟨ge, 4, none⟩ = some (.bool xe) := cell_of_row wE ge 4 _ _ _ hen.out
        have hmidI : (low3 : Int) < (m3 : Int) := by omega
        have hmidI0 : (0 : Int) ≤ (low3 : Int) := by omega
        have hmk : Hid (∀ W, Calls Try.prog 60 #[.agg #[.int .u64 ph, .bool false, .bool false, .bool xw, .bool xe], .int .i64 2] W
            (fun en w' => en = .returned (.tuple #[.int .u64 (makeA ⟨ph, false, false, xw, xe⟩ 2).1, .int .i64 (makeA ⟨ph, false, false, xw, xe⟩ 2).2]) ∧ Below W.heap.size W w')) := fun W => make_any ⟨ph, false, false, xw, xe⟩ 2 hp0 hp1 W
        have hkw : Hid (leafW ph ⟨xv, xp, xn, false, xw, xe⟩ 2 = (makeA ⟨ph, false, false, xw, xe⟩ 2).1) := rfl
        generalize (makeA ⟨ph, false, false, xw, xe⟩ 2).1 = kw at *
        generalize (makeA ⟨ph, false, false, xw, xe⟩ 2).2 = no at *
        obtain ⟨k12, hk12⟩ : ∃ k12, k12 = v / 4096 % 512 := ⟨_, rfl⟩
        have hk512 : k12 < 512 := by omega
        rw [← hk12] at hv12
        have hkI : (k12 : Int) < 512 := by omega
        have hkI0 : (0 : Int) ≤ (k12 : Int) := by omega
        have hidx : (v : Int) / 4096 % 512 = (k12 : Int) := hv12.symm
        have hidxA : ((v : Int) / 4096).tmod 512 = (k12 : Int) := by rw [Int.tmod_eq_emod_of_nonneg (by omega), hv12]
        have hk12' := Lib.hid hk12
        clear hv12 hk12
        have hi : low3 * 512 + k12 < m3 * 512 := by omega
        obtain ⟨⟨u9, ct⟩, ft⟩ := own_cell hst4.out.own hi
        have hneg : gb ≠ g := fun e => own_ne hst4.out.own hst4.out.cell (by decide) (by rw [e]; rfl)
        have hnee : ge ≠ g := fun e => own_ne hst4.out.own hen.out (by decide) (by rw [e]; rfl)
        have hgE : gb < wE.heap.size := lt_of_block hst4.out.cell
        have hltE : g < wE.heap.size := (hst4.out.own.lt g rfl).2
        go_region_held3 (fun w' => w'.cell? ⟨gb, 1, none⟩ = some (.slice (some ⟨g, 0, none⟩) m3 cap) ∧ w'.cell? ⟨gb, 3, none⟩ = some (.int .i64 low3) ∧ w'.cell? ⟨ge, 0, none⟩ = some (.int .u64 ph) ∧ w'.cell? ⟨ge, 1, none⟩ = some (.bool false) ∧ w'.cell? ⟨ge, 2, none⟩ = some (.bool false) ∧ w'.cell? ⟨ge, 3, none⟩ = some (.bool xw) ∧ w'.cell? ⟨ge, 4, none⟩ = some (.bool xe))
          (first
            | exact ⟨q1, q2, r0, r1, r2, r3, r4⟩
            | exact qq
            | exact qs _)
          (first
            | (go_at_call 60; refine (hmk.out _).mono ?_; rintro en w5 ⟨rfl, hb5'⟩
               have hb5 : Below wE.heap.size wE w5 := (Below.drew (Below.refl wE.heap.size wE)).trans hb5'
               have hgeE : ge < wE.heap.size := lt_of_block hen.out
               have qq : w5.cell? ⟨gb, 1, none⟩ = some (.slice (some ⟨g, 0, none⟩) m3 cap) ∧ w5.cell? ⟨gb, 3, none⟩ = some (.int .i64 low3) ∧ w5.cell? ⟨ge, 0, none⟩ = some (.int .u64 ph) ∧ w5.cell? ⟨ge, 1, none⟩ = some (.bool false) ∧ w5.cell? ⟨ge, 2, none⟩ = some (.bool false) ∧ w5.cell? ⟨ge, 3, none⟩ = some (.bool xw) ∧ w5.cell? ⟨ge, 4, none⟩ = some (.bool xe) :=
                 ⟨(hb5.cell hgE).trans q1, (hb5.cell hgE).trans q2, (hb5.cell hgeE).trans r0, (hb5.cell hgeE).trans r1, (hb5.cell hgeE).trans r2, (hb5.cell hgeE).trans r3, (hb5.cell hgeE).trans r4⟩
               have y2 : w5.cell? ⟨g, low3 * 512 + k12, none⟩ = some u9 := (hb5.cell hltE).trans ct
               have y3 : w5.frozen? ⟨g, low3 * 512 + k12, none⟩ = false := (hb5.frozen hltE).trans ft
               have qs : ∀ x, (w5.setCell ⟨g, low3 * 512 + k12, none⟩ x).cell? ⟨gb, 1, none⟩ = some (.slice (some ⟨g, 0, none⟩) m3 cap) ∧ (w5.setCell ⟨g, low3 * 512 + k12, none⟩ x).cell? ⟨gb, 3, none⟩ = some (.int .i64 low3) ∧ (w5.setCell ⟨g, low3 * 512 + k12, none⟩ x).cell? ⟨ge, 0, none⟩ = some (.int .u64 ph) ∧ (w5.setCell ⟨g, low3 * 512 + k12, none⟩ x).cell? ⟨ge, 1, none⟩ = some (.bool false) ∧ (w5.setCell ⟨g, low3 * 512 + k12, none⟩ x).cell? ⟨ge, 2, none⟩ = some (.bool false) ∧ (w5.setCell ⟨g, low3 * 512 + k12, none⟩ x).cell? ⟨ge, 3, none⟩ = some (.bool xw) ∧ (w5.setCell ⟨g, low3 * 512 + k12, none⟩ x).cell? ⟨ge, 4, none⟩ = some (.bool xe) := fun x =>
                 ⟨(World.cell?_of_block (setCell_far hneg x)).trans qq.1, (World.cell?_of_block (setCell_far hneg x)).trans qq.2.1, (World.cell?_of_block (setCell_far hnee x)).trans qq.2.2.1, (World.cell?_of_block (setCell_far hnee x)).trans qq.2.2.2.1, (World.cell?_of_block (setCell_far hnee x)).trans qq.2.2.2.2.1, (World.cell?_of_block (setCell_far hnee x)).trans qq.2.2.2.2.2.1, (World.cell?_of_block (setCell_far hnee x)).trans qq.2.2.2.2.2.2⟩))
        all_goals
          have hst6 : Hid (BSt (w5.setCell ⟨g, low3 * 512 + k12, none⟩ (.int .u64 kw)) B gb base (.slice (some ⟨g, 0, none⟩) m3 cap) m3 (F3.set (low3 * 512 + k12) kw) mid2 low3 vt) := by
            refine ⟨hst4.out.le, (setCell_far hneg _).trans ((hb5.block gb hgE).trans hst4.out.cell), ?_⟩
            have := ownsRow_set (own_below hst4.out.own hb5) hi (.int .u64 kw)
            unfold u64V at this ⊢
            rw [List.map_set]
            exact this
          have hbel6 : Hid (Bl B w (w5.setCell ⟨g, low3 * 512 + k12, none⟩ (.int .u64 kw))) := (hbel4.out.thenBelow hb5 (Nat.le_trans hB hbel4.out.size)).setOwn hBg (own_below hst4.out.own hb5) _ _
          clear qq qs y2 y3 q1 q2 r0 r1 r2 r3 r4 ct ft hb5 hb5'
          generalize w5.setCell ⟨g, low3 * 512 + k12, none⟩ (.int .u64 kw) = w6 at *
          have z4 : w6.cell? ⟨gb, 4, none⟩ = some (.int .u64 vt) := cell_of_row w6 gb 4 _ _ _ hst6.out.cell
          have f4 : w6.frozen? ⟨gb, 4, none⟩ = false := frozen_of_block hst6.out.cell
          have hfin : Hid (BSp (w6.setCell ⟨gb, 4, none⟩ (.int .u64 v)) B gb base (pageP base ⟨m, F, mid, low, vt⟩ v ph ⟨xv, xp, xn, false, xw, xe⟩) ∧ Bl B w (w6.setCell ⟨gb, 4, none⟩ (.int .u64 v))) := by
            refine ⟨⟨.slice (some ⟨g, 0, none⟩) m3 cap, ?_⟩, hbel6.out.setCell hgl hst6.out.cell (by decide) 4 _⟩
            have e : pageP base ⟨m, F, mid, low, vt⟩ v ph ⟨xv, xp, xn, false, xw, xe⟩ = ⟨m3, F3.set (low3 * 512 + k12) kw, mid2, low3, v⟩ := by
              unfold pageP
              rw [if_neg (by simp), hom, hom2, hkw.out, hk12'.out]
            rw [e]
            exact hst6.out.setVirt v
          go_wp2
          go_returns
          exact ⟨rfl, hfin.out⟩
      · exfalso
        omega
  · have hom : Hid (openMid base ⟨m, F, mid, low, vt⟩ v = ⟨m, F, mid, low, vt⟩) := by
      unfold openMid; rw [if_neg (fun h => h.elim h1 (fun h => h h2))]; rfl
    have hne30 : ((v : Int) / 1073741824 != vt / 1073741824) = false := by simp [h2]
    have hmI : ((mid : Int) == 0) = false := by simp [h1]
    go_upto_region 3 with (fail)
    have hst2 := hst1
    have hcx2 := hcx
    have hbel2 := hbel1
    have hsz2 := hsz
    clear hst1 hcx hbel1 hsz d2 d4 hchild
    obtain ⟨va2, rfl⟩ : ∃ y, y = va := ⟨_, rfl⟩
    obtain ⟨w3, rfl⟩ : ∃ y, y = w1 := ⟨_, rfl⟩
    obtain ⟨m2, F2, mid2, low2, hq⟩ : ∃ m2 F2 mid2 low2, Hid (BSt w3 B gb base va2 m2 F2 mid2 low2 vt ∧ openMid base ⟨m, F, mid, low, vt⟩ v = ⟨m2, F2, mid2, low2, vt⟩ ∧ mid2 < m2 ∧ low2 < m2 ∧ m2 ≤ 90001) := ⟨m, F, mid, low, hst2.out, hom.out, by omega, by omega, by omega⟩
    clear hst2 hom
    obtain ⟨hst3, hom, hmid2, hlow2, hm2⟩ := hq.out
    clear hq
    have hst3' := Lib.hid hst3
    obtain ⟨g, cap, rfl, hBg, hltg⟩ := hst3.own.form (by omega)
    have hgbl := lt_of_block hst3.cell
    have e3 : w3.cell? ⟨w.heap.size, 3, none⟩ = some (.bool xb) := cell_of_row w3 _ 3 _ _ _ hcx2.out
    have e4 : w3.cell? ⟨w.heap.size, 4, none⟩ = some (.bool xw) := cell_of_row w3 _ 4 _ _ _ hcx2.out
    have e5 : w3.cell? ⟨w.heap.size, 5, none⟩ = some (.bool xe) := cell_of_row w3 _ 5 _ _ _ hcx2.out
    have hall : Hid (Below w3.heap.size w3 (w3.alloc (.cells #[.int .u64 ph, .bool false, .bool xb, .bool xw, .bool xe] 94))) := (Below.refl _ _).alloc (Nat.le_refl _) _
    have hen : Hid ((w3.alloc (.cells #[.int .u64 ph, .bool false, .bool xb, .bool xw, .bool xe] 94)).heap[w3.heap.size]? = some (.cells #[.int .u64 ph, .bool false, .bool xb, .bool xw, .bool xe] 94 (0, 0))) := heap_alloc_new _ _
    have hst4 := Lib.hid (hst3.below hall.out)
    have hcx4 : Hid ((w3.alloc (.cells #[.int .u64 ph, .bool false, .bool xb, .bool xw, .bool xe] 94)).heap[w.heap.size]? = some (.cells #[.int .u64 xv, .int .u64 xp, .int .i64 xn, .bool xb, .bool xw, .bool xe] 47 (0, 0))) := (hall.out.block _ hsz2).trans hcx2.out
    have hbel4 : Hid (Bl B w (w3.alloc (.cells #[.int .u64 ph, .bool false, .bool xb, .bool xw, .bool xe] 94))) := hbel2.out.thenBelow hall.out (Nat.le_trans hB (Nat.le_of_lt hsz2))
    clear hst3 hst3'
    cases xb with
    | true =>
      go_upto_region 5 with (fail)
      clear e3 e4 e5
      generalize w3.alloc (.cells #[.int .u64 ph, .bool false, .bool true, .bool xw, .bool xe] 94) = wE at *
      generalize w3.heap.size = ge at *
      have q1 : wE.cell? ⟨gb, 1, none⟩ = some (.slice (some ⟨g, 0, none⟩) m2 cap) := cell_of_row wE gb 1 _ _ _ hst4.out.cell
      have q2 : wE.cell? ⟨gb, 2, none⟩ = some (.int .i64 mid2) := cell_of_row wE gb 2 _ _ _ hst4.out.cell
      have r0 : wE.cell? ⟨ge, 0, none⟩ = some (.int .u64 ph) := cell_of_row wE ge 0 _ _ _ hen.out
      have r1 : wE.cell? ⟨ge, 1, none⟩ = some (.bool false) := cell_of_row wE ge 1 _ _ _ hen.out
      have r2 : wE.cell? ⟨ge, 2, none⟩ = some (.bool true) := cell_of_row wE ge 2 _ _ _ hen.out
      have r3 : wE.cell? ⟨ge, 3, none⟩ = some (.bool xw) := cell_of_row wE ge 3 _ _ _ hen.out
      have r4 : wE.cell? ⟨ge, 4, none⟩ = some (.bool xe) := cell_of_row wE ge 4 _ _ _ hen.out
      have hmidI : (mid2 : Int) < (m2 : Int) := by omega
      have hmidI0 : (0 : Int) ≤ (mid2 : Int) := by omega
      have hmk : Hid (∀ W, Calls Try.prog 60 #[.agg #[.int .u64 ph, .bool false, .bool true, .bool xw, .bool xe], .int .i64 1] W
          (fun en w' => en = .returned (.tuple #[.int .u64 (makeA ⟨ph, false, true, xw, xe⟩ 1).1, .int .i64 (makeA ⟨ph, false, true, xw, xe⟩ 1).2]) ∧ Below W.heap.size W w')) := fun W => make_any ⟨ph, false, true, xw, xe⟩ 1 hp0 hp1 W
      have hkw : Hid (leafW ph ⟨xv, xp, xn, true, xw, xe⟩ 1 = (makeA ⟨ph, false, true, xw, xe⟩ 1).1) := rfl
      generalize (makeA ⟨ph, false, true, xw, xe⟩ 1).1 = kw at *
      generalize (makeA ⟨ph, false, true, xw, xe⟩ 1).2 = no at *
      obtain ⟨k21, hk21⟩ : ∃ k21, k21 = v / 2097152 % 512 := ⟨_, rfl⟩
      have hk512 : k21 < 512 := by omega
      rw [← hk21] at hv21
      have hkI : (k21 : Int) < 512 := by omega
      have hkI0 : (0 : Int) ≤ (k21 : Int) := by omega
      have hidx : (v : Int) / 2097152 % 512 = (k21 : Int) := hv21.symm
      have hidxA : ((v : Int) / 2097152).tmod 512 = (k21 : Int) := by rw [Int.tmod_eq_emod_of_nonneg (by omega), hv21]
      have hk21' := Lib.hid hk21
      clear hv21 hk21 hv12 hv30
      have hi : mid2 * 512 + k21 < m2 * 512 := by omega
      obtain ⟨⟨u9, ct⟩, ft⟩ := own_cell hst4.out.own hi
      have hneg : gb ≠ g := fun e => own_ne hst4.out.own hst4.out.cell (by decide) (by rw [e]; rfl)
      have hnee : ge ≠ g := fun e => own_ne hst4.out.own hen.out (by decide) (by rw [e]; rfl)
      have hgE : gb < wE.heap.size := lt_of_block hst4.out.cell
      have hltE : g < wE.heap.size := (hst4.out.own.lt g rfl).2
      go_region_held3 (fun w' => w'.cell? ⟨gb, 1, none⟩ = some (.slice (some ⟨g, 0, none⟩) m2 cap) ∧ w'.cell? ⟨gb, 2, none⟩ = some (.int .i64 mid2) ∧ w'.cell? ⟨ge, 0, none⟩ = some (.int .u64 ph) ∧ w'.cell? ⟨ge, 1, none⟩ = some (.bool false) ∧ w'.cell? ⟨ge, 2, none⟩ = some (.bool true) ∧ w'.cell? ⟨ge, 3, none⟩ = some (.bool xw) ∧ w'.cell? ⟨ge, 4, none⟩ = some (.bool xe))
        (first
          | exact ⟨q1, q2, r0, r1, r2, r3, r4⟩
          | exact qq
          | exact qs _)
        (first
          | (go_at_call 60; refine (hmk.out _).mono ?_; rintro en w5 ⟨rfl, hb5'⟩
             have hb5 : Below wE.heap.size wE w5 := (Below.drew (Below.refl wE.heap.size wE)).trans hb5'
             have hgeE : ge < wE.heap.size := lt_of_block hen.out
             have qq : w5.cell? ⟨gb, 1, none⟩ = some (.slice (some ⟨g, 0, none⟩) m2 cap) ∧ w5.cell? ⟨gb, 2, none⟩ = some (.int .i64 mid2) ∧ w5.cell? ⟨ge, 0, none⟩ = some (.int .u64 ph) ∧ w5.cell? ⟨ge, 1, none⟩ = some (.bool false) ∧ w5.cell? ⟨ge, 2, none⟩ = some (.bool true) ∧ w5.cell? ⟨ge, 3, none⟩ = some (.bool xw) ∧ w5.cell? ⟨ge, 4, none⟩ = some (.bool xe) :=
               ⟨(hb5.cell hgE).trans q1, (hb5.cell hgE).trans q2, (hb5.cell hgeE).trans r0, (hb5.cell hgeE).trans r1, (hb5.cell hgeE).trans r2, (hb5.cell hgeE).trans r3, (hb5.cell hgeE).trans r4⟩
             have y2 : w5.cell? ⟨g, mid2 * 512 + k21, none⟩ = some u9 := (hb5.cell hltE).trans ct
             have y3 : w5.frozen? ⟨g, mid2 * 512 + k21, none⟩ = false := (hb5.frozen hltE).trans ft
             have qs : ∀ x, (w5.setCell ⟨g, mid2 * 512 + k21, none⟩ x).cell? ⟨gb, 1, none⟩ = some (.slice (some ⟨g, 0, none⟩) m2 cap) ∧ (w5.setCell ⟨g, mid2 * 512 + k21, none⟩ x).cell? ⟨gb, 2, none⟩ = some (.int .i64 mid2) ∧ (w5.setCell ⟨g, mid2 * 512 + k21, none⟩ x).cell? ⟨ge, 0, none⟩ = some (.int .u64 ph) ∧ (w5.setCell ⟨g, mid2 * 512 + k21, none⟩ x).cell? ⟨ge, 1, none⟩ = some (.bool false) ∧ (w5.setCell ⟨g, mid2 * 512 + k21, none⟩ x).cell? ⟨ge, 2, none⟩ = some (.bool true) ∧ (w5.setCell ⟨g, mid2 * 512 + k21, none⟩ x).cell? ⟨ge, 3, none⟩ = some (.bool xw) ∧ (w5.setCell ⟨g, mid2 * 512 + k21, none⟩ x).cell? ⟨ge, 4, none⟩ = some (.bool xe) := fun x =>
               ⟨(World.cell?_of_block (setCell_far hneg x)).trans qq.1, (World.cell?_of_block (setCell_far hneg x)).trans qq.2.1, (World.cell?_of_block (setCell_far hnee x)).trans qq.2.2.1, (World.cell?_of_block (setCell_far hnee x)).trans qq.2.2.2.1, (World.cell?_of_block (setCell_far hnee x)).trans qq.2.2.2.2.1, (World.cell?_of_block (setCell_far hnee x)).trans qq.2.2.2.2.2.1, (World.cell?_of_block (setCell_far hnee x)).trans qq.2.2.2.2.2.2⟩))
      all_goals
        have hst6 : Hid (BSt (w5.setCell ⟨g, mid2 * 512 + k21, none⟩ (.int .u64 kw)) B gb base (.slice (some ⟨g, 0, none⟩) m2 cap) m2 (F2.set (mid2 * 512 + k21) kw) mid2 low2 vt) := by
          refine ⟨hst4.out.le, (setCell_far hneg _).trans ((hb5.block gb hgE).trans hst4.out.cell), ?_⟩
          have := ownsRow_set (own_below hst4.out.own hb5) hi (.int .u64 kw)
          unfold u64V at this ⊢
          rw [List.map_set]
          exact this
        have hbel6 : Hid (Bl B w (w5.setCell ⟨g, mid2 * 512 + k21, none⟩ (.int .u64 kw))) := (hbel4.out.thenBelow hb5 (Nat.le_trans hB hbel4.out.size)).setOwn hBg (own_below hst4.out.own hb5) _ _
        clear qq qs y2 y3 q1 q2 r0 r1 r2 r3 r4 ct ft hb5 hb5'
        generalize w5.setCell ⟨g, mid2 * 512 + k21, none⟩ (.int .u64 kw) = w6 at *
        have z3 : w6.cell? ⟨gb, 3, none⟩ = some (.int .i64 low2) := cell_of_row w6 gb 3 _ _ _ hst6.out.cell
        have z4 : w6.cell? ⟨gb, 4, none⟩ = some (.int .u64 vt) := cell_of_row w6 gb 4 _ _ _ hst6.out.cell
        have f3 : w6.frozen? ⟨gb, 3, none⟩ = false := frozen_of_block hst6.out.cell
        have f4 : w6.frozen? ⟨gb, 4, none⟩ = false := frozen_of_block hst6.out.cell
        have hfin : Hid (BSp ((w6.setCell ⟨gb, 4, none⟩ (.int .u64 v)).setCell ⟨gb, 3, none⟩ (.int .i64 (0 : Nat))) B gb base (pageP base ⟨m, F, mid, low, vt⟩ v ph ⟨xv, xp, xn, true, xw, xe⟩) ∧ Bl B w ((w6.setCell ⟨gb, 4, none⟩ (.int .u64 v)).setCell ⟨gb, 3, none⟩ (.int .i64 (0 : Nat)))) := by
          refine ⟨⟨.slice (some ⟨g, 0, none⟩) m2 cap, ?_⟩, (hbel6.out.setCell hgl hst6.out.cell (by decide) 4 _).setCell hgl (hst6.out.setVirt v).cell (by decide) 3 _⟩
          have e : pageP base ⟨m, F, mid, low, vt⟩ v ph ⟨xv, xp, xn, true, xw, xe⟩ = ⟨m2, F2.set (mid2 * 512 + k21) kw, mid2, 0, v⟩ := by
            unfold pageP
            rw [if_pos rfl, hom, hkw.out, hk21'.out]
          rw [e]
          exact (hst6.out.setVirt v).setLow 0
        have e0 : ((0 : Nat) : Int) = 0 := rfl
        rw [e0] at hfin
        go_wp2
        go_returns
        exact ⟨rfl, hfin.out⟩
    | false =>
      go_upto_region 7 with (fail)
      clear e3 e4 e5
      generalize w3.alloc (.cells #[.int .u64 ph, .bool false, .bool false, .bool xw, .bool xe] 94) = wE at *
      generalize w3.heap.size = ge at *
      have d3 : wE.cell? ⟨gb, 3, none⟩ = some (.int .i64 low2) := cell_of_row wE gb 3 _ _ _ hst4.out.cell
      have d4 : wE.cell? ⟨gb, 4, none⟩ = some (.int .u64 vt) := cell_of_row wE gb 4 _ _ _ hst4.out.cell
      have d2' : wE.cell? ⟨gb, 2, none⟩ = some (.int .i64 mid2) := cell_of_row wE gb 2 _ _ _ hst4.out.cell
      have hchild2 := Lib.hid (child_any B gb base _ m2 F2 mid2 low2 vt mid2 (v / 2097152 % 512) wE hst4.out hmid2 (by omega) (by omega) hb0 hb1 (Nat.le_trans hB hbel4.out.size))
      rw [hv21] at hchild2
      have hgee : Hid (ge ≠ gb ∧ (Value.slice (some ⟨g, 0, none⟩) m2 cap).ownBlock ≠ some ge) := by
        refine ⟨?_, fun e => own_ne hst4.out.own hen.out (by decide) e.symm⟩
        rintro rfl
        have := hst4.out.cell
        rw [hen.out] at this; cases this
      have h4 : (low2 = 0 ∨ (¬ low2 = 0 ∧ ¬ (v : Int) / 2097152 = vt / 2097152)) ∨ (¬ low2 = 0 ∧ (v : Int) / 2097152 = vt / 2097152) := by omega
      rcases h4 with (h1 | ⟨h1, h2⟩) | ⟨h1, h2⟩
      · have hom2 : Hid (openLow base ⟨m2, F2, mid2, low2, vt⟩ v = ⟨m2 + 1, childF base F2 m2 mid2 (v / 2097152 % 512), mid2, m2, vt⟩) := by
          unfold openLow; rw [if_pos (.inl h1)]; rfl
        go_wp2_with fail
        refine hchild2.out.mono ?_
        rintro en w4 ⟨rfl, va3, hstA, hfrA⟩
        have k3 : w4.cell? ⟨gb, 3, none⟩ = some (.int .i64 low2) := cell_of_row w4 gb 3 _ _ _ hstA.cell
        have j3 : w4.frozen? ⟨gb, 3, none⟩ = false := frozen_of_block hstA.cell
        have hst5 : Hid (BSt (w4.setCell ⟨gb, 3, none⟩ (.int .i64 m2)) B gb base va3 (m2 + 1) (childF base F2 m2 mid2 (v / 2097152 % 512)) mid2 m2 vt) := hstA.setLow m2
        have hen5 : Hid ((w4.setCell ⟨gb, 3, none⟩ (.int .i64 m2)).heap[ge]? = some (.cells #[.int .u64 ph, .bool false, .bool false, .bool xw, .bool xe] 94 (0, 0))) :=
          (setCell_far hgee.out.1 _).trans ((hfrA.block _ (lt_of_block hen.out) (fun h => h.elim hgee.out.1 hgee.out.2)).trans hen.out)
        have hbel5 : Hid (Bl B w (w4.setCell ⟨gb, 3, none⟩ (.int .i64 m2))) :=
          (hbel4.out.thenFr hst4.out hfrA (Nat.le_trans hB hbel4.out.size)).setCell hgl hstA.cell (by decide) 3 _
        go_upto_region 9 with (fail)
        clear k3 j3 hstA hfrA d2' d3 d4 hchild2 hst4 hen hbel4 hcx4 hall hltg hBg
        generalize w4.setCell ⟨gb, 3, none⟩ (.int .i64 m2) = w5 at *
        clear hgbl
        clear wE
        rename World => wE
        have hst4 := hst5
        have hen := hen5
        have hbel4 := hbel5
        clear hst5 hen5 hbel5
        obtain ⟨m3, F3, low3, hq2⟩ : ∃ m3 F3 low3, Hid (BSt wE B gb base va3 m3 F3 mid2 low3 vt ∧ openLow base ⟨m2, F2, mid2, low2, vt⟩ v = ⟨m3, F3, mid2, low3, vt⟩ ∧ low3 < m3 ∧ m3 ≤ 90002) := ⟨m2 + 1, _, m2, hst4.out, hom2.out, by omega, by omega⟩
        clear hst4 hom2
        obtain ⟨hst4, hom2, hlow3, hm3⟩ := hq2.out
        clear hq2
        have hst4' := Lib.hid hst4
        obtain ⟨g, cap, rfl, hBg, hltg⟩ := hst4.own.form (by omega)
        clear hst4
        have hst4 := hst4'
        clear hst4'
        have q1 : wE.cell? ⟨gb, 1, none⟩ = some (.slice (some ⟨g, 0, none⟩) m3 cap) := cell_of_row wE gb 1 _ _ _ hst4.out.cell
        have q2 : wE.cell? ⟨gb, 3, none⟩ = some (.int .i64 low3) := cell_of_row wE gb 3 _ _ _ hst4.out.cell
        have r0 : wE.cell? ⟨ge, 0, none⟩ = some (.int .u64 ph) := cell_of_row wE ge 0 _ _ _ hen.out
        have r1 : wE.cell? ⟨ge, 1, none⟩ = some (.bool false) := cell_of_row wE ge 1 _ _ _ hen.out
        have r2 : wE.cell? ⟨ge, 2, none⟩ = some (.bool false) := cell_of_row wE ge 2 _ _ _ hen.out
        have r3 : wE.cell? ⟨ge, 3, none⟩ = some (.bool xw) := cell_of_row wE ge 3 _ _ _ hen.out
        have r4 : wE.cell? ⟨ge, 4, none⟩ = some (.bool xe) := cell_of_row wE ge 4 _ _ _ hen.out
        have hmidI : (low3 : Int) < (m3 : Int) := by omega
        have hmidI0 : (0 : Int) ≤ (low3 : Int) := by omega
        have hmk : Hid (∀ W, Calls Try.prog 60 #[.agg #[.int .u64 ph, .bool false, .bool false, .bool xw, .bool xe], .int .i64 2] W
            (fun en w' => en = .returned (.tuple #[.int .u64 (makeA ⟨ph, false, false, xw, xe⟩ 2).1, .int .i64 (makeA ⟨ph, false, false, xw, xe⟩ 2).2]) ∧ Below W.heap.size W w')) := fun W => make_any ⟨ph, false, false, xw, xe⟩ 2 hp0 hp1 W
        have hkw : Hid (leafW ph ⟨xv, xp, xn, false, xw, xe⟩ 2 = (makeA ⟨ph, false, false, xw, xe⟩ 2).1) := rfl
        generalize (makeA ⟨ph, false, false, xw, xe⟩ 2).1 = kw at *
        generalize (makeA ⟨ph, false, false, xw, xe⟩ 2).2 = no at *
        obtain ⟨k12, hk12⟩ : ∃ k12, k12 = v / 4096 % 512 := ⟨_, rfl⟩
        have hk512 : k12 < 512 := by omega
        rw [← hk12] at hv12
        have hkI : (k12 : Int) < 512 := by omega
        have hkI0 : (0 : Int) ≤ (k12 : Int) := by omega
        have hidx : (v : Int) / 4096 % 512 = (k12 : Int) := hv12.symm
        have hidxA : ((v : Int) / 4096).tmod 512 = (k12 : Int) := by rw [Int.tmod_eq_emod_of_nonneg (by omega), hv12]
        have hk12' := Lib.hid hk12
        clear hv12 hk12
        have hi : low3 * 512 + k12 < m3 * 512 := by omega
        obtain ⟨⟨u9, ct⟩, ft⟩ := own_cell hst4.out.own hi
        have hneg : gb ≠ g := fun e => own_ne hst4.out.own hst4.out.cell (by decide) (by rw [e]; rfl)
        have hnee : ge ≠ g := fun e => own_ne hst4.out.own hen.out (by decide) (by rw [e]; rfl)
        have hgE : gb < wE.heap.size := lt_of_block hst4.out.cell
        have hltE : g < wE.heap.size := (hst4.out.own.lt g rfl).2
        go_region_held3 (fun w' => w'.cell? ⟨gb, 1, none⟩ = some (.slice (some ⟨g, 0, none⟩) m3 cap) ∧ w'.cell? ⟨gb, 3, none⟩ = some (.int .i64 low3) ∧ w'.cell? ⟨ge, 0, none⟩ = some (.int .u64 ph) ∧ w'.cell? ⟨ge, 1, none⟩ = some (.bool false) ∧ w'.cell? ⟨ge, 2, none⟩ = some (.bool false) ∧ w'.cell? ⟨ge, 3, none⟩ = some (.bool xw) ∧ w'.cell? ⟨ge, 4, none⟩ = some (.bool xe))
          (first
            | exact ⟨q1, q2, r0, r1, r2, r3, r4⟩
            | exact qq
            | exact qs _)
          (first
            | (go_at_call 60; refine (hmk.out _).mono ?_; rintro en w5 ⟨rfl, hb5'⟩
               have hb5 : Below wE.heap.size wE w5 := (Below.drew (Below.refl wE.heap.size wE)).trans hb5'
               have hgeE : ge < wE.heap.size := lt_of_block hen.out
               have qq : w5.cell? ⟨gb, 1, none⟩ = some (.slice (some ⟨g, 0, none⟩) m3 cap) ∧ w5.cell? ⟨gb, 3, none⟩ = some (.int .i64 low3) ∧ w5.cell? ⟨ge, 0, none⟩ = some (.int .u64 ph) ∧ w5.cell? ⟨ge, 1, none⟩ = some (.bool false) ∧ w5.cell? ⟨ge, 2, none⟩ = some (.bool false) ∧ w5.cell? ⟨ge, 3, none⟩ = some (.bool xw) ∧ w5.cell? ⟨ge, 4, none⟩ = some (.bool xe) :=
                 ⟨(hb5.cell hgE).trans q1, (hb5.cell hgE).trans q2, (hb5.cell hgeE).trans r0, (hb5.cell hgeE).trans r1, (hb5.cell hgeE).trans r2, (hb5.cell hgeE).trans r3, (hb5.cell hgeE).trans r4⟩
               have y2 : w5.cell? ⟨g, low3 * 512 + k12, none⟩ = some u9 := (hb5.cell hltE).trans ct
               have y3 : w5.frozen? ⟨g, low3 * 512 + k12, none⟩ = false := (hb5.frozen hltE).trans ft
               have qs : ∀ x, (w5.setCell ⟨g, low3 * 512 + k12, none⟩ x).cell? ⟨gb, 1, none⟩ = some (.slice (some ⟨g, 0, none⟩) m3 cap) ∧ (w5.setCell ⟨g, low3 * 512 + k12, none⟩ x).cell? ⟨gb, 3, none⟩ = some (.int .i64 low3) ∧ (w5.setCell ⟨g, low3 * 512 + k12, none⟩ x).cell? ⟨ge, 0, none⟩ = some (.int .u64 ph) ∧ (w5.setCell ⟨g, low3 * 512 + k12, none⟩ x).cell? ⟨ge, 1, none⟩ = some (.bool false) ∧ (w5.setCell ⟨g, low3 * 512 + k12, none⟩ x).cell? ⟨ge, 2, none⟩ = some (.bool false) ∧ (w5.setCell ⟨g, low3 * 512 + k12, none⟩ x).cell? ⟨ge, 3, none⟩ = some (.bool xw) ∧ (w5.setCell ⟨g, low3 * 512 + k12, none⟩ x).cell? ⟨ge, 4, none⟩ = some (.bool xe) := fun x =>
                 ⟨(World.cell?_of_block (setCell_far hneg x)).trans qq.1, (World.cell?_of_block (setCell_far hneg x)).trans qq.2.1, (World.cell?_of_block (setCell_far hnee x)).trans qq.2.2.1, (World.cell?_of_block (setCell_far hnee x)).trans qq.2.2.2.1, (World.cell?_of_block (setCell_far hnee x)).trans qq.2.2.2.2.1, (World.cell?_of_block (setCell_far hnee x)).trans qq.2.2.2.2.2.1, (World.cell?_of_block (setCell_far hnee x)).trans qq.2.2.2.2.2.2⟩))
        all_goals
          have hst6 : Hid (BSt (w5.setCell ⟨g, low3 * 512 + k12, none⟩ (.int .u64 kw)) B gb base (.slice (some ⟨g, 0, none⟩) m3 cap) m3 (F3.set (low3 * 512 + k12) kw) mid2 low3 vt) := by
            refine ⟨hst4.out.le, (setCell_far hneg _).trans ((hb5.block gb hgE).trans hst4.out.cell), ?_⟩
            have := ownsRow_set (own_below hst4.out.own hb5) hi (.int .u64 kw)
            unfold u64V at this ⊢
            rw [List.map_set]
            exact this
          have hbel6 : Hid (Bl B w (w5.setCell ⟨g, low3 * 512 + k12, none⟩ (.int .u64 kw))) := (hbel4.out.thenBelow hb5 (Nat.le_trans hB hbel4.out.size)).setOwn hBg (own_below hst4.out.own hb5) _ _
          clear qq qs y2 y3 q1 q2 r0 r1 r2 r3 r4 ct ft hb5 hb5'
          generalize w5.setCell ⟨g, low3 * 512 + k12, none⟩ (.int .u64 kw) = w6 at *
          have z4 : w6.cell? ⟨gb, 4, none⟩ = some (.int .u64 vt) := cell_of_row w6 gb 4 _ _ _ hst6.out.cell
          have f4 : w6.frozen? ⟨gb, 4, none⟩ = false := frozen_of_block hst6.out.cell
          have hfin : Hid (BSp (w6.setCell ⟨gb, 4, none⟩ (.int .u64 v)) B gb base (pageP base ⟨m, F, mid, low, vt⟩ v ph ⟨xv, xp, xn, false, xw, xe⟩) ∧ Bl B w (w6.setCell ⟨gb, 4, none⟩ (.int .u64 v))) := by
            refine ⟨⟨.slice (some ⟨g, 0, none⟩) m3 cap, ?_⟩, hbel6.out.setCell hgl hst6.out.cell (by decide) 4 _⟩
            have e : pageP base ⟨m, F, mid, low, vt⟩ v ph ⟨xv, xp, xn, false, xw, xe⟩ = ⟨m3, F3.set (low3 * 512 + k12) kw, mid2, low3, v⟩ := by
              unfold pageP
              rw [if_neg (by simp), hom, hom2, hkw.out, hk12'.out]
            rw [e]
            exact hst6.out.setVirt v
          go_wp2
          go_returns
          exact ⟨rfl, hfin.out⟩
      · have hom2 : Hid (openLow base ⟨m2, F2, mid2, low2, vt⟩ v = ⟨m2 + 1, childF base F2 m2 mid2 (v / 2097152 % 512), mid2, m2, vt⟩) := by
          unfold openLow; rw [if_pos (.inr h2)]; rfl
        have hne21 : ((v : Int) / 2097152 != vt / 2097152) = true := by simp [h2]
        have hlI : ((low2 : Int) == 0) = false := by simp [h1]
        go_wp2_with fail
        refine hchild2.out.mono ?_
        rintro en w4 ⟨rfl, va3, hstA, hfrA⟩
        have k3 : w4.cell? ⟨gb, 3, none⟩ = some (.int .i64 low2) := cell_of_row w4 gb 3 _ _ _ hstA.cell
        have j3 : w4.frozen? ⟨gb, 3, none⟩ = false := frozen_of_block hstA.cell
        have hst5 : Hid (BSt (w4.setCell ⟨gb, 3, none⟩ (.int .i64 m2)) B gb base va3 (m2 + 1) (childF base F2 m2 mid2 (v / 2097152 % 512)) mid2 m2 vt) := hstA.setLow m2
        have hen5 : Hid ((w4.setCell ⟨gb, 3, none⟩ (.int .i64 m2)).heap[ge]? = some (.cells #[.int .u64 ph, .bool false, .bool false, .bool xw, .bool xe] 94 (0, 0))) :=
          (setCell_far hgee.out.1 _).trans ((hfrA.block _ (lt_of_block hen.out) (fun h => h.elim hgee.out.1 hgee.out.2)).trans hen.out)
        have hbel5 : Hid (Bl B w (w4.setCell ⟨gb, 3, none⟩ (.int .i64 m2))) :=
          (hbel4.out.thenFr hst4.out hfrA (Nat.le_trans hB hbel4.out.size)).setCell hgl hstA.cell (by decide) 3 _
        go_upto_region 9 with (fail)
        clear k3 j3 hstA hfrA d2' d3 d4 hchild2 hst4 hen hbel4 hcx4 hall hltg hBg
        generalize w4.setCell ⟨gb, 3, none⟩ (.int .i64 m2) = w5 at *
        clear hgbl
        clear wE
        rename World => wE
        have hst4 := hst5
        have hen := hen5
        have hbel4 := hbel5
        clear hst5 hen5 hbel5
        obtain ⟨m3, F3, low3, hq2⟩ : ∃ m3 F3 low3, Hid (BSt wE B gb base va3 m3 F3 mid2 low3 vt ∧ openLow base ⟨m2, F2, mid2, low2, vt⟩ v = ⟨m3, F3, mid2, low3, vt⟩ ∧ low3 < m3 ∧ m3 ≤ 90002) := ⟨m2 + 1, _, m2, hst4.out, hom2.out, by omega, by omega⟩
        clear hst4 hom2
        obtain ⟨hst4, hom2, hlow3, hm3⟩ := hq2.out
        clear hq2
        have hst4' := Lib.hid hst4
        obtain ⟨g, cap, rfl, hBg, hltg⟩ := hst4.own.form (by omega)
        clear hst4
        have hst4 := hst4'
        clear hst4'
        have q1 : wE.cell? ⟨gb, 1, none⟩ = some (.slice (some ⟨g, 0, none⟩) m3 cap) := cell_of_row wE gb 1 _ _ _ hst4.out.cell
        have q2 : wE.cell? ⟨gb, 3, none⟩ = some (.int .i64 low3) := cell_of_row wE gb 3 _ _ _ hst4.out.cell
        have r0 : wE.cell? ⟨ge, 0, none⟩ = some (.int .u64 ph) := cell_of_row wE ge 0 _ _ _ hen.out
        have r1 : wE.cell? ⟨ge, 1, none⟩ = some (.bool false) := cell_of_row wE ge 1 _ _ _ hen.out
        have r2 : wE.cell? ⟨ge, 2, none⟩ = some (.bool false) := cell_of_row wE ge 2 _ _ _ hen.out
        have r3 : wE.cell? ⟨ge, 3, none⟩ = some (.bool xw) := cell_of_row wE ge 3 _ _ _ hen.out
        have r4 : wE.cell? ⟨ge, 4, none⟩ = some (.bool xe) := cell_of_row wE ge 4 _ _ _ hen.out
        have hmidI : (low3 : Int) < (m3 : Int) := by omega
        have hmidI0 : (0 : Int) ≤ (low3 : Int) := by omega
        have hmk : Hid (∀ W, Calls Try.prog 60 #[.agg #[.int .u64 ph, .bool false, .bool false, .bool xw, .bool xe], .int .i64 2] W
            (fun en w' => en = .returned (.tuple #[.int .u64 (makeA ⟨ph, false, false, xw, xe⟩ 2).1, .int .i64 (makeA ⟨ph, false, false, xw, xe⟩ 2).2]) ∧ Below W.heap.size W w')) := fun W => make_any ⟨ph, false, false, xw, xe⟩ 2 hp0 hp1 W
        have hkw : Hid (leafW ph ⟨xv, xp, xn, false, xw, xe⟩ 2 = (makeA ⟨ph, false, false, xw, xe⟩ 2).1) := rfl
        generalize (makeA ⟨ph, false, false, xw, xe⟩ 2).1 = kw at *
        generalize (makeA ⟨ph, false, false, xw, xe⟩ 2).2 = no at *
        obtain ⟨k12, hk12⟩ : ∃ k12, k12 = v / 4096 % 512 := ⟨_, rfl⟩
        have hk512 : k12 < 512 := by omega
        rw [← hk12] at hv12
        have hkI : (k12 : Int) < 512 := by omega
        have hkI0 : (0 : Int) ≤ (k12 : Int) := by omega
        have hidx : (v : Int) / 4096 % 512 = (k12 : Int) := hv12.symm
        have hidxA : ((v : Int) / 4096).tmod 512 = (k12 : Int) := by rw [Int.tmod_eq_emod_of_nonneg (by omega), hv12]
        have hk12' := Lib.hid hk12
        clear hv12 hk12
        have hi : low3 * 512 + k12 < m3 * 512 := by omega
        obtain ⟨⟨u9, ct⟩, ft⟩ := own_cell hst4.out.own hi
        have hneg : gb ≠ g := fun e => own_ne hst4.out.own hst4.out.cell (by decide) (by rw [e]; rfl)
        have hnee : ge ≠ g := fun e => own_ne hst4.out.own hen.out (by decide) (by rw [e]; rfl)
        have hgE : gb < wE.heap.size := lt_of_block hst4.out.cell
        have hltE : g < wE.heap.size := (hst4.out.own.lt g rfl).2
        go_region_held3 (fun w' => w'.cell? ⟨gb, 1, none⟩ = some (.slice (some ⟨g, 0, none⟩) m3 cap) ∧ w'.cell? ⟨gb, 3, none⟩ = some (.int .i64 low3) ∧ w'.cell? ⟨ge, 0, none⟩ = some (.int .u64 ph) ∧ w'.cell? ⟨ge, 1, none⟩ = some (.bool false) ∧ w'.cell? ⟨ge, 2, none⟩ = some (.bool false) ∧ w'.cell? ⟨ge, 3, none⟩ = some (.bool xw) ∧ w'.cell? ⟨ge, 4, none⟩ = some (.bool xe))
          (first
            | exact ⟨q1, q2, r0, r1, r2, r3, r4⟩
            | exact qq
            | exact qs _)
          (first
            | (go_at_call 60; refine (hmk.out _).mono ?_; rintro en w5 ⟨rfl, hb5'⟩
               have hb5 : Below wE.heap.size wE w5 := (Below.drew (Below.refl wE.heap.size wE)).trans hb5'
               have hgeE : ge < wE.heap.size := lt_of_block hen.out
               have qq : w5.cell? ⟨gb, 1, none⟩ = some (.slice (some ⟨g, 0, none⟩) m3 cap) ∧ w5.cell? ⟨gb, 3, none⟩ = some (.int .i64 low3) ∧ w5.cell? ⟨ge, 0, none⟩ = some (.int .u64 ph) ∧ w5.cell? ⟨ge, 1, none⟩ = some (.bool false) ∧ w5.cell? ⟨ge, 2, none⟩ = some (.bool false) ∧ w5.cell? ⟨ge, 3, none⟩ = some (.bool xw) ∧ w5.cell? ⟨ge, 4, none⟩ = some (.bool xe) :=
                 ⟨(hb5.cell hgE).trans q1, (hb5.cell hgE).trans q2, (hb5.cell hgeE).trans r0, (hb5.cell hgeE).trans r1, (hb5.cell hgeE).trans r2, (hb5.cell hgeE).trans r3, (hb5.cell hgeE).trans r4⟩
               have y2 : w5.cell? ⟨g, low3 * 512 + k12, none⟩ = some u9 := (hb5.cell hltE).trans ct
               have y3 : w5.frozen? ⟨g, low3 * 512 + k12, none⟩ = false := (hb5.frozen hltE).trans ft
               have qs : ∀ x, (w5.setCell ⟨g, low3 * 512 + k12, none⟩ x).cell? ⟨gb, 1, none⟩ = some (.slice (some ⟨g, 0, none⟩) m3 cap) ∧ (w5.setCell ⟨g, low3 * 512 + k12, none⟩ x).cell? ⟨gb, 3, none⟩ = some (.int .i64 low3) ∧ (w5.setCell ⟨g, low3 * 512 + k12, none⟩ x).cell? ⟨ge, 0, none⟩ = some (.int .u64 ph) ∧ (w5.setCell ⟨g, low3 * 512 + k12, none⟩ x).cell? ⟨ge, 1, none⟩ = some (.bool false) ∧ (w5.setCell ⟨g, low3 * 512 + k12, none⟩ x).cell? ⟨ge, 2, none⟩ = some (.bool false) ∧ (w5.setCell ⟨g, low3 * 512 + k12, none⟩ x).cell? ⟨ge, 3, none⟩ = some (.bool xw) ∧ (w5.setCell ⟨g, low3 * 512 + k12, none⟩ x).cell? ⟨ge, 4, none⟩ = some (.bool xe) := fun x =>
                 ⟨(World.cell?_of_block (setCell_far hneg x)).trans qq.1, (World.cell?_of_block (setCell_far hneg x)).trans qq.2.1, (World.cell?_of_block (setCell_far hnee x)).trans qq.2.2.1, (World.cell?_of_block (setCell_far hnee x)).trans qq.2.2.2.1, (World.cell?_of_block (setCell_far hnee x)).trans qq.2.2.2.2.1, (World.cell?_of_block (setCell_far hnee x)).trans qq.2.2.2.2.2.1, (World.cell?_of_block (setCell_far hnee x)).trans qq.2.2.2.2.2.2⟩))
        all_goals
          have hst6 : Hid (BSt (w5.setCell ⟨g, low3 * 512 + k12, none⟩ (.int .u64 kw)) B gb base (.slice (some ⟨g, 0, none⟩) m3 cap) m3 (F3.set (low3 * 512 + k12) kw) mid2 low3 vt) := by
            refine ⟨hst4.out.le, (setCell_far hneg _).trans ((hb5.block gb hgE).trans hst4.out.cell), ?_⟩
            have := ownsRow_set (own_below hst4.out.own hb5) hi (.int .u64 kw)
            unfold u64V at this ⊢
            rw [List.map_set]
            exact this
          have hbel6 : Hid (Bl B w (w5.setCell ⟨g, low3 * 512 + k12, none⟩ (.int .u64 kw))) := (hbel4.out.thenBelow hb5 (Nat.le_trans hB hbel4.out.size)).setOwn hBg (own_below hst4.out.own hb5) _ _
          clear qq qs y2 y3 q1 q2 r0 r1 r2 r3 r4 ct ft hb5 hb5'
          generalize w5.setCell ⟨g, low3 * 512 + k12, none⟩ (.int .u64 kw) = w6 at *
          have z4 : w6.cell? ⟨gb, 4, none⟩ = some (.int .u64 vt) := cell_of_row w6 gb 4 _ _ _ hst6.out.cell
          have f4 : w6.frozen? ⟨gb, 4, none⟩ = false := frozen_of_block hst6.out.cell
          have hfin : Hid (BSp (w6.setCell ⟨gb, 4, none⟩ (.int .u64 v)) B gb base (pageP base ⟨m, F, mid, low, vt⟩ v ph ⟨xv, xp, xn, false, xw, xe⟩) ∧ Bl B w (w6.setCell ⟨gb, 4, none⟩ (.int .u64 v))) := by
            refine ⟨⟨.slice (some ⟨g, 0, none⟩) m3 cap, ?_⟩, hbel6.out.setCell hgl hst6.out.cell (by decide) 4 _⟩
            have e : pageP base ⟨m, F, mid, low, vt⟩ v ph ⟨xv, xp, xn, false, xw, xe⟩ = ⟨m3, F3.set (low3 * 512 + k12) kw, mid2, low3, v⟩ := by
              unfold pageP
              rw [if_neg (by simp), hom, hom2, hkw.out, hk12'.out]
            rw [e]
            exact hst6.out.setVirt v
          go_wp2
          go_returns
          exact ⟨rfl, hfin.out⟩
      · have hom2 : Hid (openLow base ⟨m2, F2, mid2, low2, vt⟩ v = ⟨m2, F2, mid2, low2, vt⟩) := by
          unfold openLow; rw [if_neg (fun h => h.elim h1 (fun h => h h2))]; rfl
        have hne21 : ((v : Int) / 2097152 != vt / 2097152) = false := by simp [h2]
        have hlI : ((low2 : Int) == 0) = false := by simp [h1]
        go_upto_region 9 with (fail)
        clear d2' d3 d4 hchild2 hcx4 hall hltg hBg hgbl
        obtain ⟨va3, hva3⟩ : ∃ y, y = Value.slice (some ⟨g, 0, none⟩) m2 cap := ⟨_, rfl⟩
        obtain ⟨m3, F3, low3, hq2⟩ : ∃ m3 F3 low3, Hid (BSt wE B gb base va3 m3 F3 mid2 low3 vt ∧ openLow base ⟨m2, F2, mid2, low2, vt⟩ v = ⟨m3, F3, mid2, low3, vt⟩ ∧ low3 < m3 ∧ m3 ≤ 90002) := ⟨m2, _, low2, by rw [hva3]; exact hst4.out, hom2.out, by omega, by omega⟩
        clear hst4 hom2 hva3
        obtain ⟨hst4, hom2, hlow3, hm3⟩ := hq2.out
        clear hq2
        have hst4' := Lib.hid hst4
        obtain ⟨g, cap, rfl, hBg, hltg⟩ := hst4.own.form (by omega)
        clear hst4
        have hst4 := hst4'
        clear hst4'
        have q1 : wE.cell? ⟨gb, 1, none⟩ = some (.slice (some ⟨g, 0, none⟩) m3 cap) := cell_of_row wE gb 1 _ _ _ hst4.out.cell
        have q2 : wE.cell? ⟨gb, 3, none⟩ = some (.int .i64 low3) := cell_of_row wE gb 3 _ _ _ hst4.out.cell
        have r0 : wE.cell? ⟨ge, 0, none⟩ = some (.int .u64 ph) := cell_of_row wE ge 0 _ _ _ hen.out
        have r1 : wE.cell? ⟨ge, 1, none⟩ = some (.bool false) := cell_of_row wE ge 1 _ _ _ hen.out
        have r2 : wE.cell? ⟨ge, 2, none⟩ = some (.bool false) := cell_of_row wE ge 2 _ _ _ hen.out
        have r3 : wE.cell? ⟨ge, 3, none⟩ = some (.bool xw) := cell_of_row wE ge 3 _ _ _ hen.out
        have r4 : wE.cell? ⟨ge, 4, none⟩ = some (.bool xe) := cell_of_row wE ge 4 _ _ _ hen.out
        have hmidI : (low3 : Int) < (m3 : Int) := by omega
        have hmidI0 : (0 : Int) ≤ (low3 : Int) := by omega
        have hmk : Hid (∀ W, Calls Try.prog 60 #[.agg #[.int .u64 ph, .bool false, .bool false, .bool xw, .bool xe], .int .i64 2] W
            (fun en w' => en = .returned (.tuple #[.int .u64 (makeA ⟨ph, false, false, xw, xe⟩ 2).1, .int .i64 (makeA ⟨ph, false, false, xw, xe⟩ 2).2]) ∧ Below W.heap.size W w')) := fun W => make_any ⟨ph, false, false, xw, xe⟩ 2 hp0 hp1 W
        have hkw : Hid (leafW ph ⟨xv, xp, xn, false, xw, xe⟩ 2 = (makeA ⟨ph, false, false, xw, xe⟩ 2).1) := rfl
        generalize (makeA ⟨ph, false, false, xw, xe⟩ 2).1 = kw at *
        generalize (makeA ⟨ph, false, false, xw, xe⟩ 2).2 = no at *
        obtain ⟨k12, hk12⟩ : ∃ k12, k12 = v / 4096 % 512 := ⟨_, rfl⟩
        have hk512 : k12 < 512 := by omega
        rw [← hk12] at hv12
        have hkI : (k12 : Int) < 512 := by omega
        have hkI0 : (0 : Int) ≤ (k12 : Int) := by omega
        have hidx : (v : Int) / 4096 % 512 = (k12 : Int) := hv12.symm
        have hidxA : ((v : Int) / 4096).tmod 512 = (k12 : Int) := by rw [Int.tmod_eq_emod_of_nonneg (by omega), hv12]
        have hk12' := Lib.hid hk12
        clear hv12 hk12
        have hi : low3 * 512 + k12 < m3 * 512 := by omega
        obtain ⟨⟨u9, ct⟩, ft⟩ := own_cell hst4.out.own hi
        have hneg : gb ≠ g := fun e => own_ne hst4.out.own hst4.out.cell (by decide) (by rw [e]; rfl)
        have hnee : ge ≠ g := fun e => own_ne hst4.out.own hen.out (by decide) (by rw [e]; rfl)
        have hgE : gb < wE.heap.size := lt_of_block hst4.out.cell
        have hltE : g < wE.heap.size := (hst4.out.own.lt g rfl).2
        go_region_held3 (fun w' => w'.cell? ⟨gb, 1, none⟩ = some (.slice (some ⟨g, 0, none⟩) m3 cap) ∧ w'.cell? ⟨gb, 3, none⟩ = some (.int .i64 low3) ∧ w'.cell? ⟨ge, 0, none⟩ = some (.int .u64 ph) ∧ w'.cell? ⟨ge, 1, none⟩ = some (.bool false) ∧ w'.cell? ⟨ge, 2, none⟩ = some (.bool false) ∧ w'.cell? ⟨ge, 3, none⟩ = some (.bool xw) ∧ w'.cell? ⟨ge, 4, none⟩ = some (.bool xe))
          (first
            | exact ⟨q1, q2, r0, r1, r2, r3, r4⟩
            | exact qq
            | exact qs _)
          (first
            | (go_at_call 60; refine (hmk.out _).mono ?_; rintro en w5 ⟨rfl, hb5'⟩
               have hb5 : Below wE.heap.size wE w5 := (Below.drew (Below.refl wE.heap.size wE)).trans hb5'
               have hgeE : ge < wE.heap.size := lt_of_block hen.out
               have qq : w5.cell? ⟨gb, 1, none⟩ = some (.slice (some ⟨g, 0, none⟩) m3 cap) ∧ w5.cell? ⟨gb, 3, none⟩ = some (.int .i64 low3) ∧ w5.cell? ⟨ge, 0, none⟩ = some (.int .u64 ph) ∧ w5.cell? ⟨ge, 1, none⟩ = some (.bool false) ∧ w5.cell? ⟨ge, 2, none⟩ = some (.bool false) ∧ w5.cell? ⟨ge, 3, none⟩ = some (.bool xw) ∧ w5.cell? ⟨ge, 4, none⟩ = some (.bool xe) :=
                 ⟨(hb5.cell hgE).trans q1, (hb5.cell hgE).trans q2, (hb5.cell hgeE).trans r0, (hb5.cell hgeE).trans r1, (hb5.cell hgeE).trans r2, (hb5.cell hgeE).trans r3, (hb5.cell hgeE).trans r4⟩
               have y2 : w5.cell? ⟨g, low3 * 512 + k12, none⟩ = some u9 := (hb5.cell hltE).trans ct
               have y3 : w5.frozen? ⟨g, low3 * 512 + k12, none⟩ = false := (hb5.frozen hltE).trans ft
               have qs : ∀ x, (w5.setCell ⟨g, low3 * 512 + k12, none⟩ x).cell? ⟨gb, 1, none⟩ = some (.slice (some ⟨g, 0, none⟩) m3 cap) ∧ (w5.setCell ⟨g, low3 * 512 + k12, none⟩ x).cell? ⟨gb, 3, none⟩ = some (.int .i64 low3) ∧ (w5.setCell ⟨g, low3 * 512 + k12, none⟩ x).cell? ⟨ge, 0, none⟩ = some (.int .u64 ph) ∧ (w5.setCell ⟨g, low3 * 512 + k12, none⟩ x).cell? ⟨ge, 1, none⟩ = some (.bool false) ∧ (w5.setCell ⟨g, low3 * 512 + k12, none⟩ x).cell? ⟨ge, 2, none⟩ = some (.bool false) ∧ (w5.setCell ⟨g, low3 * 512 + k12, none⟩ x).cell? ⟨ge, 3, none⟩ = some (.bool xw) ∧ (w5.setCell ⟨g, low3 * 512 + k12, none⟩ x).cell? ⟨ge, 4, none⟩ = some (.bool xe) := fun x =>
                 ⟨(World.cell?_of_block (setCell_far hneg x)).trans qq.1, (World.cell?_of_block (setCell_far hneg x)).trans qq.2.1, (World.cell?_of_block (setCell_far hnee x)).trans qq.2.2.1, (World.cell?_of_block (setCell_far hnee x)).trans qq.2.2.2.1, (World.cell?_of_block (setCell_far hnee x)).trans qq.2.2.2.2.1, (World.cell?_of_block (setCell_far hnee x)).trans qq.2.2.2.2.2.1, (World.cell?_of_block (setCell_far hnee x)).trans qq.2.2.2.2.2.2⟩))
        all_goals
          have hst6 : Hid (BSt (w5.setCell ⟨g, low3 * 512 + k12, none⟩ (.int .u64 kw)) B gb base (.slice (some ⟨g, 0, none⟩) m3 cap) m3 (F3.set (low3 * 512 + k12) kw) mid2 low3 vt) := by
            refine ⟨hst4.out.le, (setCell_far hneg _).trans ((hb5.block gb hgE).trans hst4.out.cell), ?_⟩
            have := ownsRow_set (own_below hst4.out.own hb5) hi (.int .u64 kw)
            unfold u64V at this ⊢
            rw [List.map_set]
            exact this
          have hbel6 : Hid (Bl B w (w5.setCell ⟨g, low3 * 512 + k12, none⟩ (.int .u64 kw))) := (hbel4.out.thenBelow hb5 (Nat.le_trans hB hbel4.out.size)).setOwn hBg (own_below hst4.out.own hb5) _ _
          clear qq qs y2 y3 q1 q2 r0 r1 r2 r3 r4 ct ft hb5 hb5'
          generalize w5.setCell ⟨g, low3 * 512 + k12, none⟩ (.int .u64 kw) = w6 at *
          have z4 : w6.cell? ⟨gb, 4, none⟩ = some (.int .u64 vt) := cell_of_row w6 gb 4 _ _ _ hst6.out.cell
          have f4 : w6.frozen? ⟨gb, 4, none⟩ = false := frozen_of_block hst6.out.cell
          have hfin : Hid (BSp (w6.setCell ⟨gb, 4, none⟩ (.int .u64 v)) B gb base (pageP base ⟨m, F, mid, low, vt⟩ v ph ⟨xv, xp, xn, false, xw, xe⟩) ∧ Bl B w (w6.setCell ⟨gb, 4, none⟩ (.int .u64 v))) := by
            refine ⟨⟨.slice (some ⟨g, 0, none⟩) m3 cap, ?_⟩, hbel6.out.setCell hgl hst6.out.cell (by decide) 4 _⟩
            have e : pageP base ⟨m, F, mid, low, vt⟩ v ph ⟨xv, xp, xn, false, xw, xe⟩ = ⟨m3, F3.set (low3 * 512 + k12) kw, mid2, low3, v⟩ := by
              unfold pageP
              rw [if_neg (by simp), hom, hom2, hkw.out, hk12'.out]
            rw [e]
            exact hst6.out.setVirt v
          go_wp2
          go_returns
          exact ⟨rfl, hfin.out⟩
end Go.Proofs.Ytaogndianciogaa.Mm
