/- (*pages.builder).child. -/
import Derived.Test.YtaogndianciogaaRight
import Derived.Test.YtaogndianciogaaMakBL
import Derived.Test.YtaogndianciogaaFill
import Derived.Test.YtaogndianciogaaWriter
import Derived.Deep.DeepCutAuto
import Derived.Deep.RegionHeld3
namespace Go.Proofs.Ytaogndianciogaa.Mm
open Go.RowKit
set_option linter.unusedVariables false
set_option linter.unusedSimpArgs false
def u64V (l : List Int) : List Value := l.map (Value.int .u64)
theorem infoTab : ∃ Z : Array Value, Z = Array.replicate 512 (.int .u64 0) ∧ (Try.prog.info? 24).map (fun i => (i.zero, i.size, i.bytes)) = some (some (.agg Z), 512, 4096) := ⟨_, rfl, by kernel_rfl⟩
/-- the builder in memory: m tables, their entries F, one behind the other -/
structure BSt (w : World) (B gb : Nat) (base : Int) (va : Value) (m : Nat) (F : List Int) (mid low : Nat) (virt : Int) : Prop where
  le : B ≤ gb
  cell : w.heap[gb]? = some (.cells #[.int .u64 base, va, .int .i64 mid, .int .i64 low, .int .u64 virt] 104 (0, 0))
  own : w.ownsRow B 24 512 va m (u64V F)
/-- the word of an entry that names a table -/
def kidW (base : Int) (m : Nat) : Int := (makeA ⟨(base + m * 4096) % 4294967296, true, false, false, false⟩ 0).1
def childF (base : Int) (F : List Int) (m of_ e : Nat) : List Int := (F ++ List.replicate 512 0).set (of_ * 512 + e) (kidW base m)
theorem ownsRow_set {w : World} {B : Nat} {T : TypeId} {g n cap sz : Nat} {xs : List Value} (h : w.ownsRow B T sz (.slice (some ⟨g, 0, none⟩) n cap) n xs) {i : Nat} (hi : i < n * sz) (u : Value) :
    (w.setCell ⟨g, i, none⟩ u).ownsRow B T sz (.slice (some ⟨g, 0, none⟩) n cap) n (xs.set i u) := by
  obtain ⟨h1, h2⟩ := h
  rcases h2 with ⟨e, _⟩ | ⟨g', cap', cur, e, hb, hg, hnc, hcm, hcs, htake⟩
  · cases e
  · cases e
    refine ⟨by simpa using h1, .inr ⟨g, cap, cur.setIfInBounds i u, rfl, hb, setCell_block hg _, hnc, hcm, by simpa using hcs, ?_⟩⟩
    rw [Array.toList_setIfInBounds, List.take_set, htake]
theorem own_cell {w : World} {B : Nat} {T : TypeId} {g n cap sz : Nat} {xs : List Value} (h : w.ownsRow B T sz (.slice (some ⟨g, 0, none⟩) n cap) n xs) {i : Nat} (hi : i < n * sz) :
    (∃ u, w.cell? ⟨g, i, none⟩ = some u) ∧ w.frozen? ⟨g, i, none⟩ = false := by
  obtain ⟨h1, h2⟩ := h
  rcases h2 with ⟨e, _⟩ | ⟨g', cap', cur, e, hb, hg, hnc, hcm, hcs, htake⟩
  · cases e
  · cases e
    have hle : n * sz ≤ cap * sz := Nat.mul_le_mul_right _ hnc
    exact ⟨⟨cur[i]'(by omega), (cell_of_row w g i cur T (0, 0) hg).trans (Array.getElem?_eq_getElem (by omega))⟩, frozen_of_block hg⟩
set_option maxHeartbeats 8000000 in
set_option maxRecDepth 100000 in
theorem child_any (B gb : Nat) (base : Int) (va : Value) (m : Nat) (F : List Int) (mid low : Nat) (virt : Int) (of_ e : Nat) (w : World) (hs : BSt w B gb base va m F mid low virt)
    (hof : of_ < m) (he : e < 512) (hm : m ≤ 100000) (hb0 : 0 ≤ base) (hb1 : base < 4294967296) (hB : B ≤ w.heap.size) :
    Calls Try.prog 59 #[.pointer (some ⟨gb, 0, none⟩), .int .i64 of_, .int .u64 e] w
      (fun en w' => en = .returned (.int .i64 m) ∧ ∃ va', BSt w' B gb base va' (m + 1) (childF base F m of_ e) mid low virt ∧ Fr w.heap.size (fun k => k = gb ∨ va.ownBlock = some k) w w') := by
  obtain ⟨Z, hZ, hinf⟩ := infoTab
  obtain ⟨iT, hiT, hzT, hsT, hbT⟩ := info_parts hinf
  have hzv : ∀ w, (zeroValue 24).run Try.prog w = .ok (.agg Z) w := by
    rw [hZ]; exact fun w => by kernel_rfl
  have hZs : Z.size = 512 := by rw [hZ]; simp
  have hZl : Hid (Z.toList = u64V (List.replicate 512 0)) := by rw [hZ]; show _ = _; simp [u64V]
  have hZ1 : Hid (∀ u ∈ Z.toList, u.oneCell' = true) := by
    rw [hZl.out]
    intro u hu
    simp only [u64V, List.mem_map] at hu
    obtain ⟨x, _, rfl⟩ := hu
    rfl
  have hfill : Hid (Instr.fill (fun i => some (i * iT.size, iT.size)) ((Array.range (1 * iT.size)).map ((Value.agg Z).cells[· % (Value.agg Z).cells.size]!)) [(0, .agg Z)] = some Z) := by
    rw [hsT, hZ]; exact fill_zero
  clear hinf hZ
  obtain ⟨A, c, rfl, hc⟩ : ∃ A c, va = .slice A m c ∧ c ≤ 9223372036854775807 := by
    obtain ⟨_, A, c, e, _, hm, _⟩ := RdC.of_own hs.own
    exact ⟨A, c, e, by unfold maxLen at hm; omega⟩
  have hgl := hs.le
  have hlt := lt_of_block hs.cell
  have c0 : w.cell? ⟨gb, 0, none⟩ = some (.int .u64 base) := cell_of_row w gb 0 _ _ _ hs.cell
  have c1 : w.cell? ⟨gb, 1, none⟩ = some (.slice A m c) := cell_of_row w gb 1 _ _ _ hs.cell
  have f1 : w.frozen? ⟨gb, 1, none⟩ = false := frozen_of_block hs.cell
  have hs' := Lib.hid hs
  clear hs
  go_enter Try.func59, Try.ntmps59
  have hsz1 : ¬ 1 * iT.size > 2 ^ 24 := by rw [hsT]; decide
  have hsz2 : ¬ 1 * iT.size = 0 := by rw [hsT]; decide
  have hown1 := Lib.hid (own_below hs'.out.own ((Below.refl w.heap.size w).alloc (Nat.le_refl _) (.cells Z 24)))
  have hZt : Hid (Z.toList.length = 1 * 512) := by show _ = _; simpa using hZs
  have hnews : Hid (∀ (j : Nat) u, Z.toList[j]? = some u → (w.alloc (.cells Z 24)).cell? ((⟨w.heap.size, 0, none⟩ : Addr).add j) = some u) := by
    intro j u hj
    rw [Addr.add_lit]
    exact (cell_of_row _ _ _ _ _ _ (heap_alloc_new w (.cells Z 24))).trans (by simpa using hj)
  have hm1 : m + 1 ≤ maxLen := by unfold maxLen; omega
  have hm2 : (m + 1) * 4096 ≤ 140737488355328 := by omega
  have hBa : B ≤ (w.alloc (.cells Z 24)).heap.size := by simp; omega
  go_wp2_with (first
    | (refine wpList_buildSlice rfl 42 24 1 _ rfl Z iT (.agg Z) Try.underlying42 hiT hzT hsz1 hsz2 (by rw [parts_one]; exact hfill.out) ?_)
    | (at_builtin; refine wpList_append_lies _ rfl (.tmp 18) (.tmp 20) 42 rfl B 24 iT (.agg Z) 512 4096 Try.underlying42 hiT hzT hsT hbT hZs (by decide) (.slice A m c) m (u64V F) rfl hown1.out ⟨w.heap.size, 0, none⟩ 1 1 Z.toList rfl hZt.out hnews.out hZ1.out (by decide) hm1 hm2 hBa (w.heap.size + 1) (by simp) ?_
       intro g1 cap1 w1 hown' hgrow' hat' hltg1
       have hBg1 : B ≤ g1 := (hown'.lt g1 rfl).1
       have hat : Hid ((Value.slice A m c).ownBlock = some g1 ∨ g1 = w.heap.size + 1) := hat'
       clear hat'
       have hown2 := Lib.hid hown'
       have hgr := Lib.hid hgrow'
       clear hown' hgrow'
       have hb1 : w1.heap[gb]? = some (.cells #[.int .u64 base, .slice A m c, .int .i64 mid, .int .i64 low, .int .u64 virt] 104 (0, 0)) := (hgr.out.block gb (by simp; omega) (own_ne hs'.out.own hs'.out.cell (by decide))).trans ((Below.heap_alloc _ _ _ (by omega)).trans hs'.out.cell)
       have d0 : w1.cell? ⟨gb, 1, none⟩ = some (.slice A m c) := cell_of_row w1 gb 1 _ _ _ hb1
       have d1 : w1.frozen? ⟨gb, 1, none⟩ = false := frozen_of_block hb1
       have hb1' := Lib.hid hb1
       have hcap1 : m + 1 ≤ cap1 ∧ cap1 ≤ 9223372036854775807 := by
         obtain ⟨_, A', c', e', hc1, hc2, _⟩ := RdC.of_own hown2.out
         cases e'
         exact ⟨hc1, by unfold maxLen at hc2; omega⟩
       obtain ⟨hcapA, hcapB⟩ := hcap1
       have hofI : (of_ : Int) + 1 ≤ (cap1 : Int) := by omega
       have hofI2 : (of_ : Int) ≤ (cap1 : Int) := by omega
       clear hb1))
  have hne1 : gb ≠ g1 := by
    rintro rfl
    have h1 := own_ne hs'.out.own hs'.out.cell (by decide)
    rcases hown2.out.2 with ⟨e9, _⟩ | ⟨g9, cap9, cur9, e9, _, hg9, _⟩
    · cases e9
    · cases e9
      rw [hb1'.out] at hg9; cases hg9
  have hb2 := Lib.hid (setCell_block hb1'.out (i := 1) (.slice (some ⟨g1, 0, none⟩) (m + 1) cap1))
  have hown3 : Hid ((w1.setCell ⟨gb, 1, none⟩ (.slice (some ⟨g1, 0, none⟩) (m + 1) cap1)).ownsRow B 24 512 (.slice (some ⟨g1, 0, none⟩) (m + 1) cap1) (m + 1) (u64V (F ++ List.replicate 512 0))) := by
    have := own_far (g := gb) (i := 1) hown2.out hb1'.out (by decide) (.slice (some ⟨g1, 0, none⟩) (m + 1) cap1)
    rw [hZl.out] at this
    show World.ownsRow _ _ _ _ _ _ _
    unfold u64V at this ⊢
    rw [List.map_append]
    exact this
  have hbel2 : Hid (Fr w.heap.size (fun k => k = gb ∨ (Value.slice A m c).ownBlock = some k) w (w1.setCell ⟨gb, 1, none⟩ (.slice (some ⟨g1, 0, none⟩) (m + 1) cap1))) :=
    (((Fr.refl w.heap.size _ w).alloc (Nat.le_refl _) _).grown hgr.out (by simp) (fun k e => .inr (.inr e))).setCell (.inr (.inl rfl)) _
  clear d0 d1 c0 c1 f1 hnews hZl hZ1 hfill hown1 hown2 hgr hb1' hZt
  generalize w1.setCell ⟨gb, 1, none⟩ (.slice (some ⟨g1, 0, none⟩) (m + 1) cap1) = w2 at *
  have c0 : w2.cell? ⟨gb, 0, none⟩ = some (.int .u64 base) := cell_of_row w2 gb 0 _ _ _ hb2.out
  have hi : of_ * 512 + e < (m + 1) * 512 := by omega
  obtain ⟨⟨u9, ct⟩, ft⟩ := own_cell hown3.out hi
  have hltg := lt_of_block hb2.out
  have hltg1 : g1 < w2.heap.size := (hown3.out.lt g1 rfl).2
  have hfr : (IntKind.u64.wrap (base + IntKind.u64.wrap (IntKind.u64.wrap (m : Int) * 4096))).tmod 4294967296 = (base + (m : Int) * 4096) % 4294967296 := by
    have e : ∀ x, IntKind.u64.wrap x = x % 18446744073709551616 := fun x => by simp [IntKind.wrap, IntKind.signed, IntKind.bits]
    rw [e, e, e, Int.tmod_eq_emod_of_nonneg (by omega)]
    omega
  have hmk : Hid (∀ W, Calls Try.prog 60 #[.agg #[.int .u64 ((IntKind.u64.wrap (base + IntKind.u64.wrap (IntKind.u64.wrap (m : Int) * 4096))).tmod 4294967296), .bool true, .bool false, .bool false, .bool false], .int .i64 0] W
      (fun en w' => en = .returned (.tuple #[.int .u64 (kidW base m), .int .i64 (makeA ⟨(base + m * 4096) % 4294967296, true, false, false, false⟩ 0).2]) ∧ Below W.heap.size W w')) :=
    fun W => by rw [hfr]; exact make_any ⟨(base + m * 4096) % 4294967296, true, false, false, false⟩ 0 (by show 0 ≤ (base + m * 4096) % 4294967296; omega) (by show (base + m * 4096) % 4294967296 < 18446744073709551616; omega) W
  clear hfr
  generalize (makeA ⟨(base + m * 4096) % 4294967296, true, false, false, false⟩ 0).2 = no at *
  have hkw : childF base F m of_ e = (F ++ List.replicate 512 0).set (of_ * 512 + e) (kidW base m) := rfl
  have hkw' := Lib.hid hkw
  clear hkw
  generalize kidW base m = kw at *
  have heI : (e : Int) < 512 := by omega
  have heI0 : (0 : Int) ≤ (e : Int) := by omega
  go_region_held3 (fun w' => w'.cell? ⟨gb, 0, none⟩ = some (.int .u64 base))
    (first
      | exact c0
      | exact e0
      | exact e1 _)
    (first
      | (go_at_call 60; refine (hmk.out _).mono ?_; rintro en w3 ⟨rfl, hb3'⟩
         have hb3 : Below w2.heap.size w2 w3 := (Below.drew (Below.refl w2.heap.size w2)).trans hb3'
         have e0 : w3.cell? ⟨gb, 0, none⟩ = some (.int .u64 base) := (hb3.cell hltg).trans c0
         have e1 : ∀ x, (w3.setCell ⟨g1, of_ * 512 + e, none⟩ x).cell? ⟨gb, 0, none⟩ = some (.int .u64 base) := fun x => (World.cell?_of_block (w := w3) (setCell_far hne1 x)).trans e0
         have e2 : w3.cell? ⟨g1, of_ * 512 + e, none⟩ = some u9 := (hb3.cell hltg1).trans ct
         have e3 : w3.frozen? ⟨g1, of_ * 512 + e, none⟩ = false := (hb3.frozen hltg1).trans ft))
  all_goals
    have hb4 : (w3.setCell ⟨g1, of_ * 512 + e, none⟩ (.int .u64 kw)).heap[gb]? = some (.cells #[.int .u64 base, .slice (some ⟨g1, 0, none⟩) (m + 1) cap1, .int .i64 mid, .int .i64 low, .int .u64 virt] 104 (0, 0)) :=
      (setCell_far hne1 _).trans ((hb3.block gb hltg).trans hb2.out)
    have hown4 : (w3.setCell ⟨g1, of_ * 512 + e, none⟩ (.int .u64 kw)).ownsRow B 24 512 (.slice (some ⟨g1, 0, none⟩) (m + 1) cap1) (m + 1) (u64V (childF base F m of_ e)) := by
      have := ownsRow_set (own_below hown3.out hb3) hi (.int .u64 kw)
      rw [hkw'.out]
      unfold u64V at this ⊢
      rw [List.map_set]
      exact this
    have hfin : Hid (∃ va', BSt (w3.setCell ⟨g1, of_ * 512 + e, none⟩ (.int .u64 kw)) B gb base va' (m + 1) (childF base F m of_ e) mid low virt ∧ Fr w.heap.size (fun k => k = gb ∨ (Value.slice A m c).ownBlock = some k) w (w3.setCell ⟨g1, of_ * 512 + e, none⟩ (.int .u64 kw))) :=
      ⟨_, ⟨hgl, hb4, hown4⟩, (hbel2.out.trans (Fr.of_below (hb3.mono hbel2.out.size))).setCell (hat.out.elim (fun h => .inr (.inr h)) (fun h => .inl (by show w.heap.size ≤ g1; omega))) _⟩
    clear hb4 hown4
    go_wp2
    go_returns
    exact ⟨rfl, hfin.out⟩
end Go.Proofs.Ytaogndianciogaa.Mm
