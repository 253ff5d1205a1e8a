/- pages.Build. -/
import Derived.Test.YtaogndianciogaaCount
import Derived.Test.YtaogndianciogaaPure
namespace Go.Proofs.Ytaogndianciogaa.Mm
open Go.RowKit
set_option linter.unusedVariables false
set_option linter.unusedSimpArgs false
theorem andNot_4095 {e : Int} (h0 : 0 ≤ e) (h1 : e < 18446744073709551616) : bits .andNot .u64 e 4095 = e / 4096 * 4096 := by
  rw [u64_andNot e 4095 h0 h1 (by omega) (by omega), show (4095 : Int).toNat = 4095 from rfl, show 18446744073709551615 - 4095 = 18446744073709547520 from rfl]
  have : e.toNat &&& 18446744073709547520 = e.toNat / 4096 % 4503599627370496 * 4096 := nat_and_mask e.toNat 52 12
  omega
theorem buildP_err {base : Int} {l : List Lf} {c : Int} (h : buildP base l = .error c) : c ≠ 0 := by
  unfold buildP at h
  split at h
  · rename_i h1
    cases h; exact h1
  · split at h
    · cases h
    · cases h; decide
theorem buildP_m {base : Int} {l : List Lf} {s : Bp} (h : buildP base l = .ok s) : True := trivial
/-- the tables of rows from base on, or why there are none -/
def tablesP (base : Int) (l : List Lf) : Except Int Bp :=
  match buildP (base / 4096 * 4096 % 4294967296) l with
  | .error c => .error c
  | .ok s => if base % 4096 ≠ 0 then .error 33 else if fitsP base s.m 4294967296 then .ok s else .error 34
set_option maxHeartbeats 4000000 in
set_option maxRecDepth 100000 in
theorem Build_any (v : Value) (n : Nat) (l : List Lf) (hok : ∀ x ∈ l, x.ok) (base : Int) (hb0 : 0 ≤ base) (hb1 : base < 18446744073709551616) (w : World) (hv : RdX w 6 v n (lfV l)) :
    Calls Try.prog 16 #[v, .int .u64 base] w (fun e w' => BuildPost w.heap.size w' e (tablesP base l) ∧ Below w.heap.size w w') := by
  have hb := Lib.hid (build_any v n l hok (base / 4096 * 4096 % 4294967296) (by omega) (by omega) w hv)
  have han := andNot_4095 hb0 hb1
  have ht : Hid (tablesP base l = match buildP (base / 4096 * 4096 % 4294967296) l with
    | .error c => .error c
    | .ok s => if base % 4096 ≠ 0 then .error 33 else if fitsP base s.m 4294967296 then .ok s else .error 34) := rfl
  clear hv
  have hmod : ((base / 4096 * 4096).tmod 4294967296) = base / 4096 * 4096 % 4294967296 := by rw [Int.tmod_eq_emod_of_nonneg (by omega)]
  have hbmod : base.tmod 4096 = base % 4096 := by rw [Int.tmod_eq_emod_of_nonneg hb0]
  generalize hT : tablesP base l = T at *
  clear hT
  have hne : ∀ c, buildP (base / 4096 * 4096 % 4294967296) l = .error c → c ≠ 0 := fun c h => buildP_err h
  generalize hr : buildP (base / 4096 * 4096 % 4294967296) l = r at *
  clear hr
  cases r with
  | error c =>
    go_enter Try.func16, Try.ntmps16
    go_wp2_with fail
    refine hb.out.mono ?_
    rintro en w1 ⟨hp, hbel'⟩
    have he : en = .returned (.tuple #[.slice none 0 0, .int .i64 c]) := hp
    subst he
    have hbel := Lib.hid hbel'
    clear hp hbel'
    have hc0 : (c != 0) = true := by simpa using hne c rfl
    clear hne
    go_wp2
    go_returns
    rw [ht.out]
    exact ⟨rfl, hbel.out⟩
  | ok s =>
    clear hne
    by_cases hbm : base % 4096 = 0
    · have hmI : (base % 4096 != 0) = false := by simp [hbm]
      go_enter Try.func16, Try.ntmps16
      go_wp2_with fail
      refine hb.out.mono ?_
      rintro en w1 ⟨⟨va, rfl, hown'⟩, hbel'⟩
      obtain ⟨A5, c5, rfl, hm9⟩ : ∃ A5 c5, va = .slice A5 s.m c5 ∧ s.m ≤ 9223372036854775807 := by
        obtain ⟨_, A, c, e, h1, h2, _⟩ := RdC.of_own hown'
        exact ⟨A, c, e, by unfold maxLen at h2; omega⟩
      have hbel := Lib.hid hbel'
      have hown := Lib.hid hown'
      have hend := Lib.hid (ends_any base s.m 4294967296 hb0 hb1 (by omega) (by omega) (by omega) (by omega) w1)
      clear hown' hbel'
      by_cases hf : fitsP base s.m 4294967296
      · rw [if_pos hf] at hend
        have ht2 : Hid (T = .ok s) := by
          show _ = _
          rw [ht.out]
          show (if base % 4096 ≠ 0 then _ else _) = _
          rw [if_neg (fun h => h hbm), if_pos hf]
        clear hf ht
        go_wp2_with (go_at_call 36; refine hend.out.mono ?_; rintro en w2 ⟨rfl, rfl⟩)
        go_returns
        rw [ht2.out]
        exact ⟨⟨_, rfl, hown.out⟩, hbel.out⟩
      · rw [if_neg hf] at hend
        have ht2 : Hid (T = .error 34) := by
          show _ = _
          rw [ht.out]
          show (if base % 4096 ≠ 0 then _ else _) = _
          rw [if_neg (fun h => h hbm), if_neg hf]
        clear hf ht
        go_wp2_with (go_at_call 36; refine hend.out.mono ?_; rintro en w2 ⟨rfl, rfl⟩)
        go_returns
        rw [ht2.out]
        exact ⟨rfl, hbel.out⟩
    · have hmI : (base % 4096 != 0) = true := by simp [hbm]
      have ht2 : Hid (T = .error 33) := by
        show _ = _
        rw [ht.out]
        show (if base % 4096 ≠ 0 then _ else _) = _
        rw [if_pos hbm]
      clear ht
      go_enter Try.func16, Try.ntmps16
      go_wp2_with fail
      refine hb.out.mono ?_
      rintro en w1 ⟨⟨va, rfl, hown'⟩, hbel'⟩
      have hbel := Lib.hid hbel'
      clear hown' hbel'
      go_wp2
      go_returns
      rw [ht2.out]
      exact ⟨rfl, hbel.out⟩
end Go.Proofs.Ytaogndianciogaa.Mm
