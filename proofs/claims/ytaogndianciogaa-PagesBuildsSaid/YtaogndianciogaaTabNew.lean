/- A new table of the document: its value, a slice literal of it. -/
import Derived.Test.YtaogndianciogaaRefuse
namespace Go.Proofs.Ytaogndianciogaa.Mm
open Go.RowKit
set_option linter.unusedVariables false
set_option linter.unusedSimpArgs false
theorem infoTbl : ∃ Z : Array Value, Z = (newV (0, 0)).toArray ∧ (Try.prog.info? 109).map (fun i => (i.zero, i.size, i.bytes)) = some (some (.agg Z), 514, 4112) := ⟨_, rfl, by kernel_rfl⟩
set_option maxRecDepth 100000 in
theorem built_two (a b : Int) : Try.prog.built 109 [(0, .int .i64 a), (1, .int .u64 b)] = some (newV (a, b)).toArray := by kernel_rfl
set_option maxRecDepth 100000 in
theorem built_one (a : Int) : Try.prog.built 109 [(0, .int .i64 a)] = some (newV (a, 0)).toArray := by kernel_rfl
theorem newV_one (e : Int × Int) : ∀ u ∈ newV e, u.oneCell' = true := by
  intro u hu
  unfold newV at hu
  rcases List.mem_cons.1 hu with rfl | hu
  · rfl
  · rcases List.mem_cons.1 hu with rfl | hu
    · rfl
    · rw [(List.mem_replicate.1 hu).2]; rfl
theorem fill_tab (e : Int × Int) (f : Nat → Value) : Instr.fill (fun i => some (i * 514, 514)) ((Array.range (1 * 514)).map f) [(0, .agg (newV e).toArray)] = some (newV e).toArray := by
  have h := Great.fill_whole (s := 514) (by omega) [Value.agg (newV e).toArray] ((Array.range (1 * 514)).map f) (by
    intro v hv
    have : v = .agg (newV e).toArray := by simpa using hv
    rw [this]
    show (newV e).toArray.size = 514
    rw [List.size_toArray, newV_length]) (by simp)
  have h2 : (([Value.agg (newV e).toArray].zipIdx 0).map fun x => (x.2, x.1)) = [(0, .agg (newV e).toArray)] := rfl
  rw [h2] at h
  rw [h]
  simp [Value.cells]
section
variable {P : Program}
theorem wpList_build_as {ops : Array Oper} {rest : List Oper} {o : Oper} {a : Act} {w : World} {Q : Exit → Act → World → Prop} (hg : o.guard = none) (t : TypeId) (parts : Array (Nat × Operand)) (ho : o.op = .build t parts)
    (cells : Array Value) (hf : P.built t (parts.map fun (i, x) => (i, a.eval x)).toList = some cells)
    (h : wpList P ops Q rest (a.put o.dst (.agg cells)) w) : wpList P ops Q (o :: rest) a w :=
  wpList_build hg t parts ho (by rw [hf]; rfl) (by rw [hf]; exact h)
end
theorem parts_two (a : Act) (i j : Nat) (x y : Operand) : ((#[(i, x), (j, y)] : Array (Nat × Operand)).map fun (i, x) => (i, a.eval x)).toList = [(i, a.eval x), (j, a.eval y)] := by simp
theorem parts_1 (a : Act) (i : Nat) (x : Operand) : ((#[(i, x)] : Array (Nat × Operand)).map fun (i, x) => (i, a.eval x)).toList = [(i, a.eval x)] := by simp
theorem new_lies (w : World) (e : Int × Int) (T : TypeId) : ∀ (j : Nat) u, (newV e)[j]? = some u → (w.alloc (.cells (newV e).toArray T)).cell? ((⟨w.heap.size, 0, none⟩ : Addr).add j) = some u := by
  intro j u hj
  rw [Addr.add_lit]
  exact (cell_of_row _ _ _ _ _ _ (heap_alloc_new w (.cells (newV e).toArray T))).trans (by simpa using hj)
def zeroG (n : Nat) : List Int := List.replicate (n * 512) 0
theorem zeroG_succ (n : Nat) : zeroG n ++ List.replicate 512 0 = zeroG (n + 1) := by
  unfold zeroG
  exact List.replicate_append_replicate.trans (congrArg (fun m => List.replicate m (0 : Int)) (Nat.succ_mul n 512).symm)
theorem tbV_grow (D : Nm) (e : Int × Int) : tbV D (zeroG D.length) ++ newV e = tbV (D ++ [e]) (zeroG (D ++ [e]).length) := by
  rw [tbV_append (by unfold zeroG; rw [List.length_replicate]) e, zeroG_succ, List.length_append, List.length_singleton]
theorem tbV_start : newV (0, 0) = tbV [(0, 0)] (zeroG 1) := by
  have h := tbV_grow [] (0, 0)
  have h0 : tbV [] (zeroG 0) = [] := by simp [tbV]
  rw [show ([] : Nm).length = 0 from rfl, h0, List.nil_append] at h
  exact h
theorem andNot_2p (k : Nat) (hk : k ≤ 40) {v : Int} (h0 : 0 ≤ v) (h1 : v < 18446744073709551616) : bits .andNot .u64 v (2 ^ k - 1) = v / 2 ^ k * 2 ^ k := by
  have hp : (2 : Int) ^ k = ((2 ^ k : Nat) : Int) := by simp
  have hpos : 0 < 2 ^ k := Nat.two_pow_pos k
  have hle : 2 ^ k ≤ 2 ^ 40 := Nat.pow_le_pow_right (by omega) hk
  have h40 : (2 : Nat) ^ 40 = 1099511627776 := by decide
  rw [u64_andNot v (2 ^ k - 1) h0 h1 (by rw [hp]; omega) (by rw [hp]; omega)]
  have e1 : ((2 : Int) ^ k - 1).toNat = 2 ^ k - 1 := by rw [hp]; omega
  rw [e1]
  have e2 : 18446744073709551615 - (2 ^ k - 1) = (2 ^ (64 - k) - 1) * 2 ^ k := by
    have : 2 ^ (64 - k) * 2 ^ k = 18446744073709551616 := by rw [← Nat.pow_add, show 64 - k + k = 64 from by omega]
    rw [Nat.sub_mul, this]; omega
  rw [e2, nat_and_mask v.toNat (64 - k) k]
  have e3 : v.toNat / 2 ^ k % 2 ^ (64 - k) = v.toNat / 2 ^ k := by
    apply Nat.mod_eq_of_lt
    rw [Nat.div_lt_iff_lt_mul hpos, ← Nat.pow_add, show 64 - k + k = 64 from by omega]
    omega
  rw [e3, hp]
  have : (v.toNat : Int) = v := Int.toNat_of_nonneg h0
  rw [← this]
  norm_cast
theorem andNot_30 {v : Int} (h0 : 0 ≤ v) (h1 : v < 18446744073709551616) : bits .andNot .u64 v 1073741823 = v / 1073741824 * 1073741824 := andNot_2p 30 (by omega) h0 h1
theorem andNot_21 {v : Int} (h0 : 0 ≤ v) (h1 : v < 18446744073709551616) : bits .andNot .u64 v 2097151 = v / 2097152 * 2097152 := andNot_2p 21 (by omega) h0 h1
theorem tabW_bound (big : Bool) (e : Int) : ∀ (c : Nat) (v : Int) (D : Nm), D.length ≤ 1026 → (tabW big e c v D).length ≤ 1026 := by
  intro c
  induction c with
  | zero => intro v D h; exact h
  | succ c ih =>
    intro v D h
    unfold tabW
    split
    · rename_i hc
      refine ih _ _ ?_
      have key : ∀ (D : Nm) e, (addN D e).length ≤ D.length + 1 := by
        intro D e; unfold addN; split
        · omega
        · simp
      unfold winP
      split
      · have := key D (m30 v); omega
      · have := key D (m30 v); have := key (addN D (m30 v)) (m21 v); omega
    · exact h
theorem own_weak {w : World} {B B2 : Nat} {T : TypeId} {sz : Nat} {v : Value} {n : Nat} {xs : List Value} (h : w.ownsRow B T sz v n xs) (hB : B2 ≤ B) : w.ownsRow B2 T sz v n xs := by
  obtain ⟨h1, h2⟩ := h
  refine ⟨h1, ?_⟩
  rcases h2 with h | ⟨g, cap, cur, e, hb, rest⟩
  · exact .inl h
  · exact .inr ⟨g, cap, cur, e, Nat.le_trans hB hb, rest⟩
end Go.Proofs.Ytaogndianciogaa.Mm
