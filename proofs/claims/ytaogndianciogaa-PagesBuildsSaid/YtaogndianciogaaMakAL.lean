/- A map of three entries and the step of a loop over it. -/
import Derived.Test.YtaogndianciogaaMakL
namespace Go.Proofs.Ytaogndianciogaa
open Go.RowKit Go.Maps
set_option linter.unusedSimpArgs false
set_option linter.unusedVariables false
/-- a composite literal's entry: 'm[k] = v' at the operation -/
theorem bcell {W w1 : World} (hb : Below W.heap.size W w1) : (∀ b o, b < W.heap.size → w1.cell? ⟨b, o, none⟩ = W.cell? ⟨b, o, none⟩) ∧ (∀ b o, b < W.heap.size → w1.frozen? ⟨b, o, none⟩ = W.frozen? ⟨b, o, none⟩) :=
  ⟨fun b o h => hb.cell (p := ⟨b, o, none⟩) h, fun b o h => hb.frozen (p := ⟨b, o, none⟩) h⟩
theorem wpList_insert_own {H : Type} {P : Program} (w : World) {ops : Array Oper} {rest : List Oper} {o : Oper} {a : Act} {Q : Exit → Act → World → Prop}
    (hg : o.guard = none) (m x v : Operand) (t : TypeId) (hop : o.op = Op.insert t m x v)
    (k e : TypeId) (K : Keyed P k) (ht : P.underlying t = some (.map k e)) (R : Value → Option (DataW H × List MemPlace)) (b n : Nat) (D : DataW H)
    (hm : a.eval m = .map (some b)) (hown : w.ownsMap P k R b n D) (hn : n < maxLen) (key val : Value) (kl : Lit) (hx : a.eval x = key) (hv : a.eval v = val) (hkey : keyOf P k key = some kl)
    (d : DataW H) (ps : List MemPlace) (hval : R val = some (d, ps))
    (hK : ∀ w', w'.ownsMap P k R b (n + 1) (D.put kl d) → w.grownBy w' (some b) → wpList P ops Q rest (a.put o.dst undef) w') :
    wpList P ops Q (o :: rest) a w := by
  refine wpList_plain hg fun K' hK' => ?_
  obtain ⟨w', hrun, r1, r2⟩ := hown.update K ht hn hkey hval
  unfold Oper.wp
  simp [execOp, hop, hm, hx, hv, hrun, Result.andThen]
  exact hK' _ _ (hK w' r1 r2)
theorem plainElem_bool_inv {H : Type} {P : Program} {e : TypeId} (he : P.underlying e = some .bool) {v : Value} {z : DataW H × List MemPlace} (h : plainElem P e v = some z) : ∃ a, v = .bool a ∧ z = (.lit (.bool a), []) := by
  unfold plainElem at h
  rw [he] at h
  cases v <;> simp at h
  subst h
  exact ⟨_, rfl, rfl⟩
theorem lawU64 : Keyed Try.prog 22 := int_keyed Try.underlying22
def K2 : Lit := .int .u64 2
def K4 : Lit := .int .u64 4
def K8 : Lit := .int .u64 8
/-- the map of Make's composite literal -/
def mk3 (r e b : Bool) : DataW Unit := (((DataW.map []).put K2 (.lit (.bool r))).put K4 (.lit (.bool e))).put K8 (.lit (.bool b))
theorem mk3_eq (r e b : Bool) : mk3 r e b = .map [(K2, .lit (.bool r)), (K4, .lit (.bool e)), (K8, .lit (.bool b))] := by
  rfl
theorem mk3_has (r e b : Bool) (kl : Lit) (h : Maps.has (mk3 r e b) kl = true) : kl = K2 ∨ kl = K4 ∨ kl = K8 := by
  rw [mk3_eq] at h
  simp only [Maps.has, List.any_cons, List.any_nil, Bool.or_false, Bool.or_eq_true] at h
  rcases h with h | h | h
  · exact .inl (WideAt.sameKey_eq h).symm
  · exact .inr (.inl (WideAt.sameKey_eq h).symm)
  · exact .inr (.inr (WideAt.sameKey_eq h).symm)
theorem mk3_at2 (r e b : Bool) (zd : DataW Unit) : (mk3 r e b).atKey K2 zd = .lit (.bool r) := by rfl
theorem mk3_at4 (r e b : Bool) (zd : DataW Unit) : (mk3 r e b).atKey K4 zd = .lit (.bool e) := by rfl
theorem mk3_at8 (r e b : Bool) (zd : DataW Unit) : (mk3 r e b).atKey K8 zd = .lit (.bool b) := by rfl
/-- the step of the loop over it: nothing is left, or one of the three entries has come -/
theorem wpList_next_mk3 (w : World) {ops : Array Oper} {rest : List Oper} {o : Oper} {a : Act} {Q : Exit → Act → World → Prop}
    (hg : o.guard = none) (it : Operand) (hop : o.op = Op.next it false) (B R n : Nat) (r e b : Bool) (left : Lit → Bool) (cnt : Nat)
    (hit : a.eval it = .pointer (some ⟨R, 0, none⟩)) (h : w.ranges Try.prog 22 (plainElem Try.prog 4) B R n (mk3 r e b) left cnt) (hin : ∀ kl, left kl = true → kl = K2 ∨ kl = K4 ∨ kl = K8)
    (hDone : (∀ kl, left kl = false) → wpList Try.prog ops Q rest (a.put o.dst (.tuple #[.bool false])) w)
    (h2 : ∀ (w' : World) (cnt' : Nat), left K2 = true → w'.ranges Try.prog 22 (plainElem Try.prog 4) B R n (mk3 r e b) (fun z => left z && !z.sameKey K2) cnt' → cnt' < cnt →
      w.grownBy w' (some R) → (Instr.entry (.pointer (some ⟨R, 0, none⟩))).run Try.prog w' = .ok (.tuple #[.int .u64 2, .bool r]) w' → wpList Try.prog ops Q rest (a.put o.dst (.tuple #[.bool true, .int .u64 2, .bool r])) w')
    (h4 : ∀ (w' : World) (cnt' : Nat), left K4 = true → w'.ranges Try.prog 22 (plainElem Try.prog 4) B R n (mk3 r e b) (fun z => left z && !z.sameKey K4) cnt' → cnt' < cnt →
      w.grownBy w' (some R) → (Instr.entry (.pointer (some ⟨R, 0, none⟩))).run Try.prog w' = .ok (.tuple #[.int .u64 4, .bool e]) w' → wpList Try.prog ops Q rest (a.put o.dst (.tuple #[.bool true, .int .u64 4, .bool e])) w')
    (h8 : ∀ (w' : World) (cnt' : Nat), left K8 = true → w'.ranges Try.prog 22 (plainElem Try.prog 4) B R n (mk3 r e b) (fun z => left z && !z.sameKey K8) cnt' → cnt' < cnt →
      w.grownBy w' (some R) → (Instr.entry (.pointer (some ⟨R, 0, none⟩))).run Try.prog w' = .ok (.tuple #[.int .u64 8, .bool b]) w' → wpList Try.prog ops Q rest (a.put o.dst (.tuple #[.bool true, .int .u64 8, .bool b])) w') :
    wpList Try.prog ops Q (o :: rest) a w := by
  refine wpList_next_ranges w hg it hop 22 lawU64 _ (Value.int .u64) Value.bool (fun key kl hkey => by obtain ⟨x, rfl, _⟩ := Maps.keyOf_int_inv Try.underlying22 hkey; exact ⟨x, rfl⟩) (fun v y hv => by obtain ⟨c, rfl, _⟩ := plainElem_bool_inv Try.underlying4 hv; exact ⟨c, rfl⟩) B R n _ left cnt hit h (fun _ hl => hDone hl) ?_
  intro x c kl y w1 cnt1 hkey hlx hR hat hrg1 hlt hg1 hs1 hen
  obtain ⟨x', ex, rfl, hwx⟩ := Maps.keyOf_int_inv Try.underlying22 hkey
  cases ex
  obtain ⟨c', ec, rfl⟩ := plainElem_bool_inv Try.underlying4 hR
  cases ec
  have hat := hat .nil
  rcases hin _ hlx with hk | hk | hk
  · rw [hk, mk3_at2] at hat
    obtain rfl : r = c := by simpa using hat
    obtain rfl : x = 2 := by simpa [K2] using hk
    exact h2 w1 cnt1 hlx hrg1 hlt hg1 hen
  · rw [hk, mk3_at4] at hat
    obtain rfl : e = c := by simpa using hat
    obtain rfl : x = 4 := by simpa [K4] using hk
    exact h4 w1 cnt1 hlx hrg1 hlt hg1 hen
  · rw [hk, mk3_at8] at hat
    obtain rfl : b = c := by simpa using hat
    obtain rfl : x = 8 := by simpa [K8] using hk
    exact h8 w1 cnt1 hlx hrg1 hlt hg1 hen
theorem strike_flags2 {left : Lit → Bool} : (left K2 && !K2.sameKey K2) = false ∧ (left K4 && !K4.sameKey K2) = left K4 ∧ (left K8 && !K8.sameKey K2) = left K8 := by simp [K2, K4, K8, Lit.sameKey]
theorem strike_flags4 {left : Lit → Bool} : (left K2 && !K2.sameKey K4) = left K2 ∧ (left K4 && !K4.sameKey K4) = false ∧ (left K8 && !K8.sameKey K4) = left K8 := by simp [K2, K4, K8, Lit.sameKey]
theorem strike_flags8 {left : Lit → Bool} : (left K2 && !K2.sameKey K8) = left K2 ∧ (left K4 && !K4.sameKey K8) = left K4 ∧ (left K8 && !K8.sameKey K8) = false := by simp [K2, K4, K8, Lit.sameKey]
end Go.Proofs.Ytaogndianciogaa
