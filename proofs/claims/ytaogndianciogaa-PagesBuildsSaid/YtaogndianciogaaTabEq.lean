/- Two arrays of numbers compared. -/
import Derived.Test.YtaogndianciogaaWidth
import Derived.Laws.StructEq
namespace Go.Proofs.Ytaogndianciogaa.Mm
open Go.RowKit
set_option linter.unusedVariables false
set_option linter.unusedSimpArgs false
section
variable {P : Program}
theorem run_equalIn_array (d : Nat) (t e : TypeId) (k k' : IntKind) (l1 l2 : List Int) (n : Nat) (h1 : l1.length = n) (h2 : l2.length = n) (ht : P.underlying t = some (.array n e)) (he : P.underlying e = some (.int k'))
    (hs : ∀ w, (sizeOf e).run P w = .ok 1 w) (ha : ∀ w, (isAgg e).run P w = .ok false w) (w : World) :
    (Op.equalIn (d + 2) t (.agg (l1.map (Value.int k)).toArray) (.agg (l2.map (Value.int k)).toArray)).run P w = .ok (decide (l1 = l2)) w := by
  have hpart : ∀ (l : List Int) (i : Nat) (x : Int) w, l[i]? = some x → (part e (l.map (Value.int k)).toArray (i * 1)).run P w = .ok (.int k x) w := by
    intro l i x w hx
    have : (l.map (Value.int k)).toArray[i * 1]? = some (.int k x) := by simp [hx]
    simp only [part, Sem.run_bind, ha, Result.andThen_ok, this]
    rfl
  have key : ∀ m s, s + m = n → ∀ w, (forIn (m := Sem) (List.range' s m 1) ((none, ()) : Option Bool × Unit) fun i r => do
      if (!(← Op.equalIn (d + 1) e (← part e (l1.map (Value.int k)).toArray (i * 1)) (← part e (l2.map (Value.int k)).toArray (i * 1)))) = true then pure (ForInStep.done (some false, ()))
      else pure (ForInStep.yield (none, ()))).run P w = .ok (if l1.drop s = l2.drop s then none else some false, ()) w := by
    intro m
    induction m with
    | zero =>
      intro s hsn w
      simp only [List.range'_zero, List.forIn_nil, Sem.run_pure]
      rw [List.drop_of_length_le (by omega), List.drop_of_length_le (by omega), if_pos rfl]
    | succ m ih =>
      intro s hsn w
      have hx : l1[s]? = some (l1[s]'(by omega)) := List.getElem?_eq_getElem _
      have hy : l2[s]? = some (l2[s]'(by omega)) := List.getElem?_eq_getElem _
      have hd1 := List.drop_eq_getElem_cons (show s < l1.length by omega)
      have hd2 := List.drop_eq_getElem_cons (show s < l2.length by omega)
      generalize l1[s]'(by omega) = x at hx hd1
      generalize l2[s]'(by omega) = y at hy hd2
      rw [List.range'_succ, List.forIn_cons]
      simp only [Sem.run_bind, hpart l1 s x _ hx, hpart l2 s y _ hy, Result.andThen_ok, run_equalIn_int _ _ _ _ _ _ _ he]
      by_cases hxy : x = y
      · subst hxy
        simp only [beq_self_eq_true, Bool.not_true, Bool.false_eq_true, if_false, Sem.run_pure, Result.andThen_ok]
        rw [ih (s + 1) (by omega) w, hd1, hd2]
        simp
      · have hb : (x == y) = false := by simpa using hxy
        simp only [hb, Bool.not_false, if_true, Sem.run_pure, Result.andThen_ok]
        rw [hd1, hd2, if_neg (by simp [hxy])]
  have h0 := key n 0 (by omega) w
  simp only [List.drop_zero] at h0
  rw [Op.equalIn]
  simp only [Sem.run_bind, run_underlying ht, Result.andThen_ok, hs]
  simp only [Std.Legacy.Range.forIn_eq_forIn_range', Std.Legacy.Range.size, Nat.sub_zero, Nat.add_sub_cancel, Nat.div_one]
  rw [h0]
  by_cases h : l1 = l2
  · rw [if_pos h, decide_eq_true h]; rfl
  · rw [if_neg h, decide_eq_false h]; rfl
end
theorem tab_equal (l1 l2 : List Int) (h1 : l1.length = 512) (h2 : l2.length = 512) (w : World) :
    (Op.equalIn 10000 24 (.agg (l1.map (Value.int .u64)).toArray) (.agg (l2.map (Value.int .u64)).toArray)).run Try.prog w = .ok (decide (l1 = l2)) w :=
  run_equalIn_array 9998 24 22 .u64 .u64 l1 l2 512 h1 h2 Try.underlying24 Try.underlying22 (fun w => by kernel_rfl) (fun w => by kernel_rfl) w
theorem tab_neq (l1 l2 : List Int) (h1 : l1.length = 512) (h2 : l2.length = 512) (w : World) :
    (binOp .neq 24 (.agg (l1.map (Value.int .u64)).toArray) (.agg (l2.map (Value.int .u64)).toArray)).run Try.prog w = .ok (.bool (!decide (l1 = l2))) w := by
  rw [run_neq_struct, tab_equal l1 l2 h1 h2]
  rfl
theorem tab_guard (op : BinOp) (x y : Operand) (xs ys : Array Value) (w : World) : (eqGuard op 24 x y (.agg xs) (.agg ys)).run Try.prog w = .ok () w :=
  run_eqGuard_agg w op _ x y xs ys (by kernel_rfl)
end Go.Proofs.Ytaogndianciogaa.Mm
