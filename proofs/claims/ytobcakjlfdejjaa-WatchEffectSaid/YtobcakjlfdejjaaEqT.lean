/- '==' of tuples, mutations, changes and rows. -/
import Derived.Test.YtobcakjlfdejjaaChanges
import Derived.Test.YtobcakjlfdejjaaStEq
set_option linter.unusedVariables false
set_option linter.unusedSimpArgs false
namespace Go.Por
/-- '==' of two whole structs, in a region that draws. -/
theorem yields_eqS {P : Program} {l : List Oper} {S : World → Prop} {a : Act} {op : Oper} (hw : Region.wanted op (yielded l.toArray a.tmps) = true) (t : TypeId) (x y : Operand) (ty : TypeId) (ho : op.op = .binOp .eql t x y ty) (xs ys : Array Value)
    (hx : a.eval x = .agg xs) (hy : a.eval y = .agg ys) (hg : P.eqGuardType P.depth t = false) (r : Bool) (he : ∀ w, (Op.equal t (.agg xs) (.agg ys)).run P w = .ok r w) : YieldsIf P l.toArray S op (.bool r) a :=
  .inl ⟨hw, fun w _ => by
    unfold execOp
    simp [ho, hx, hy, Sem.run_bind, run_eqGuard_agg w .eql t x y xs ys hg, binOp, he, Result.andThen]⟩
theorem yields_neS {P : Program} {l : List Oper} {S : World → Prop} {a : Act} {op : Oper} (hw : Region.wanted op (yielded l.toArray a.tmps) = true) (t : TypeId) (x y : Operand) (ty : TypeId) (ho : op.op = .binOp .neq t x y ty) (xs ys : Array Value)
    (hx : a.eval x = .agg xs) (hy : a.eval y = .agg ys) (hg : P.eqGuardType P.depth t = false) (r : Bool) (he : ∀ w, (Op.equal t (.agg xs) (.agg ys)).run P w = .ok r w) : YieldsIf P l.toArray S op (.bool (!r)) a :=
  .inl ⟨hw, fun w _ => by
    unfold execOp
    simp [ho, hx, hy, Sem.run_bind, run_eqGuard_agg w .neq t x y xs ys hg, binOp, he, Result.andThen]⟩
end Go.Por
namespace Go.Proofs.Ytobcakjlfdejjaa.Watch
open Go.RowKit Go.Por Go.Sort Go.Por.StEq

theorem bytes_beq (a b : ByteArray) : (a.toList == b.toList) = decide (a = b) := by
  by_cases h : a = b
  · rw [beq_yes h, decide_eq_true h]
  · rw [beq_no h, decide_eq_false h]
theorem eqTupIn (d : Nat) (w : World) (x y : Tup) : (Op.equalIn (d + 2) 37 (.agg (tupC x).toArray) (.agg (tupC y).toArray)).run Try.prog w = .ok (decide (x = y)) w := by
  obtain ⟨x0, x1, x2⟩ := x
  obtain ⟨y0, y1, y2⟩ := y
  have h : (Op.equalIn (d + 2) 37 (.agg (tupC (x0, x1, x2)).toArray) (.agg (tupC (y0, y1, y2)).toArray)).run Try.prog w = .ok (x0.toList == y0.toList && (x1.toList == y1.toList && (x2.toList == y2.toList))) w := by
    unfold tupC
    refine eqA_of Try.underlying37 (by kernel_rfl) ?_
    refine eqf_cons (by rfl) (by go_simp; rfl) (by go_simp; rfl) (by go_simp) ?_
    refine eqf_cons (by rfl) (by go_simp; rfl) (by go_simp; rfl) (by go_simp) ?_
    exact eqf_last (by rfl) (by go_simp; rfl) (by go_simp; rfl) (by go_simp)
  rw [h]
  have e : (x0.toList == y0.toList && (x1.toList == y1.toList && (x2.toList == y2.toList))) = decide ((x0, x1, x2) = (y0, y1, y2)) := by
    simp only [bytes_beq]
    rw [Bool.eq_iff_iff]
    simp
  rw [e]
theorem eqTup (x y : Tup) (w : World) : (Op.equal 37 (.agg (tupC x).toArray) (.agg (tupC y).toArray)).run Try.prog w = .ok (decide (x = y)) w := eqTupIn 9998 w x y
theorem mutC_len (x : Mut) : (mutC x).length = 4 := rfl
theorem part_tup (b : Bool) (x : Tup) (w : World) : (part 37 (mutC (b, x)).toArray 1).run Try.prog w = .ok (.agg (tupC x).toArray) w := by
  unfold mutC tupC
  go_simp
theorem eqMutIn (d : Nat) (w : World) (x y : Mut) : (Op.equalIn (d + 3) 41 (.agg (mutC x).toArray) (.agg (mutC y).toArray)).run Try.prog w = .ok (decide (x = y)) w := by
  obtain ⟨x0, x1⟩ := x
  obtain ⟨y0, y1⟩ := y
  have h : (Op.equalIn (d + 3) 41 (.agg (mutC (x0, x1)).toArray) (.agg (mutC (y0, y1)).toArray)).run Try.prog w = .ok (x0 == y0 && decide (x1 = y1)) w := by
    refine eqA_of Try.underlying41 (by kernel_rfl) ?_
    refine eqf_cons (a := .bool x0) (b := .bool y0) (by rfl) (by unfold mutC; go_simp) (by unfold mutC; go_simp) (by go_simp) ?_
    exact eqf_last (by rfl) (part_tup x0 x1 w) (part_tup y0 y1 w) (eqTupIn d w x1 y1)
  have e : (x0 == y0 && decide (x1 = y1)) = decide ((x0, x1) = (y0, y1)) := by
    rw [Bool.eq_iff_iff]
    simp
  rw [h, e]
theorem eqMut (x y : Mut) (w : World) : (Op.equal 41 (.agg (mutC x).toArray) (.agg (mutC y).toArray)).run Try.prog w = .ok (decide (x = y)) w := eqMutIn 9997 w x y
end Go.Proofs.Ytobcakjlfdejjaa.Watch
