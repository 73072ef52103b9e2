/- A list by a key, with one thing more if it isn't there. Plain. -/
import Derived.Test.YtojjnfhgldjgbaaDoorKeyP
import Derived.Test.YtojjnfhgldjgbaaDoorSlMap
set_option linter.unusedVariables false
set_option linter.unusedSimpArgs false
namespace Go.Por
open Go.RowKit
theorem step_append_run {P : Program} {ops : Array Oper} {o : Oper} {a : Act} {w : World} {K : Act → World → Prop} {Q : Exit → Act → World → Prop} {E : Prop}
    (hg : o.guard = none) (s x : Operand) (t : TypeId) (hop : o.op = Op.call { callee := Callee.builtin Builtin.append, args := #[s, x], argTypes := #[t, t] })
    (vs vx v : Value) (w' : World) (hs : a.eval s = vs) (hx : a.eval x = vx) (hrun : (Builtin.append_ #[t, t] o.type #[vs, vx]).run P w = .ok v w')
    (hK : K (a.put o.dst v) w') :
    if Region.wanted o (yielded ops a.tmps) = true then Oper.wp P o a w K Q else E := by
  have hw : Region.wanted o (yielded ops a.tmps) = true := by simp [Region.wanted, hg]
  rw [if_pos hw]
  unfold Oper.wp
  simp [execOp, hop, resolve, invoke, builtin, hs, hx, hrun, Result.andThen]
  exact hK
end Go.Por
namespace Go.Proofs.YtojjnfhgldjgbaaDoor.Store
open Go.RowKit Go.Por Go.Proofs.YtojjnfhgldjgbaaDoor.Watch
def putC {κ : Type} [DecidableEq κ] (l : List (κ × List Tup)) (k : κ) (t : Tup) : List (κ × List Tup) := if tin t (aget l k) = true then l else gput l k (aget l k ++ [t])
theorem zeroTups (w : World) : (zeroValue 63).run Tryd.prog w = .ok (.slice none 0 0) w := by kernel_rfl
theorem infoPair : (Tryd.prog.info? 48).map (·.size) = some 2 := by kernel_rfl
/-- A block known whole: the cells from its beginning. -/
theorem row_range {w : World} {b : Nat} {cs : List Value} {t : TypeId} (h : w.heap[b]? = some (.cells cs.toArray t (0, 0))) : w.rangeAt b 0 cs := fun j u hu => by
  rw [Nat.zero_add]
  exact cell_of h (by simpa using hu)
end Go.Proofs.YtojjnfhgldjgbaaDoor.Store
