/- A region that draws its order, step by step; whole variables written. No program in sight. -/
import Derived.Test.YtojjnfhgldjgbaaDoorOwn2
import Derived.Laws.IdiomCopy
import Derived.Deep.RegionHeld3
import Derived.Laws.Rows
import Derived.Laws.Tables
import Derived.Deep.MidRow
set_option linter.unusedVariables false
set_option linter.unusedSimpArgs false
namespace Go.Por
open Go Go.RowKit

/-- A whole block is written: the world behind. -/
theorem setCells_block (b : Nat) : ∀ (vs : List Value) (o : Nat) (w : World) (c : Array Value) (t : TypeId), w.heap[b]? = some (.cells c t (0, 0)) → o + vs.length ≤ c.size →
    (w.setCells b o vs).heap[b]? = some (.cells (c.toList.take o ++ vs ++ c.toList.drop (o + vs.length)).toArray t (0, 0))
  | [], o, w, c, t, h, _ => by
    simp only [World.setCells, List.append_nil, List.length_nil, Nat.add_zero, List.take_append_drop]
    exact h
  | v :: r, o, w, c, t, h, hl => by
    simp only [List.length_cons] at hl
    have ih := setCells_block b r (o + 1) (w.setCell ⟨b, o, none⟩ v) (c.setIfInBounds o v) t (block_setCell h v) (by simp; omega)
    rw [World.setCells, ih]
    have e1 : (c.setIfInBounds o v).toList.take (o + 1) = c.toList.take o ++ [v] := by
      rw [Array.toList_setIfInBounds, List.take_set, List.take_add_one]
      rw [List.getElem?_eq_getElem (show o < c.toList.length by simp; omega), Option.toList_some, List.set_append_right _ _ (by simp; omega)]
      simp
      rw [show o - min o c.size = 0 by omega]
      rfl
    have e2 : (c.setIfInBounds o v).toList.drop (o + 1 + r.length) = c.toList.drop (o + (r.length + 1)) := by
      rw [Array.toList_setIfInBounds, List.drop_set_of_lt (by omega)]
      congr 1
      omega
    rw [e1, e2]
    simp
theorem setCells_whole {w : World} {b : Nat} {c : Array Value} {t : TypeId} (h : w.heap[b]? = some (.cells c t (0, 0))) {vs : List Value} (hl : vs.length = c.size) :
    (w.setCells b 0 vs).heap[b]? = some (.cells vs.toArray t (0, 0)) := by
  rw [setCells_block b vs 0 w c t h (by omega)]
  simp [hl]
theorem Mod.setCells {S : Nat → Prop} {a : World} {b : Nat} (hp : S b ∨ a.heap.size ≤ b) : ∀ (vs : List Value) (o : Nat) {w : World}, Mod S a w → Mod S a (w.setCells b o vs)
  | [], _, _, h => h
  | v :: r, o, _, h => Mod.setCells hp r (o + 1) (h.setCell (p := ⟨b, o, none⟩) hp v)
theorem there_block {w : World} {b : Nat} {c : Array Value} {t : TypeId} (h : w.heap[b]? = some (.cells c t (0, 0))) {n : Nat} (hn : n ≤ c.size) : w.there b 0 n := by
  intro j hj
  refine ⟨?_, free_of h⟩
  rw [cell_of h (v := c[0 + j]) (by rw [Array.getElem?_eq_getElem])]
  rfl

theorem at_drop {α : Type} {l : List α} {i : Nat} {o : α} {r : List α} (h : l.drop i = o :: r) : l.toArray[i]? = some o := by
  have := congrArg (fun q => q[0]?) h
  simpa using this
section
variable {P : Program} {l : List Oper} {Q : Exit → Act → World → Prop} {md : Region.Mode} {S : World → Prop} {fuel : Nat} {listed : Array Bool} {a : Act} {w : World}

theorem takeD {i : Nat} {oi : Oper} {r : List Oper} {v : Value} (hi : l.drop i = oi :: r) (hs : Region.noSelect l.toArray = true) (hf : Region.free md l.toArray listed i = true) (hr : (Region.ready md l.toArray listed).contains i = true)
    (hQ : ∀ c a w, Q (.panic c) (a.put oi.dst v) w → Q (.panic c) a w) (hS : S w) (hy : YieldsIf P l.toArray S oi v a)
    (h : wpAnyH P md l.toArray Q S fuel (listed.setIfInBounds i true) (a.put oi.dst v) w) : wpAnyH P md l.toArray Q S (fuel + 1) listed a w :=
  wpAnyH_take (at_drop hi) hs hf hr hQ hy hS h
theorem consD {i : Nat} {o : Oper} {r : List Oper} {rs : List Nat} (hi : l.drop i = o :: r)
    (h : ∀ K' : Act → World → Prop, Shut (∀ a w, S w → (S w → wpAnyH P md l.toArray Q S fuel (listed.setIfInBounds i true) a w) → K' a w) → if Region.wanted o (yielded l.toArray a.tmps) = true then Oper.wp P o a w K' Q else K' (a.put o.dst undef) w)
    (hs : AllReadyH P md l.toArray Q S fuel listed a w rs) : AllReadyH P md l.toArray Q S fuel listed a w (i :: rs) := AllReadyH.cons (at_drop hi) h hs

/-- A whole variable is read: S gives its block. -/
theorem yields_row {op : Oper} (hw : Region.wanted op (yielded l.toArray a.tmps) = true) (ty : TypeId) (x : Operand) (ho : op.op = .load ty x)
    (g : Nat) (hx : a.eval x = .pointer (some ⟨g, 0, none⟩)) (cs : Array Value) (t : TypeId) (fr : Nat × Nat) (d : TypeDesc) (hS : ∀ w, S w → w.heap[g]? = some (.cells cs t fr))
    (hu : P.underlying ty = some d) (hd : (match d with | .struct _ | .array _ _ => true | _ => false) = true) (hi : (P.info? ty).map (·.size) = some cs.size) : YieldsIf P l.toArray S op (.agg cs) a :=
  .inl ⟨hw, fun w hw' => by
    unfold execOp
    simp only [ho, hx, Instr.loadAt, Instr.sureAddr, Sem.run_bind, Sem.run_pure, Result.andThen_ok, run_loadVar_row w g t ty cs fr d (hS w hw') hu hd hi]⟩
end
/-- A whole variable is written; the world gets a letter. -/
theorem wp_store_all {P : Program} {op : Oper} {a : Act} {w : World} {K : Act → World → Prop} {Q : Exit → Act → World → Prop} (ty : TypeId) (x y : Operand) (ho : op.op = .store ty x y)
    (b : Nat) (cells : Array Value) (hx : a.eval x = .pointer (some ⟨b, 0, none⟩)) (hy : a.eval y = .agg cells) (c0 : Array Value) (t : TypeId) (hb : w.heap[b]? = some (.cells c0 t (0, 0))) (hc : cells.size = c0.size)
    (hi : (P.info? ty).map (·.size) = some cells.size) (h1 : cells.all (·.oneCell') = true)
    (h : ∀ w', w'.heap[b]? = some (.cells cells t (0, 0)) → Mod (fun x => x = b) w w' → w'.heap.size = w.heap.size → K (a.put op.dst undef) w') : op.wp P a w K Q := by
  refine wp_store_mid ty x y ho b 0 cells hx hy (there_block hb (by omega)) hi h1 ?_
  refine h _ ?_ (Mod.setCells (S := fun x => x = b) (.inl rfl) _ 0 (Mod.refl _ w)) ?_
  · have := setCells_whole hb (vs := cells.toList) (by simpa using hc)
    rwa [Array.toArray_toList] at this
  · have : ∀ (vs : List Value) (o : Nat) (w : World), (w.setCells b o vs).heap.size = w.heap.size := by
      intro vs
      induction vs with
      | nil => intro o w; rfl
      | cons v r ih => intro o w; rw [World.setCells, ih]; simp
    exact this _ _ _
end Go.Por
