/- Tables of the ring as cells: an epoch and sixteen owners. No program in sight. -/
import Derived.Test.YtjccngahpafcaaaDoorOwn2
import Derived.Test.YtjccngahpafcaaaDoorRows2
import Derived.Laws.Rows
import Derived.Deep.MidRow
import Derived.Laws.IdiomCopy
namespace Go.Por
open Go.RowKit

/-- A table's cells. -/
def tcells (e : Int) (os : List Int) : Array Value := (Value.int .i64 e :: os.map (Value.int .i64)).toArray
abbrev tval (e : Int) (os : List Int) : Value := .agg (tcells e os)
theorem tcells_size {e : Int} {os : List Int} (h : os.length = 16) : (tcells e os).size = 17 := by simp [tcells, h]
theorem tcells_zero (e : Int) (os : List Int) : (tcells e os)[0]? = some (.int .i64 e) := by simp [tcells]
theorem tcells_at (e : Int) {os : List Int} {s : Nat} {n : Int} (h : os[s]? = some n) : (tcells e os)[1 + s]? = some (.int .i64 n) := by
  rw [Nat.add_comm]; simp [tcells, h]
theorem tcells_one (e : Int) (os : List Int) : (tcells e os).all (·.oneCell') = true := by
  rw [Array.all_eq_true_iff_forall_mem]
  intro v hv
  simp only [tcells, List.mem_toArray, List.mem_cons, List.mem_map] at hv
  rcases hv with rfl | ⟨n, _, rfl⟩ <;> rfl
theorem tcells_set0 (e e' : Int) (os : List Int) : (tcells e os).setIfInBounds 0 (.int .i64 e') = tcells e' os := by
  simp [tcells]
theorem tcells_set (e : Int) {os : List Int} {s : Nat} (n : Int) : (tcells e os).setIfInBounds (1 + s) (.int .i64 n) = tcells e (os.set s n) := by
  rw [Nat.add_comm]
  simp [tcells]
theorem tcells_list (e : Int) (os : List Int) : (tcells e os).toList = Value.int .i64 e :: os.map (Value.int .i64) := by simp [tcells]
theorem tcells_inj {e e' : Int} {os os' : List Int} (h : tcells e os = tcells e' os') : e = e' ∧ os = os' := by
  have := congrArg Array.toList h
  rw [tcells_list, tcells_list] at this
  simp only [List.cons.injEq, Value.int.injEq, true_and] at this
  exact ⟨this.1, (List.map_inj_right (fun a b h => by simpa using h)).1 this.2⟩

theorem own_lower {w : World} {base base' : Nat} {e : TypeId} {size n : Nat} {v : Value} {xs : List Value} (h : w.ownsRow base e size v n xs) (hb : base' ≤ base) : w.ownsRow base' e size v n xs := by
  obtain ⟨h1, h2⟩ := h
  refine ⟨h1, ?_⟩
  rcases h2 with h2 | ⟨g, cap, cur, rfl, hg, r⟩
  · exact .inl h2
  · exact .inr ⟨g, cap, cur, rfl, Nat.le_trans hb hg, r⟩
/-- A whole block is written: the world behind. -/
theorem setCells_block (b : Nat) : ∀ (vs : List Value) (o : Nat) (w : World) (c : Array Value) (t : TypeId), w.heap[b]? = some (.cells c t (0, 0)) → o + vs.length ≤ c.size →
    (w.setCells b o vs).heap[b]? = some (.cells (c.toList.take o ++ vs ++ c.toList.drop (o + vs.length)).toArray t (0, 0))
  | [], o, w, c, t, h, _ => by
    simp only [World.setCells, List.append_nil, List.length_nil, Nat.add_zero, List.take_append_drop]
    exact h
  | v :: r, o, w, c, t, h, hl => by
    simp only [List.length_cons] at hl
    have ih := setCells_block b r (o + 1) (w.setCell ⟨b, o, none⟩ v) (c.setIfInBounds o v) t (block_setCell h v) (by simp; omega)
    rw [World.setCells, ih]
    have e1 : (c.setIfInBounds o v).toList.take (o + 1) = c.toList.take o ++ [v] := by
      rw [Array.toList_setIfInBounds, List.take_set, List.take_add_one]
      rw [List.getElem?_eq_getElem (show o < c.toList.length by simp; omega), Option.toList_some, List.set_append_right _ _ (by simp; omega)]
      simp
      rw [show o - min o c.size = 0 by omega]
      rfl
    have e2 : (c.setIfInBounds o v).toList.drop (o + 1 + r.length) = c.toList.drop (o + (r.length + 1)) := by
      rw [Array.toList_setIfInBounds, List.drop_set_of_lt (by omega)]
      congr 1
      omega
    rw [e1, e2]
    simp
theorem setCells_whole {w : World} {b : Nat} {c : Array Value} {t : TypeId} (h : w.heap[b]? = some (.cells c t (0, 0))) {vs : List Value} (hl : vs.length = c.size) :
    (w.setCells b 0 vs).heap[b]? = some (.cells vs.toArray t (0, 0)) := by
  rw [setCells_block b vs 0 w c t h (by omega)]
  simp [hl]
theorem Mod.setCells {S : Nat → Prop} {a : World} {b : Nat} (hp : S b ∨ a.heap.size ≤ b) : ∀ (vs : List Value) (o : Nat) {w : World}, Mod S a w → Mod S a (w.setCells b o vs)
  | [], _, _, h => h
  | v :: r, o, _, h => Mod.setCells hp r (o + 1) (h.setCell (p := ⟨b, o, none⟩) hp v)
theorem there_block {w : World} {b : Nat} {c : Array Value} {t : TypeId} (h : w.heap[b]? = some (.cells c t (0, 0))) {n : Nat} (hn : n ≤ c.size) : w.there b 0 n := by
  intro j hj
  refine ⟨?_, free_of h⟩
  rw [cell_of h (v := c[0 + j]) (by rw [Array.getElem?_eq_getElem])]
  rfl
/-- The owners, read as an array of their own. -/
theorem range_owners {w : World} {b : Nat} {e : Int} {os : List Int} {t : TypeId} {f : Nat × Nat} (h : w.heap[b]? = some (.cells (tcells e os) t f)) : w.rangeAt b 1 (os.map (Value.int .i64)) := by
  intro j v hv
  rw [List.getElem?_map] at hv
  cases hj : os[j]? with
  | none => rw [hj] at hv; cases hv
  | some n =>
    rw [hj] at hv
    cases hv
    exact cell_of h (tcells_at e hj)

/-- The slots below n at which two lists are not alike; at which a list holds a number. -/
def diffs (a b : List Int) (n : Nat) : List Int := ((List.range n).filter (fun s => decide (a[s]? ≠ b[s]?))).map (fun s : Nat => (s : Int))
def slotsOf (a : List Int) (x : Int) (n : Nat) : List Int := ((List.range n).filter (fun s => decide (a[s]? = some x))).map (fun s : Nat => (s : Int))
theorem diffs_yes {a b : List Int} {n : Nat} (h : a[n]? ≠ b[n]?) : diffs a b (n + 1) = diffs a b n ++ [(n : Int)] := by
  rw [diffs, diffs, List.range_succ, List.filter_append, List.filter_cons_of_pos (by simpa using h)]
  simp
theorem diffs_no {a b : List Int} {n : Nat} (h : a[n]? = b[n]?) : diffs a b (n + 1) = diffs a b n := by
  rw [diffs, diffs, List.range_succ, List.filter_append, List.filter_cons_of_neg (by simpa using h)]
  simp
theorem slotsOf_yes {a : List Int} {x : Int} {n : Nat} (h : a[n]? = some x) : slotsOf a x (n + 1) = slotsOf a x n ++ [(n : Int)] := by
  rw [slotsOf, slotsOf, List.range_succ, List.filter_append, List.filter_cons_of_pos (by simpa using h)]
  simp
theorem slotsOf_no {a : List Int} {x : Int} {n : Nat} (h : a[n]? ≠ some x) : slotsOf a x (n + 1) = slotsOf a x n := by
  rw [slotsOf, slotsOf, List.range_succ, List.filter_append, List.filter_cons_of_neg (by simpa using h)]
  simp
theorem diffs_le (a b : List Int) (n : Nat) : (diffs a b n).length ≤ n := by
  rw [diffs, List.length_map]
  exact Nat.le_trans (List.length_filter_le _ _) (by simp)
theorem slotsOf_le (a : List Int) (x : Int) (n : Nat) : (slotsOf a x n).length ≤ n := by
  rw [slotsOf, List.length_map]
  exact Nat.le_trans (List.length_filter_le _ _) (by simp)
end Go.Por
