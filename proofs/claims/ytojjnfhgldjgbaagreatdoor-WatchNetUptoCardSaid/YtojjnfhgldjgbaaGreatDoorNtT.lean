/- WatchNet, where what came in is of bulk at most 1048576: what leads from some tuples to others does so in a store, and n: part 20 of 32: what it leans on. -/
import Derived.Test.YtojjnfhgldjgbaaGreatDoorNtA
import Derived.Test.YtojjnfhgldjgbaaGreatDoorNtB
import Derived.Test.YtojjnfhgldjgbaaGreatDoorNtC
import Derived.Test.YtojjnfhgldjgbaaGreatDoorNtD
import Derived.Test.YtojjnfhgldjgbaaGreatDoorNtE
import Derived.Test.YtojjnfhgldjgbaaGreatDoorNtL
import Derived.Test.YtojjnfhgldjgbaaGreatDoorNtM
import Derived.Test.YtojjnfhgldjgbaaGreatDoorNtN
import Derived.Test.YtojjnfhgldjgbaaGreatDoorNtO
import Derived.Test.YtojjnfhgldjgbaaGreatDoorNtP
import Derived.Test.YtojjnfhgldjgbaaGreatDoorNtQ
import Derived.Test.YtojjnfhgldjgbaaGreatDoorNtR
import Derived.Test.YtojjnfhgldjgbaaGreatDoorNtS
section
set_option linter.unusedVariables false
set_option linter.unusedSimpArgs false
namespace Go.Por
open Go.RowKit
theorem zeroCells_one (z : Array Value) (hz : 0 < z.size) (h : ∀ u ∈ z.toList, u.oneCell' = true) (r : Nat) : ∀ u ∈ (Builtin.zeroCells z r).toList, u.oneCell' = true := by
  intro u hu
  simp only [Builtin.zeroCells, Array.toList_map, List.mem_map] at hu
  obtain ⟨i, _, rfl⟩ := hu
  have hlt : i % z.size < z.size := Nat.mod_lt _ hz
  rw [getElem!_pos z _ hlt]
  exact h _ (by simp)
section
variable {α : Type} {f : α → List Value} {c : Nat} {w : World} {E : TypeId} {g n cap : Nat} {l : List α} {P : Program}
theorem OwnS.wipeN {t ty : TypeId} {z : Value} (hc : ∀ x, (f x).length = c) (ht : P.underlying t = some (.slice E)) (hz : (zeroValue E).run P w = .ok z w) (hzc : z.cells.size = c) (hzo : ∀ r, ∀ u ∈ (Builtin.zeroCells z.cells r).toList, u.oneCell' = true)
    (h : OwnS f c w E (.slice (some ⟨g, 0, none⟩) n cap) l) {k r : Nat} (hk : k + r = l.length) (hr1 : 1 ≤ r) (c' : Nat) :
    ∃ w', (Builtin.clear_ #[t] ty #[.slice (some ⟨g, k * c, none⟩) r c']).run P w = .ok (.tuple #[]) w' ∧ OwnS f c w' E (.slice (some ⟨g, 0, none⟩) k cap) (l.take k) ∧ Mod (fun x => x = g) w w' := by
  obtain ⟨r, rfl⟩ : ∃ r', r = r' + 1 := ⟨r - 1, by omega⟩
  obtain ⟨cur, h1, h2, h3, rfl, h4, h5⟩ := h.block
  have hzl : (Builtin.zeroCells z.cells (r + 1)).toList.length = (r + 1) * c := by rw [Array.length_toList, size_zeroCells, hzc]
  have hle : l.length * c ≤ cap * c := Nat.mul_le_mul_right _ h4
  have hsum : k * c + (r + 1) * c = l.length * c := by rw [← Nat.add_mul, hk]
  have hr := run_storeCells_at P g (k * c) E (Builtin.zeroCells z.cells (r + 1)).toList 0 cur w h1 (by rw [hzl, h2]; omega) (hzo (r + 1))
  have hcur : cur.toList.length = cap * c := by simpa using h2
  obtain ⟨W, hW⟩ : ∃ W, W = w.setRow g (cur.toList.take (k * c + 0) ++ (Builtin.zeroCells z.cells (r + 1)).toList ++ cur.toList.drop (k * c + 0 + (Builtin.zeroCells z.cells (r + 1)).toList.length)).toArray := ⟨_, rfl⟩
  rw [← hW] at hr
  refine ⟨W, by simp [Builtin.clear_, run_underlying ht, hz, Result.andThen, hr], ?_, by rw [hW]; exact mod_setRow⟩
  rw [hW]
  have hlk : (l.take k).length = k := by rw [List.length_take]; omega
  refine ⟨by rw [flat_length hc], .inr ⟨g, cap, _, by rw [hlk], Nat.zero_le _, setRow_heap w g cur _ E _ h1, by omega, h5, ?_, ?_⟩⟩
  · rw [List.size_toArray, List.length_append, List.length_append, List.length_take, List.length_drop, hzl, hcur]
    omega
  · have hl1 : (cur.toList.take (k * c + 0)).length = k * c := by rw [List.length_take, hcur]; omega
    rw [List.append_assoc, hlk]
    refine (List.take_left' hl1).trans ?_
    rw [Nat.add_zero, ← flat_take hc, ← h3, List.take_take]
    congr 1
    omega
end
/-- Of like neighbours the first. -/
def compactP {α : Type} [DecidableEq α] : Option α → List α → List α
  | _, [] => []
  | p, x :: r => (if p = some x then [] else [x]) ++ compactP (some x) r
def compactL {α : Type} [DecidableEq α] (l : List α) : List α := compactP none l
section
variable {α : Type} [DecidableEq α]
theorem compactP_snoc : ∀ (l : List α) (p : Option α) (x : α), compactP p (l ++ [x]) = compactP p l ++ (if (l.getLast?.or p) = some x then [] else [x])
  | [], p, x => by
    by_cases h : p = some x <;> simp [compactP, h]
  | y :: l, p, x => by
    rw [List.cons_append, compactP, compactP_snoc l (some y) x, compactP, List.append_assoc]
    congr 2
    cases l with
    | nil => by_cases h : y = x <;> simp [h]
    | cons z l =>
      rw [List.getLast?_cons_cons]
      obtain ⟨q, hq⟩ : ∃ q, (z :: l).getLast? = some q := ⟨_, List.getLast?_eq_some_getLast (by simp)⟩
      rw [hq]
      by_cases h : q = x <;> simp [h]
theorem compactL_succ {l : List α} {k : Nat} {x y : α} (hx : l[k]? = some x) (hy : l[k - 1]? = some y) (hk : 1 ≤ k) : compactL (l.take (k + 1)) = compactL (l.take k) ++ (if y = x then [] else [x]) := by
  unfold compactL
  rw [List.take_add_one, hx, Option.toList_some, compactP_snoc]
  have : (l.take k).getLast? = some y := by
    rw [List.getLast?_eq_getElem?, List.length_take, List.getElem?_take]
    have := (List.getElem?_eq_some_iff.1 hx).1
    rw [Nat.min_eq_left (by omega), if_pos (by omega), hy]
  rw [this]
  simp
theorem compactL_short (l : List α) (h : l.length ≤ 1) : compactL l = l := by
  match l, h with
  | [], _ => rfl
  | [x], _ => rfl
theorem compactP_le : ∀ (l : List α) (p : Option α), (compactP p l).length ≤ l.length
  | [], p => by simp [compactP]
  | x :: r, p => by
    have := compactP_le r (some x)
    rw [compactP, List.length_append, List.length_cons]
    split <;> simp <;> omega
theorem compactL_le (l : List α) : (compactL l).length ≤ l.length := compactP_le l none
end
end Go.Por
end
