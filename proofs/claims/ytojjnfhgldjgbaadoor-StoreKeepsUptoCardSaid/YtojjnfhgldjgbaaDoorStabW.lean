/- A row of the call's own: an element read, an element written. No program in sight. -/
import Derived.Test.YtojjnfhgldjgbaaDoorDraw0
import Derived.Test.YtojjnfhgldjgbaaDoorStab
set_option linter.unusedVariables false
set_option linter.unusedSimpArgs false
namespace Go.Por
open Go Go.RowKit
section
variable {α : Type} {f : α → List Value} {c : Nat} {w : World} {E : TypeId} {g n cap : Nat} {l : List α}
theorem flat_put (hc : ∀ x, (f x).length = c) : ∀ (l : List α) (i : Nat) (x : α), i < l.length → (l.set i x).flatMap f = (l.flatMap f).take (i * c) ++ f x ++ (l.flatMap f).drop (i * c + c)
  | [], i, x, h => by simp at h
  | y :: l, 0, x, _ => by
    rw [List.set_cons_zero, List.flatMap_cons, List.flatMap_cons, Nat.zero_mul, List.take_zero, List.nil_append, Nat.zero_add, List.drop_left' (hc y)]
  | y :: l, i + 1, x, h => by
    have ih := flat_put hc l i x (by simpa using h)
    have e1 : (f y ++ l.flatMap f).take (i * c + c) = f y ++ (l.flatMap f).take (i * c) := by
      rw [List.take_append, List.take_of_length_le (by rw [hc]; omega), hc, Nat.add_sub_cancel]
    have e2 : (f y ++ l.flatMap f).drop (i * c + c + c) = (l.flatMap f).drop (i * c + c) := by
      rw [Nat.add_comm (i * c + c) c, ← List.drop_drop, List.drop_left' (hc y)]
    rw [List.set_cons_succ, List.flatMap_cons, ih, List.flatMap_cons, Nat.add_mul, Nat.one_mul, e1, e2]
    simp only [List.append_assoc]
theorem OwnS.range (hc : ∀ x, (f x).length = c) (h : OwnS f c w E (.slice (some ⟨g, 0, none⟩) n cap) l) {i : Nat} {x : α} (hx : l[i]? = some x) : w.rangeAt g (i * c) (f x) := by
  intro j v hv
  obtain ⟨cur, h1, h2, h3, rfl, h4, _⟩ := h.block
  have hj : j < c := by rw [← hc x]; exact (List.getElem?_eq_some_iff.1 hv).1
  have hi := (List.getElem?_eq_some_iff.1 hx).1
  refine cell_of h1 ?_
  rw [← Array.getElem?_toList]
  have e := flat_at hc l i j hj
  rw [hx] at e
  have hlt : i * c + j < l.length * c := by
    have := Nat.mul_le_mul_right c (show i + 1 ≤ l.length from hi)
    rw [Nat.add_mul, Nat.one_mul] at this
    omega
  have h5 := congrArg (fun q => q[i * c + j]?) h3
  simp only [List.getElem?_take, hlt, if_true] at h5
  rw [h5, e]
  exact hv
theorem OwnS.there (h : OwnS f c w E (.slice (some ⟨g, 0, none⟩) n cap) l) {i : Nat} (hi : i < l.length) : w.there g (i * c) c := by
  obtain ⟨cur, h1, h2, h3, rfl, h4, _⟩ := h.block
  intro j hj
  have hlt : i * c + j < cur.size := by
    have h5 := Nat.mul_le_mul_right c (show i + 1 ≤ cap by omega)
    rw [Nat.add_mul, Nat.one_mul] at h5
    omega
  exact ⟨by rw [cell_of h1 (v := cur[i * c + j]) (by rw [Array.getElem?_eq_getElem hlt])]; rfl, free_of h1⟩
theorem OwnS.store (hc : ∀ x, (f x).length = c) (h : OwnS f c w E (.slice (some ⟨g, 0, none⟩) n cap) l) {i : Nat} (hi : i < l.length) (x : α) :
    OwnS f c (w.setCells g (i * c) (f x)) E (.slice (some ⟨g, 0, none⟩) n cap) (l.set i x) := by
  obtain ⟨cur, h1, h2, h3, rfl, h4, h5⟩ := h.block
  have hlt : i * c + c ≤ l.length * c := by
    have := Nat.mul_le_mul_right c (show i + 1 ≤ l.length from hi)
    rwa [Nat.add_mul, Nat.one_mul] at this
  have hlc : l.length * c ≤ cap * c := Nat.mul_le_mul_right _ h4
  have hb := setCells_block g (f x) (i * c) w cur E h1 (by rw [hc, h2]; omega)
  have hlen : (l.flatMap f).length = l.length * c := flat_length hc l
  refine ⟨by rw [flat_length hc], .inr ⟨g, cap, _, by rw [List.length_set], Nat.zero_le _, hb, by rw [List.length_set]; omega, h5, ?_, ?_⟩⟩
  · simp only [List.size_toArray, List.length_append, List.length_take, List.length_drop, Array.length_toList, hc]
    omega
  · rw [flat_put hc l i x hi, List.length_set, ← h3]
    have hA : (cur.toList.take (i * c)).length = i * c := by rw [List.length_take, Array.length_toList, h2]; omega
    rw [List.take_take, Nat.min_eq_left (by omega), List.drop_take, hc]
    show (cur.toList.take (i * c) ++ f x ++ cur.toList.drop (i * c + c)).take (l.length * c) = _
    rw [List.take_append, List.take_of_length_le (l := cur.toList.take (i * c) ++ f x) (by rw [List.length_append, hA, hc]; exact hlt), List.length_append, hA, hc]
end
end Go.Por
