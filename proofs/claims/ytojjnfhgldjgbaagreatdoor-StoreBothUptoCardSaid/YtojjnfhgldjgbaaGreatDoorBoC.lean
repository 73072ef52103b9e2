/- StoreBoth, where what came in is of bulk at most 1048576: who has a relation, what a user has, and Has say the same: part 3 of 14: what it leans on. -/
import Derived.Shelf.SlSortCmp.NoneTotal
import Derived.Test.YtojjnfhgldjgbaaGreatDoorBoA
section
set_option linter.unusedVariables false
set_option linter.unusedSimpArgs false
namespace Go.Por
open Go.RowKit Go.Sort Go.Proofs

theorem Mod.grow {S : Nat → Prop} {a w : World} (h : Mod S a w) (os : Array Obj) : Mod S a (grow w os) :=
  h.trans' ⟨rfl, rfl, rfl, by simp, fun k hk _ => by
    show (w.heap ++ os)[k]? = _
    rw [Array.getElem?_append, if_pos hk]⟩

section
variable {α : Type} [Inhabited α] {f : α → List Value} {c : Nat} {w : World} {E : TypeId} {g n cap : Nat} {l : List α}
theorem flatK_eq (hc : ∀ x, (f x).length = c) (l : List α) {t : Nat} (ht : t < l.length * c) : (flatK f c l.toArray)[t]! = ((l.flatMap f)[t]?).getD default := by
  have hc0 : 0 < c := by
    rcases Nat.eq_zero_or_pos c with h | h
    · rw [h] at ht; simp at ht
    · exact h
  have hi : t / c < l.length := (Nat.div_lt_iff_lt_mul hc0).2 ht
  have hm : t % c < c := Nat.mod_lt _ hc0
  rw [get_flatK f c l.toArray t (by simpa using ht)]
  have e := flat_at hc l (t / c) (t % c) hm
  rw [Nat.div_add_mod' t c, List.getElem?_eq_getElem hi] at e
  rw [e]
  have e1 : l.toArray[t / c]! = l[t / c] := by simp [hi]
  rw [e1]
  have h2 : t % c < (f l[t / c]).length := by rw [hc]; exact hm
  simp [h2]

theorem OwnS.holds (hc : ∀ x, (f x).length = c) (h : OwnS f c w E (.slice (some ⟨g, 0, none⟩) n cap) l) : HoldsK f c w g 0 l.toArray := by
  intro j hj
  rw [size_flatK] at hj
  have hj' : j < l.length * c := by simpa using hj
  obtain ⟨cur, h1, h2, h3, _⟩ := h.block
  rw [Nat.zero_add]
  refine ⟨cell_of h1 ?_, free_of h1⟩
  rw [← Array.getElem?_toList]
  have := congrArg (fun q => q[j]?) h3
  simp only [List.getElem?_take, hj', if_true] at this
  rw [this, flatK_eq hc l hj']
  have hl : j < (l.flatMap f).length := by rw [flat_length hc]; exact hj'
  rw [List.getElem?_eq_getElem hl]
  rfl

theorem sorted_block {cur : Array Value} (h1 : w.heap[g]? = some (.cells cur E (0, 0))) (d : Array α) (m : Nat) (os : Array Obj) :
    (sortWorldK f c w g 0 m d os).heap[g]? = some (.cells (putCells id 0 (flatK f c d) cur) E (0, 0)) := by
  have hg := lt_block h1
  show ((mapBlock (Sort.ahead w m) g (putCells id 0 (flatK f c d))).heap ++ os)[g]? = _
  have hsz : (mapBlock (Sort.ahead w m) g (putCells id 0 (flatK f c d))).heap.size = w.heap.size := by simp [mapBlock, Sort.ahead]
  rw [Array.getElem?_append, if_pos (by rw [hsz]; exact hg)]
  show (w.heap.modify g (onCells _))[g]? = _
  rw [Array.getElem?_modify, if_pos rfl, h1]
  rfl

/-- Behind the sort: the row holds the new elements; only its block has turned. -/
theorem OwnS.sorted (hc : ∀ x, (f x).length = c) (h : OwnS f c w E (.slice (some ⟨g, 0, none⟩) n cap) l) {l' : List α} (hl : l'.length = l.length) (m : Nat) (os : Array Obj) :
    OwnS f c (sortWorldK f c w g 0 m l'.toArray os) E (.slice (some ⟨g, 0, none⟩) n cap) l' ∧ Mod (fun x => x = g) w (sortWorldK f c w g 0 m l'.toArray os) := by
  obtain ⟨cur, h1, h2, h3, rfl, h4, h5⟩ := h.block
  have hle : l.length * c ≤ cap * c := Nat.mul_le_mul_right _ h4
  constructor
  · refine ⟨by rw [flat_length hc], .inr ⟨g, cap, _, by rw [hl], Nat.zero_le _, sorted_block h1 _ _ _, by omega, h5, by simp [putCells]; exact h2, ?_⟩⟩
    apply List.ext_getElem?
    intro j
    rw [List.getElem?_take]
    split
    · rename_i hj
      have hj2 : j < cur.size := by rw [h2]; rw [hl] at hj; omega
      have hlen : j < (l'.flatMap f).length := by rw [flat_length hc]; exact hj
      simp only [putCells, Array.getElem?_toList, Array.getElem?_mapIdx]
      rw [Array.getElem?_eq_getElem hj2, Option.map_some, if_pos (by simp only [size_flatK, List.size_toArray]; omega), Nat.sub_zero, flatK_eq hc l' hj, List.getElem?_eq_getElem hlen]
      rfl
    · rename_i hj
      rw [List.getElem?_eq_none (by rw [flat_length hc]; omega)]
  · refine Mod.grow (S := fun x => x = g) (a := w) (w := putRowK f c (Sort.ahead w m) g 0 l'.toArray) ⟨rfl, rfl, rfl, by simp [putRowK, putRow, mapBlock, Sort.ahead], fun k hk hn => ?_⟩ os
    show (w.heap.modify g (onCells _))[k]? = _
    rw [Array.getElem?_modify, if_neg (fun e => hn e.symm)]
end
end Go.Por
end
