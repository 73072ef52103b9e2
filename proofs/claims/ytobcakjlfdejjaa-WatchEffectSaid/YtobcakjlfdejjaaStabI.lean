/- The insertion sort of a part is stable. Plain. -/
import Derived.Test.YtobcakjlfdejjaaStabL
set_option linter.unusedVariables false
set_option linter.unusedSimpArgs false
namespace Go.Por.Stab
open Go.Sort Go.Proofs
section
variable {α : Type} [Inhabited α] {lt : α → α → Bool}
theorem swp_stab (h : SWO lt) (d : Array α) (j : Nat) (hj : j + 1 < d.size) (hl : lt d[j + 1]! d[j]! = true) : Stab lt d.toList (swp d (j + 1) j).toList := by
  have h1 : d[j]! = d[j] := by simp [show j < d.size by omega]
  have h2 : d[j + 1]! = d[j + 1] := by simp [hj]
  rw [h1, h2] at hl
  unfold swp
  rw [h1, h2]
  simp only [Array.toList_setIfInBounds]
  have e : d.toList = d.toList.take j ++ ([d[j]] ++ [d[j + 1]] ++ d.toList.drop (j + 2)) := by
    rw [List.append_assoc, List.singleton_append, List.singleton_append]
    conv => lhs; rw [← List.take_append_drop j d.toList]
    rw [List.drop_eq_getElem_cons (show j < d.toList.length by simp; omega), List.drop_eq_getElem_cons (show j + 1 < d.toList.length by simpa using hj)]
    simp only [Array.getElem_toList]
  have hn : (d.toList.take j).length = j := by rw [List.length_take, Array.length_toList]; omega
  have e2 : (d.toList.set (j + 1) d[j]).set j d[j + 1] = d.toList.take j ++ ([d[j + 1]] ++ [d[j]] ++ d.toList.drop (j + 2)) := by
    conv => lhs; rw [e]
    rw [List.set_append_right _ _ (by omega), hn, show j + 1 - j = 1 by omega, List.set_append_right _ _ (by omega), hn, Nat.sub_self]
    simp
  rw [e2]
  conv => lhs; rw [e]
  exact Stab.append (Stab.refl _) (Stab.append (Stab.swap h (fun x hx y hy => by rw [List.mem_singleton.1 hx, List.mem_singleton.1 hy]; exact no_eqv h hl)) (Stab.refl _))
theorem insInner_stab (h : SWO lt) (a : Nat) : ∀ (j : Nat) (d : Array α), j < d.size → Stab lt d.toList (insInner lt a j d).toList
  | 0, d, _ => by unfold insInner; exact Stab.refl _
  | j + 1, d, hj => by
    unfold insInner
    split
    · rename_i hc
      simp only [gt_iff_lt, Bool.and_eq_true, decide_eq_true_eq] at hc
      exact (swp_stab h d j hj hc.2).trans (insInner_stab h a j _ (by rw [swp_size]; omega))
    · exact Stab.refl _
theorem insInner_size (a : Nat) : ∀ (j : Nat) (d : Array α), (insInner lt a j d).size = d.size
  | 0, d => by unfold insInner; rfl
  | j + 1, d => by
    unfold insInner
    split
    · rw [insInner_size a j, swp_size]
    · rfl
theorem insOuter_stab (h : SWO lt) (a b : Nat) : ∀ (n i : Nat) (d : Array α), b - i = n → b ≤ d.size → Stab lt d.toList (insOuter lt a b i d).toList
  | 0, i, d, hn, _ => by rw [insOuter, if_neg (by omega)]; exact Stab.refl _
  | n + 1, i, d, hn, hb => by
    rw [insOuter, if_pos (by omega)]
    exact (insInner_stab h a i d (by omega)).trans (insOuter_stab h a b n (i + 1) _ (by omega) (by rw [insInner_size]; exact hb))
omit [Inhabited α] in
theorem Stab.part {P S X Z : List α} (h : Stab lt (P ++ (X ++ S)) (P ++ (Z ++ S))) : Stab lt X Z := fun x => by
  have := h x
  simp only [List.filter_append] at this
  exact List.append_cancel_right (List.append_cancel_left this)
/-- A part of the list is sorted, stably. -/
theorem ins_law (h : SWO lt) (P X S : List α) : ∃ Z : List α, (insertionSort lt (P ++ (X ++ S)).toArray P.length (P.length + X.length)).toList = P ++ (Z ++ S) ∧ Z.length = X.length ∧ Sorted lt Z ∧ Stab lt X Z := by
  obtain ⟨d, hd⟩ : ∃ d, insertionSort lt (P ++ (X ++ S)).toArray P.length (P.length + X.length) = d := ⟨_, rfl⟩
  have hb : P.length + X.length ≤ (P ++ (X ++ S)).toArray.size := by simp only [List.size_toArray, List.length_append]; omega
  have hs := insertionSort_holds (lt := lt) h (P ++ (X ++ S)).toArray P.length (P.length + X.length) (by omega) hb
  have hst : Stab lt (P ++ (X ++ S)) d.toList := by rw [← hd]; exact insOuter_stab h _ _ _ _ _ rfl hb
  rw [hd] at hs ⊢
  obtain ⟨⟨hsz, hout, _⟩, hsort⟩ := hs
  have hlen : d.toList.length = P.length + X.length + S.length := by rw [Array.length_toList, hsz]; simp only [List.size_toArray, List.length_append]; omega
  have hget : ∀ i, i < P.length ∨ P.length + X.length ≤ i → d.toList[i]? = (P ++ (X ++ S))[i]? := fun i hi => by
    by_cases hlt : i < d.toList.length
    · have h1 := hout i hi
      have h2 : i < d.size := by rw [← Array.length_toList]; exact hlt
      have h3 : i < (P ++ (X ++ S)).length := by simp only [List.length_append]; omega
      rw [List.getElem?_eq_getElem hlt, List.getElem?_eq_getElem h3]
      rw [getElem!_pos d i h2, getElem!_pos _ i (by simpa using h3)] at h1
      simpa using h1
    · rw [List.getElem?_eq_none (by omega), List.getElem?_eq_none (by simp only [List.length_append]; omega)]
  have e : d.toList = P ++ ((d.toList.drop P.length).take X.length ++ S) := by
    apply List.ext_getElem?
    intro i
    rcases (show i < P.length ∨ (P.length ≤ i ∧ i < P.length + X.length) ∨ P.length + X.length ≤ i by omega) with hi | hi | hi
    · rw [hget i (.inl hi), List.getElem?_append_left hi, List.getElem?_append_left hi]
    · have hl : ((d.toList.drop P.length).take X.length).length = X.length := by rw [List.length_take, List.length_drop]; omega
      rw [List.getElem?_append_right hi.1, List.getElem?_append_left (by omega), List.getElem?_take, if_pos (by omega), List.getElem?_drop]
      congr 1
      omega
    · have hl : ((d.toList.drop P.length).take X.length).length = X.length := by rw [List.length_take, List.length_drop]; omega
      rw [hget i (.inr hi), List.getElem?_append_right (by omega), List.getElem?_append_right (by omega), List.getElem?_append_right (by omega), List.getElem?_append_right (by omega), hl]
  refine ⟨_, e, by rw [List.length_take, List.length_drop]; omega, ?_, ?_⟩
  · refine List.pairwise_iff_getElem.2 (fun i j hi hj hij => ?_)
    simp only [List.length_take, List.length_drop] at hi hj
    have h1 := hsort (P.length + i) (P.length + j) (by omega) (by omega) (by omega)
    have g1 : d[P.length + i]! = d.toList[P.length + i]'(by omega) := by rw [getElem!_pos d _ (by rw [← Array.length_toList]; omega)]; simp
    have g2 : d[P.length + j]! = d.toList[P.length + j]'(by omega) := by rw [getElem!_pos d _ (by rw [← Array.length_toList]; omega)]; simp
    rw [g1, g2] at h1
    simpa using h1
  · rw [e] at hst
    exact Stab.part hst
end
section
variable {α : Type} {lt : α → α → Bool}
/-- Cut into blocks of n, each is sorted. -/
def Blk (lt : α → α → Bool) (n : Nat) (l : List α) : Prop := ∀ k, Sorted lt ((l.drop (k * n)).take n)
theorem Blk.nil (n : Nat) : Blk lt n [] := fun k => by simp [Sorted]
theorem Blk.append {n k : Nat} {A B : List α} (hk : A.length = k * n) (hA : Blk lt n A) (hB : Blk lt n B) : Blk lt n (A ++ B) := fun j => by
  by_cases hj : j < k
  · have : (j + 1) * n ≤ k * n := Nat.mul_le_mul_right _ hj
    rw [Nat.add_mul, Nat.one_mul] at this
    rw [List.drop_append_of_le_length (by omega), List.take_append_of_le_length (by rw [List.length_drop]; omega)]
    exact hA j
  · have e : j * n = A.length + (j - k) * n := by
      rw [hk, ← Nat.add_mul]
      congr 1
      omega
    rw [e, List.drop_append, List.drop_eq_nil_of_le (by omega), List.nil_append, Nat.add_sub_cancel_left]
    exact hB _
theorem Blk.single {n : Nat} {X : List α} (hn : 1 ≤ n) (h : X.length ≤ n) (hs : Sorted lt X) : Blk lt n X := fun k => by
  rcases Nat.eq_zero_or_pos k with rfl | hk
  · rw [Nat.zero_mul, List.drop_zero, List.take_of_length_le h]
    exact hs
  · have : 1 * n ≤ k * n := Nat.mul_le_mul_right _ hk
    rw [List.drop_eq_nil_of_le (by omega)]
    simp [Sorted]
theorem Blk.head {n : Nat} {l : List α} (h : Blk lt n l) : Sorted lt (l.take n) := by
  have := h 0
  simpa using this
theorem Blk.tail {n : Nat} {l : List α} (h : Blk lt n l) : Blk lt n (l.drop n) := fun k => by
  have := h (k + 1)
  rw [List.drop_drop, Nat.add_comm n]
  rwa [Nat.add_mul, Nat.one_mul] at this
theorem Blk.one {n : Nat} {l : List α} (h : Blk lt n l) (hl : l.length ≤ n) : Sorted lt l := by
  have := h.head
  rwa [List.take_of_length_le hl] at this
end
end Go.Por.Stab
