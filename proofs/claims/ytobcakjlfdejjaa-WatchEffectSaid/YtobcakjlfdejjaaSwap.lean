/- What the exchange of two parts makes. Plain. -/
import Derived.Test.YtobcakjlfdejjaaWatchP
set_option linter.unusedVariables false
set_option linter.unusedSimpArgs false
namespace Go.Proofs.Ytobcakjlfdejjaa.Watch

theorem swapR_at {α : Type} (l : List α) (a b n : Nat) (hab : a + n ≤ b) (hb : b + n ≤ l.length) : ∀ k, k ≤ n → ∀ i, (swapR l a b k)[i]? = if a ≤ i ∧ i < a + k then l[i - a + b]? else if b ≤ i ∧ i < b + k then l[i - b + a]? else l[i]?
  | 0, _, i => by
    rw [if_neg (by omega), if_neg (by omega)]
    rfl
  | k + 1, hk, i => by
    have ih := swapR_at l a b n hab hb k (by omega)
    have h1 : (swapR l a b k)[a + k]? = l[a + k]? := by rw [ih, if_neg (by omega), if_neg (by omega)]
    have h2 : (swapR l a b k)[b + k]? = l[b + k]? := by rw [ih, if_neg (by omega), if_neg (by omega)]
    obtain ⟨x, hx⟩ : ∃ x, l[a + k]? = some x := ⟨_, List.getElem?_eq_getElem (by omega)⟩
    obtain ⟨y, hy⟩ : ∃ y, l[b + k]? = some y := ⟨_, List.getElem?_eq_getElem (by omega)⟩
    have hlen := swapR_length l a b k
    rw [swapR, h1, h2, hx, hy]
    simp only [List.getElem?_set, List.length_set, hlen, ih]
    by_cases e1 : b + k = i
    · subst e1
      rw [if_pos rfl, if_pos (by omega), if_neg (by omega), if_pos (by omega), ← hx]
      congr 1
      omega
    · rw [if_neg e1]
      by_cases e2 : a + k = i
      · subst e2
        rw [if_pos rfl, if_pos (by omega), if_pos (by omega), ← hy]
        congr 1
        omega
      · rw [if_neg e2]
        by_cases c1 : a ≤ i ∧ i < a + k
        · rw [if_pos c1, if_pos (by omega)]
        · rw [if_neg c1]
          by_cases c2 : b ≤ i ∧ i < b + k
          · rw [if_pos c2, if_neg (show ¬ (a ≤ i ∧ i < a + (k + 1)) by omega), if_pos (show b ≤ i ∧ i < b + (k + 1) by omega)]
          · rw [if_neg c2, if_neg (show ¬ (a ≤ i ∧ i < a + (k + 1)) by omega), if_neg (show ¬ (b ≤ i ∧ i < b + (k + 1)) by omega)]
theorem swapR_parts {α : Type} (P X M Y S : List α) (h : X.length = Y.length) :
    swapR (P ++ (X ++ (M ++ (Y ++ S)))) P.length (P.length + X.length + M.length) X.length = P ++ (Y ++ (M ++ (X ++ S))) := by
  apply List.ext_getElem?
  intro i
  rw [swapR_at _ _ _ X.length (by omega) (by simp only [List.length_append]; omega) _ (Nat.le_refl _)]
  simp only [List.getElem?_append]
  repeat' split
  all_goals first
    | rfl
    | (exfalso; omega)
    | (congr 1; omega)
end Go.Proofs.Ytobcakjlfdejjaa.Watch
