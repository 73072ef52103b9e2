/- porterlaw13.OutboxDue: the thing that is watched, among others. No call in sight. -/
import Derived.Test.YtepgaphhinacmaaOutGOI
namespace Go.Proofs.Ytepgaphhinacmaa.OutboxDue
open Go.RowKit Go.Por Go.Proofs.Ytepgaphhinacmaa.OutOI

def mine : ByteArray := { data := #[109, 105, 110, 101] }

structure Due (p a : Int) (l : List It) : Prop where
  one : l.filter (fun x => decide (x.1 = mine)) = [(mine, -1, a)]
  others : ∀ x ∈ l, x.1 ≠ mine → x.2.1 ≠ -1
  ages : ∀ x ∈ l, 0 ≤ x.2.2 ∧ x.2.2 < p
  len : (l.length : Int) ≤ 50

variable {p a : Int} {l : List It}
theorem Due.put (h : Due p a l) (hp : 1 ≤ p) {k : ByteArray} {u : Int} (hk : k ≠ mine) (hu : u ≠ -1) : Due p a (oput 50 l k u).1 := by
  have hl := oput_length 50 l k u h.len
  rcases oput_cases 50 l k u with ⟨_, _, e⟩ | ⟨_, _, e⟩ | ⟨A, B, x, rfl, _, hx, e⟩ <;> rw [e] at hl ⊢
  · exact h
  · refine ⟨?_, ?_, ?_, hl⟩
    · rw [List.filter_append, h.one, List.filter_cons_of_neg (by simpa using hk)]
      rfl
    · intro x hx hm
      rcases List.mem_append.1 hx with h1 | h1
      · exact h.others x h1 hm
      · simp only [List.mem_singleton] at h1
        subst h1
        exact hu
    · intro x hx
      rcases List.mem_append.1 hx with h1 | h1
      · exact h.ages x h1
      · simp only [List.mem_singleton] at h1
        subst h1
        exact ⟨Int.le_refl _, hp⟩
  · have h0 := h.one
    rw [List.filter_append, List.filter_cons_of_neg (by rw [hx]; simpa using hk)] at h0
    refine ⟨?_, ?_, ?_, hl⟩
    · rw [List.filter_append, List.filter_cons_of_neg (by simpa using hk)]
      exact h0
    · intro y hy hm
      rcases List.mem_append.1 hy with h1 | h1
      · exact h.others y (List.mem_append_left _ h1) hm
      · rcases List.mem_cons.1 h1 with h2 | h2
        · subst h2; exact hu
        · exact h.others y (List.mem_append_right _ (List.mem_cons_of_mem _ h2)) hm
    · intro y hy
      rcases List.mem_append.1 hy with h1 | h1
      · exact h.ages y (List.mem_append_left _ h1)
      · rcases List.mem_cons.1 h1 with h2 | h2
        · subst h2; exact ⟨Int.le_refl _, hp⟩
        · exact h.ages y (List.mem_append_right _ (List.mem_cons_of_mem _ h2))
theorem Due.ack (h : Due p a l) {k : ByteArray} (hk : k ≠ mine) : Due p a (oack l k).1 := by
  have hl := oack_length l k
  have hlen := h.len
  rcases oack_cases l k with ⟨_, e⟩ | ⟨A, B, x, rfl, _, hx, e⟩ <;> rw [e] at hl ⊢
  · exact h
  · have h0 := h.one
    rw [List.filter_append, List.filter_cons_of_neg (by rw [hx]; simpa using hk), ← List.filter_append] at h0
    have hsub : ∀ y, y ∈ A ++ B → y ∈ A ++ x :: B := by
      intro y hy
      rcases List.mem_append.1 hy with h1 | h1
      · exact List.mem_append_left _ h1
      · exact List.mem_append_right _ (List.mem_cons_of_mem _ h1)
    exact ⟨h0, fun y hy => h.others y (hsub y hy), fun y hy => h.ages y (hsub y hy), by have h3 : (A ++ B).length ≤ (A ++ x :: B).length := hl; omega⟩
theorem Due.tick (h : Due p a l) : Due p (nexta p a) (l.map (aged p)) where
  one := by
    rw [List.filter_map]
    have e : ((fun x : It => decide (x.1 = mine)) ∘ aged p) = fun x => decide (x.1 = mine) := rfl
    rw [e, h.one]
    rfl
  others := by
    intro x hx hm
    obtain ⟨y, hy, rfl⟩ := List.mem_map.1 hx
    exact h.others y hy hm
  ages := by
    intro x hx
    obtain ⟨y, hy, rfl⟩ := List.mem_map.1 hx
    exact nexta_ok (h.ages y hy).1 (h.ages y hy).2
  len := by rw [List.length_map]; exact h.len
theorem count_due (a : Int) : ∀ (l : List It), (∀ x ∈ l, x.1 ≠ mine → x.2.1 ≠ -1) → (∀ x ∈ l, x.1 = mine → x = (mine, -1, a)) →
    (OutOI.due l).count (-1) = if a = 0 then (l.filter (fun x => decide (x.1 = mine))).length else 0
  | [], _, _ => by simp [OutOI.due]
  | x :: r, h1, h2 => by
    have ih := count_due a r (fun y hy => h1 y (List.mem_cons_of_mem _ hy)) (fun y hy => h2 y (List.mem_cons_of_mem _ hy))
    have e : OutOI.due (x :: r) = (if x.2.2 = 0 then [x.2.1] else []) ++ OutOI.due r := by
      by_cases h : x.2.2 = 0 <;> simp [OutOI.due, h]
    rw [e, List.count_append, ih]
    by_cases hx : x.1 = mine
    · have hx' := h2 x (List.mem_cons_self) hx
      rw [List.filter_cons_of_pos (by simpa using hx), hx']
      by_cases ha : a = 0
      · simp [ha]; omega
      · simp [ha]
    · have hx' := h1 x (List.mem_cons_self) hx
      rw [List.filter_cons_of_neg (by simpa using hx)]
      by_cases hz : x.2.2 = 0
      · have h0 : List.count (-1 : Int) [x.2.1] = 0 := by simp [hx']
        rw [if_pos hz, h0, Nat.zero_add]
      · rw [if_neg hz]; simp
theorem Due.count (h : Due p a l) : (OutOI.due l).count (-1) = if a = 0 then 1 else 0 := by
  rw [count_due a l h.others, h.one]
  · rfl
  · intro x hx hm
    have : x ∈ l.filter (fun x => decide (x.1 = mine)) := List.mem_filter.2 ⟨hx, by simpa using hm⟩
    rw [h.one] at this
    simpa using this
theorem Due.there (h : Due p a l) : (oack l mine).2 = true := by
  rcases oack_cases l mine with ⟨hn, e⟩ | ⟨A, B, x, _, _, _, e⟩
  · have : (mine, -1, a) ∈ l.filter (fun x => decide (x.1 = mine)) := by rw [h.one]; simp
    exact absurd rfl (hn _ (List.mem_filter.1 this).1)
  · rw [e]
theorem Due.start (hp : 1 ≤ p) : Due p 0 [(mine, -1, 0)] := ⟨by simp, by simp, by simp; omega, by simp⟩

/-! How often. -/
/-- t ticks have gone by: q periods, and 'a' ticks. -/
def Often (p t a n : Int) : Prop := ∃ q : Int, 0 ≤ q ∧ t = q * p + a ∧ 0 ≤ a ∧ a < p ∧ n = if a = 0 then q else q + 1
theorem Often.start (hp : 1 ≤ p) : Often p 0 0 0 := ⟨0, by omega, by omega, by omega, by omega, rfl⟩
theorem Often.next {t n : Int} (h : Often p t a n) : Often p (t + 1) (nexta p a) (n + if a = 0 then 1 else 0) := by
  obtain ⟨q, hq, ht, h0, h1, hn⟩ := h
  unfold nexta
  by_cases ha : a + 1 = p
  · rw [if_pos ha]
    refine ⟨q + 1, by omega, by rw [Int.add_mul]; omega, by omega, by omega, ?_⟩
    rw [hn, if_pos rfl]
    split <;> omega
  · rw [if_neg ha]
    refine ⟨q, hq, by omega, by omega, by omega, ?_⟩
    rw [hn, if_neg (show ¬ (a + 1 = 0) by omega)]
    split <;> omega
theorem Often.done {t n : Int} (h : Often p t a n) : (t + p - 1).tdiv p = n := by
  obtain ⟨q, hq, rfl, h0, h1, rfl⟩ := h
  have hqp : 0 ≤ q * p := Int.mul_nonneg hq (by omega)
  rw [Int.tdiv_eq_ediv_of_nonneg (by omega)]
  by_cases ha : a = 0
  · rw [if_pos ha, show q * p + a + p - 1 = (p - 1) + q * p by omega, Int.add_mul_ediv_right _ _ (by omega), Int.ediv_eq_zero_of_lt (by omega) (by omega)]
    omega
  · rw [if_neg ha, show q * p + a + p - 1 = (a - 1) + (q + 1) * p by rw [Int.add_mul]; omega, Int.add_mul_ediv_right _ _ (by omega), Int.ediv_eq_zero_of_lt (by omega) (by omega)]
    omega
theorem Often.bounds {t n : Int} (h : Often p t a n) : 0 ≤ n ∧ n ≤ t := by
  obtain ⟨q, hq, rfl, h0, h1, rfl⟩ := h
  have hqp : q * 1 ≤ q * p := Int.mul_le_mul_of_nonneg_left (by omega) hq
  split <;> omega
end Go.Proofs.Ytepgaphhinacmaa.OutboxDue
