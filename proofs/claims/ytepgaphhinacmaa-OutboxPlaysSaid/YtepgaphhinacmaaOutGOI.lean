/- The outbox at keys string and values int: Put and Ack, whatever is there; what they make of the things. -/
import Derived.Test.YtepgaphhinacmaaOutFOI
namespace Go.Proofs.Ytepgaphhinacmaa.OutOI
open Go.RowKit Go.Por

def oack (l : List It) (k : ByteArray) : List It × Bool :=
  if 0 ≤ place l k then (l.eraseIdx (place l k).toNat, true) else (l, false)

section
variable {w : World} {O : Nat} {v : Value} {l : List It} {p s : Int}
theorem put_any (H : OutIs w O v l p s) (hlen : l.length ≤ 4096) (k : ByteArray) (u : Int) :
    Calls Try.prog 37 #[.pointer (some ⟨O, 0, none⟩), .string k, Value.int .i64 u] w fun e w' => e = .returned (.int .i64 (oput s l k u).2) ∧
      ∃ v', OutIs w' O v' (oput s l k u).1 p s ∧ (∀ x, ofoot O v' x → ofoot O v x ∨ w.heap.size ≤ x) ∧ Mod (ofoot O v) w w' := by
  rcases place_cases l k with ⟨hpl, hno⟩ | ⟨i, x, hpl, hx, hk⟩
  · have h0 : ¬ (0 ≤ place l k) := by omega
    by_cases hs : (l.length : Int) = s
    · have e : oput s l k u = (l, 3) := by rw [oput, if_neg h0, if_pos hs]
      rw [e]
      exact (put_full H hlen hpl hs u).mono fun e w' ⟨h1, h2, h3⟩ => ⟨h1, v, h2, fun x hx => .inl hx, h3⟩
    · have e : oput s l k u = (l ++ [(k, u, 0)], 0) := by rw [oput, if_neg h0, if_neg hs]
      rw [e]
      exact put_new H hlen hpl hs u
  · have h0 : 0 ≤ place l k := by omega
    have e : oput s l k u = (l.set i (k, u, 0), 0) := by rw [oput, if_pos h0, hpl]; rfl
    rw [e]
    exact (put_old H hlen hpl hx hk u).mono fun e w' ⟨h1, h2, h3⟩ => ⟨h1, v, h2, fun x hx => .inl hx, h3⟩
theorem ack_any (H : OutIs w O v l p s) (hlen : l.length ≤ 4096) (k : ByteArray) :
    Calls Try.prog 38 #[.pointer (some ⟨O, 0, none⟩), .string k] w fun e w' => e = .returned (.bool (oack l k).2) ∧
      ∃ v', OutIs w' O v' (oack l k).1 p s ∧ (∀ x, ofoot O v' x → ofoot O v x) ∧ Mod (ofoot O v) w w' := by
  rcases place_cases l k with ⟨hpl, hno⟩ | ⟨i, x, hpl, hx, hk⟩
  · have h0 : ¬ (0 ≤ place l k) := by omega
    have e : oack l k = (l, false) := by rw [oack, if_neg h0]
    rw [e]
    exact (ack_none H hlen hpl).mono fun e w' ⟨h1, h2, h3⟩ => ⟨h1, v, h2, fun x hx => hx, h3⟩
  · have h0 : 0 ≤ place l k := by omega
    have e : oack l k = (l.eraseIdx i, true) := by rw [oack, if_pos h0, hpl]; rfl
    rw [e]
    exact ack_some H hlen hpl hx
end

/-- What a thing put does to the things of other keys. -/
theorem oput_cases (s : Int) (l : List It) (k : ByteArray) (u : Int) :
    ((∀ x ∈ l, x.1 ≠ k) ∧ (l.length : Int) = s ∧ oput s l k u = (l, 3)) ∨ ((∀ x ∈ l, x.1 ≠ k) ∧ (l.length : Int) ≠ s ∧ oput s l k u = (l ++ [(k, u, 0)], 0)) ∨
      ∃ (A B : List It) (x : It), l = A ++ x :: B ∧ (∀ y ∈ A, y.1 ≠ k) ∧ x.1 = k ∧ oput s l k u = (A ++ (k, u, 0) :: B, 0) := by
  rcases place_cases' l k with ⟨hpl, hno⟩ | ⟨i, x, hpl, hx, hk, hb⟩
  · have h0 : ¬ (0 ≤ place l k) := by omega
    by_cases hs : (l.length : Int) = s
    · exact .inl ⟨hno, hs, by rw [oput, if_neg h0, if_pos hs]⟩
    · exact .inr (.inl ⟨hno, hs, by rw [oput, if_neg h0, if_neg hs]⟩)
  · have h0 : 0 ≤ place l k := by omega
    have hi : i < l.length := by
      rcases Nat.lt_or_ge i l.length with h | h
      · exact h
      · simp [List.getElem?_eq_none h] at hx
    have e : l[i] = x := by simpa [List.getElem?_eq_getElem hi] using hx
    refine .inr (.inr ⟨l.take i, l.drop (i + 1), x, ?_, ?_, hk, ?_⟩)
    · rw [← e, ← List.drop_eq_getElem_cons hi, List.take_append_drop]
    · intro y hy
      obtain ⟨j, hj⟩ := List.getElem?_of_mem hy
      rw [List.getElem?_take] at hj
      split at hj
      · exact hb j (by assumption) y hj
      · cases hj
    · rw [oput, if_pos h0, hpl]
      congr 1
      show l.set i (k, u, 0) = _
      rw [List.set_eq_take_append_cons_drop, if_pos hi]
theorem oack_cases (l : List It) (k : ByteArray) :
    ((∀ x ∈ l, x.1 ≠ k) ∧ oack l k = (l, false)) ∨ ∃ (A B : List It) (x : It), l = A ++ x :: B ∧ (∀ y ∈ A, y.1 ≠ k) ∧ x.1 = k ∧ oack l k = (A ++ B, true) := by
  rcases place_cases' l k with ⟨hpl, hno⟩ | ⟨i, x, hpl, hx, hk, hb⟩
  · have h0 : ¬ (0 ≤ place l k) := by omega
    exact .inl ⟨hno, by rw [oack, if_neg h0]⟩
  · have h0 : 0 ≤ place l k := by omega
    have hi : i < l.length := by
      rcases Nat.lt_or_ge i l.length with h | h
      · exact h
      · simp [List.getElem?_eq_none h] at hx
    have e : l[i] = x := by simpa [List.getElem?_eq_getElem hi] using hx
    refine .inr ⟨l.take i, l.drop (i + 1), x, ?_, ?_, hk, ?_⟩
    · rw [← e, ← List.drop_eq_getElem_cons hi, List.take_append_drop]
    · intro y hy
      obtain ⟨j, hj⟩ := List.getElem?_of_mem hy
      rw [List.getElem?_take] at hj
      split at hj
      · exact hb j (by assumption) y hj
      · cases hj
    · rw [oack, if_pos h0, hpl]
      congr 1
      exact List.eraseIdx_eq_take_drop_succ _ _
theorem oput_length (s : Int) (l : List It) (k : ByteArray) (u : Int) (h : (l.length : Int) ≤ s) : ((oput s l k u).1.length : Int) ≤ s := by
  rcases oput_cases s l k u with ⟨_, h1, e⟩ | ⟨_, h1, e⟩ | ⟨A, B, x, rfl, _, _, e⟩ <;> rw [e]
  · exact h
  · simp; omega
  · simpa using h
theorem oack_length (l : List It) (k : ByteArray) : (oack l k).1.length ≤ l.length := by
  rcases oack_cases l k with ⟨_, e⟩ | ⟨A, B, x, rfl, _, _, e⟩ <;> rw [e]
  · exact Nat.le_refl _
  · simp
end Go.Proofs.Ytepgaphhinacmaa.OutOI
