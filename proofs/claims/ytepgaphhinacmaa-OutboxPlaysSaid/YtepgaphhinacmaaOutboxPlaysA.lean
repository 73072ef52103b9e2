/- porterlaw13.OutboxPlays: the outbox's things and the document's. No call in sight. -/
import Derived.Test.YtepgaphhinacmaaRef13C
namespace Go.Proofs.Ytepgaphhinacmaa.OutboxPlays
open Go.RowKit Go.Por Go.Proofs.Ytepgaphhinacmaa.OutOI Go.Proofs.Ytepgaphhinacmaa.Ref13

/-- The document's things as the outbox has them: ages for times. -/
def see (now p : Int) (y : It) : It := (y.1, y.2.1, (now - y.2.2) % p)
def view (now p : Int) (items : List It) : List It := items.map (see now p)

structure Play (now p s : Int) (items : List It) : Prop where
  nodup : (items.map (·.1)).Nodup
  since : ∀ x ∈ items, 0 ≤ x.2.2 ∧ x.2.2 ≤ now
  len : (items.length : Int) ≤ s

variable {now p s : Int} {items : List It}
theorem view_length (now p : Int) (items : List It) : (view now p items).length = items.length := by simp [view]
theorem place_view (now p : Int) (items : List It) (k : ByteArray) : place (view now p items) k = place items k := by
  unfold place view
  rw [List.findIdx?_map]
  rfl
theorem see_new (now p : Int) (k : ByteArray) (u : Int) : see now p (k, u, now) = (k, u, 0) := by simp [see]
theorem view_put (h : Play now p s items) (k : ByteArray) (u : Int) : oput s (view now p items) k u = (view now p (rput s now items k u).1, (rput s now items k u).2) := by
  have hl := h.len
  unfold oput rput
  rw [place_view, view_length]
  by_cases h0 : 0 ≤ place items k
  · rw [if_pos h0, if_pos h0]
    simp only [view, List.map_set, see_new]
  · rw [if_neg h0, if_neg h0]
    by_cases h1 : (items.length : Int) = s
    · rw [if_pos h1, if_pos (by omega)]
    · rw [if_neg h1, if_neg (by omega)]
      simp only [view, List.map_append, List.map_cons, List.map_nil, see_new]
theorem rput_cases (s now : Int) (l : List It) (k : ByteArray) (u : Int) :
    ((∀ x ∈ l, x.1 ≠ k) ∧ s ≤ (l.length : Int) ∧ rput s now l k u = (l, 3)) ∨ ((∀ x ∈ l, x.1 ≠ k) ∧ (l.length : Int) < s ∧ rput s now l k u = (l ++ [(k, u, now)], 0)) ∨
      ∃ (A B : List It) (x : It), l = A ++ x :: B ∧ x.1 = k ∧ rput s now l k u = (A ++ (k, u, now) :: B, 0) := by
  rcases place_cases l k with ⟨hpl, hno⟩ | ⟨i, x, hpl, hx, hk⟩
  · have h0 : ¬ (0 ≤ place l k) := by omega
    by_cases hs : s ≤ (l.length : Int)
    · exact .inl ⟨hno, hs, by rw [rput, if_neg h0, if_pos hs]⟩
    · exact .inr (.inl ⟨hno, by omega, by rw [rput, if_neg h0, if_neg hs]⟩)
  · have h0 : 0 ≤ place l k := by omega
    have hi : i < l.length := (List.getElem?_eq_some_iff.1 hx).1
    have e : l[i] = x := by simpa [List.getElem?_eq_getElem hi] using hx
    refine .inr (.inr ⟨l.take i, l.drop (i + 1), x, ?_, hk, ?_⟩)
    · rw [← e, ← List.drop_eq_getElem_cons hi, List.take_append_drop]
    · rw [rput, if_pos h0, hpl]
      congr 1
      show l.set i (k, u, now) = _
      rw [List.set_eq_take_append_cons_drop, if_pos hi]
theorem Play.put (h : Play now p s items) (hn : 0 ≤ now) (k : ByteArray) (u : Int) : Play now p s (rput s now items k u).1 := by
  have hl := h.len
  rcases rput_cases s now items k u with ⟨_, _, e⟩ | ⟨hno, hs, e⟩ | ⟨A, B, x, rfl, hx, e⟩ <;> rw [e]
  · exact h
  · refine ⟨?_, ?_, by simp; omega⟩
    · rw [List.map_append, List.nodup_append]
      refine ⟨h.nodup, by simp, fun a ha b hb e => ?_⟩
      obtain ⟨y, hy, rfl⟩ := List.mem_map.1 ha
      simp only [List.map_cons, List.map_nil, List.mem_singleton] at hb
      exact hno y hy (e.trans hb)
    · intro y hy
      rcases List.mem_append.1 hy with h1 | h1
      · exact h.since y h1
      · simp only [List.mem_singleton] at h1; subst h1; exact ⟨hn, Int.le_refl _⟩
  · refine ⟨?_, ?_, by simpa using hl⟩
    · have : (A ++ (k, u, now) :: B).map (·.1) = (A ++ x :: B).map (·.1) := by simp [hx]
      rw [this]; exact h.nodup
    · intro y hy
      rcases List.mem_append.1 hy with h1 | h1
      · exact h.since y (List.mem_append_left _ h1)
      · rcases List.mem_cons.1 h1 with h2 | h2
        · subst h2; exact ⟨hn, Int.le_refl _⟩
        · exact h.since y (List.mem_append_right _ (List.mem_cons_of_mem _ h2))
theorem rack_none {items : List It} {k : ByteArray} (h : ∀ x ∈ items, x.1 ≠ k) : rack items k = items := by
  rw [rack, List.filter_eq_self]
  intro x hx
  simpa using h x hx
theorem rack_some {A B : List It} {x : It} {k : ByteArray} (hn : ((A ++ x :: B).map (·.1)).Nodup) (hx : x.1 = k) : rack (A ++ x :: B) k = A ++ B := by
  rw [List.map_append, List.map_cons, List.nodup_append, List.nodup_cons] at hn
  have hA : ∀ y ∈ A, y.1 ≠ k := fun y hy e => hn.2.2 y.1 (List.mem_map.2 ⟨y, hy, rfl⟩) x.1 (List.mem_cons_self) (e.trans hx.symm)
  have hB : ∀ y ∈ B, y.1 ≠ k := fun y hy e => hn.2.1.1 (List.mem_map.2 ⟨y, hy, e.trans hx.symm⟩)
  have e1 := rack_none hA
  have e2 := rack_none hB
  unfold rack at e1 e2 ⊢
  rw [List.filter_append, List.filter_cons_of_neg (by simpa using hx), e1, e2]
theorem view_ack (h : Play now p s items) (k : ByteArray) : oack (view now p items) k = (view now p (rack items k), decide ((rack items k).length < items.length)) := by
  unfold oack
  rw [place_view]
  rcases place_cases items k with ⟨hpl, hno⟩ | ⟨i, x, hpl, hx, hk⟩
  · rw [if_neg (by omega), rack_none hno]
    simp
  · have hi : i < items.length := (List.getElem?_eq_some_iff.1 hx).1
    have e : items[i] = x := by simpa [List.getElem?_eq_getElem hi] using hx
    have hsp : items = items.take i ++ x :: items.drop (i + 1) := by rw [← e, ← List.drop_eq_getElem_cons hi, List.take_append_drop]
    have hra : rack items k = items.eraseIdx i := by
      have hn := h.nodup
      rw [hsp] at hn
      have := rack_some hn hk
      rw [← hsp] at this
      rw [this, List.eraseIdx_eq_take_drop_succ]
    rw [if_pos (by omega), hpl, hra]
    have hl : (items.eraseIdx i).length < items.length := by rw [List.length_eraseIdx, if_pos hi]; omega
    rw [show decide ((items.eraseIdx i).length < items.length) = true by simpa using hl]
    simp only [view, Int.toNat_natCast, List.eraseIdx_eq_take_drop_succ, List.map_append, List.map_take, List.map_drop]
theorem Play.ack (h : Play now p s items) (k : ByteArray) : Play now p s (rack items k) where
  nodup := h.nodup.sublist (List.Sublist.map _ List.filter_sublist)
  since x hx := h.since x (List.mem_filter.1 hx).1
  len := by have h1 : (rack items k).length ≤ items.length := List.length_filter_le _ _; have := h.len; omega
theorem nexta_emod (hp : 1 ≤ p) (m : Int) : nexta p (m % p) = (m + 1) % p := by
  have h0 := Int.emod_nonneg m (show p ≠ 0 by omega)
  have h1 := Int.emod_lt_of_pos m (show 0 < p by omega)
  rw [Int.add_emod m 1 p, nexta]
  by_cases hp1 : p = 1
  · subst hp1
    simp at h0 h1 ⊢
  · rw [Int.emod_eq_of_lt (show (0 : Int) ≤ 1 by omega) (by omega)]
    split
    · rename_i h; rw [h]; exact (Int.emod_self).symm
    · exact (Int.emod_eq_of_lt (by omega) (by omega)).symm
theorem view_tick (hp : 1 ≤ p) (now : Int) (items : List It) : (view now p items).map (aged p) = view (now + 1) p items := by
  unfold view
  rw [List.map_map]
  refine List.map_congr_left fun x _ => ?_
  show (x.1, x.2.1, nexta p ((now - x.2.2) % p)) = (x.1, x.2.1, (now + 1 - x.2.2) % p)
  rw [nexta_emod hp]
  congr 3
  omega
theorem Play.tick (h : Play now p s items) : Play (now + 1) p s items := ⟨h.nodup, fun x hx => by have := h.since x hx; omega, h.len⟩
theorem view_due (h : Play now p s items) : OutOI.due (view now p items) = rdue now p items := by
  unfold OutOI.due view rdue
  rw [List.filter_map, List.map_map]
  have e : items.filter ((fun x : It => decide (x.2.2 = 0)) ∘ see now p) = items.filter (fun x => decide ((now - x.2.2).tmod p = 0)) := by
    refine List.filter_congr fun x hx => ?_
    show decide ((now - x.2.2) % p = 0) = _
    rw [Int.tmod_eq_emod_of_nonneg (by have := h.since x hx; omega)]
  rw [e]
  rfl
theorem view_ages (hp : 1 ≤ p) (now : Int) (items : List It) : ∀ x ∈ view now p items, 0 ≤ x.2.2 ∧ x.2.2 < p := by
  intro x hx
  obtain ⟨y, _, rfl⟩ := List.mem_map.1 hx
  exact ⟨Int.emod_nonneg _ (by omega), Int.emod_lt_of_pos _ (by omega)⟩
theorem view_keys (now p : Int) (items : List It) : (view now p items).map (fun x => Value.string x.1) = items.map (fun x => Value.string x.1) := by
  unfold view
  rw [List.map_map]
  rfl
end Go.Proofs.Ytepgaphhinacmaa.OutboxPlays
