/- The keys of a cache are the last unlike ones: plain lists. No program in sight. -/
import Derived.Test.YtepgaphhinacmaaLru
namespace Go.Por
section
variable {κ ν : Type} [DecidableEq κ]

/-- Each thing once, where it stands first. -/
def dedup : List κ → List κ
  | [] => []
  | x :: xs => x :: (dedup xs).filter (fun y => decide (y ≠ x))

theorem mem_dedup {x : κ} : ∀ {l : List κ}, x ∈ dedup l ↔ x ∈ l
  | [] => Iff.rfl
  | y :: l => by
    simp only [dedup, List.mem_cons, List.mem_filter, mem_dedup (l := l), decide_eq_true_eq]
    constructor
    · rintro (h | h)
      · exact .inl h
      · exact .inr h.1
    · rintro (h | h)
      · exact .inl h
      · by_cases e : x = y
        · exact .inl e
        · exact .inr ⟨h, e⟩
theorem dedup_nodup : ∀ (l : List κ), (dedup l).Nodup
  | [] => List.nodup_nil
  | y :: l => by
    rw [dedup, List.nodup_cons]
    exact ⟨by simp, (List.filter_sublist).nodup (dedup_nodup l)⟩
theorem dedup_snoc : ∀ (l : List κ) (x : κ), dedup (l ++ [x]) = if x ∈ l then dedup l else dedup l ++ [x]
  | [], x => by simp [dedup]
  | y :: l, x => by
    rw [List.cons_append, dedup, dedup_snoc l x]
    by_cases hx : x ∈ l
    · rw [if_pos hx, if_pos (by simp [hx])]; rfl
    · rw [if_neg hx]
      by_cases e : x = y
      · subst e
        rw [if_pos (by simp), List.filter_append]
        simp [dedup]
      · rw [if_neg (by simp [hx, e]), List.filter_append]
        simp [dedup, e]
/-- Of a list with a thing taken out. -/
theorem take_filter_out {k : κ} {n : Nat} : ∀ {l : List κ}, l.Nodup → k ∈ l.take (n + 1) → (l.take (n + 1)).filter (fun y => decide (y ≠ k)) = (l.filter (fun y => decide (y ≠ k))).take n := by
  intro l hn hk
  obtain ⟨A, B, hAB⟩ := List.append_of_mem hk
  have hl : l = A ++ k :: (B ++ l.drop (n + 1)) := by
    calc l = l.take (n + 1) ++ l.drop (n + 1) := (List.take_append_drop _ _).symm
      _ = A ++ k :: (B ++ l.drop (n + 1)) := by rw [hAB]; simp
  have hlen : (A ++ k :: B).length ≤ n + 1 := by rw [← hAB]; exact List.length_take_le _ _
  have hlen' : (A ++ B).length ≤ n := by simp at hlen ⊢; omega
  rw [hl] at hn
  simp only [List.nodup_append, List.nodup_cons, List.mem_append, List.mem_cons] at hn
  have f1 : A.filter (fun y => decide (y ≠ k)) = A := by
    rw [List.filter_eq_self]
    intro a ha
    simp only [decide_eq_true_eq]
    exact hn.2.2 a ha k (.inl rfl)
  have f2 : B.filter (fun y => decide (y ≠ k)) = B := by
    rw [List.filter_eq_self]
    intro a ha
    simp only [decide_eq_true_eq]
    intro e; subst e
    exact hn.2.1.1 (.inl ha)
  have f3 : (l.drop (n + 1)).filter (fun y => decide (y ≠ k)) = l.drop (n + 1) := by
    rw [List.filter_eq_self]
    intro a ha
    simp only [decide_eq_true_eq]
    intro e; subst e
    exact hn.2.1.1 (.inr ha)
  rw [hAB, List.filter_append, List.filter_cons_of_neg (by simp), f1, f2]
  have : l.filter (fun y => decide (y ≠ k)) = (A ++ B) ++ l.drop (n + 1) := by
    conv => lhs; rw [hl]
    rw [List.filter_append, List.filter_cons_of_neg (by simp), List.filter_append, f1, f2, f3]
    simp
  rw [this]
  by_cases hfull : (A ++ B).length = n
  · rw [List.take_left' hfull]
  · have hd : l.drop (n + 1) = [] := by
      rw [List.drop_eq_nil_iff]
      have h1 : (l.take (n + 1)).length = min (n + 1) l.length := List.length_take
      rw [hAB] at h1
      simp at h1 hfull hlen'
      omega
    rw [hd, List.append_nil, List.take_of_length_le hlen']
theorem take_filter_in {k : κ} {n : Nat} {l : List κ} (hk : k ∉ l.take n) : (l.filter (fun y => decide (y ≠ k))).take n = l.take n := by
  have h1 : l.filter (fun y => decide (y ≠ k)) = l.take n ++ (l.drop n).filter (fun y => decide (y ≠ k)) := by
    conv => lhs; rw [← List.take_append_drop n l]
    rw [List.filter_append]
    congr 1
    rw [List.filter_eq_self]
    intro a ha
    simp only [decide_eq_true_eq]
    intro e; subst e
    exact hk ha
  rw [h1]
  by_cases hl : n ≤ l.length
  · rw [List.take_left' (by rw [List.length_take]; omega)]
  · have : l.drop n = [] := by rw [List.drop_eq_nil_iff]; omega
    rw [this, List.filter_nil, List.append_nil, List.take_take, Nat.min_self]

theorem kdrop_fst (l : List (κ × ν)) (k : κ) : (kdrop l k).map (·.1) = (l.map (·.1)).filter (fun y => decide (y ≠ k)) := by
  induction l with
  | nil => rfl
  | cons x r ih =>
    rw [kdrop] at ih ⊢
    by_cases hx : x.1 = k
    · rw [List.filter_cons_of_neg (by simpa using hx), List.map_cons, List.filter_cons_of_neg (by simpa using hx)]; exact ih
    · rw [List.filter_cons_of_pos (by simpa using hx), List.map_cons, List.map_cons, List.filter_cons_of_pos (by simpa using hx), ih]

/-- Asked for, then put: as put. -/
theorem lput_lget (sz : Int) (l : List (κ × ν)) (k : κ) (v : ν) : lput sz (lget l k) k v = lput sz l k v := by
  unfold lget
  cases h : klook l k with
  | none => rfl
  | some u =>
    have e1 : klook ((k, u) :: kdrop l k) k = some u := by simp [klook]
    have e2 : kdrop ((k, u) :: kdrop l k) k = kdrop l k := by
      rw [kdrop, List.filter_cons_of_neg (by simp)]
      exact List.filter_eq_self.2 (fun p hp => (List.mem_filter.1 hp).2)
    simp [lput, h, e1, e2]

/-- The keys behind a Put. -/
theorem lput_keys {n : Nat} {l : List (κ × ν)} {xs : List κ} (hl : l.map (·.1) = (dedup xs).take (n + 1)) (k : κ) (v : ν) :
    (lput (n + 1 : Nat) l k v).map (·.1) = (dedup (k :: xs)).take (n + 1) := by
  have hnd := dedup_nodup xs
  rw [dedup, List.take_succ_cons]
  unfold lput
  rw [List.map_cons]
  congr 1
  cases h : klook l k with
  | some u =>
    have hk : k ∈ l.map (·.1) := List.mem_map.2 ⟨_, klook_some h, rfl⟩
    rw [if_pos (by simp), kdrop_fst, hl]
    rw [hl] at hk
    exact take_filter_out hnd hk
  | none =>
    have hk : k ∉ l.map (·.1) := klook_none.1 h
    rw [hl] at hk
    rw [if_neg (by simp)]
    have hlen : l.length = ((dedup xs).take (n + 1)).length := by rw [← hl]; simp
    have hk' : k ∉ (dedup xs).take n := fun h1 => hk (by
      rw [List.take_add_one]; exact List.mem_append.2 (.inl h1))
    rw [take_filter_in hk']
    by_cases hfull : (l.length : Int) = ((n + 1 : Nat) : Int)
    · rw [if_pos hfull, List.map_dropLast, hl, List.dropLast_eq_take, List.take_take, ← hlen]
      congr 1
      omega
    · rw [if_neg hfull, hl]
      rw [List.length_take] at hlen
      rw [List.take_of_length_le (by omega), List.take_of_length_le (by omega)]

/-- The first n unlike ones, gone on by one. -/
theorem dedup_take_snoc {n : Nat} (l : List κ) (x : κ) (h : ((dedup l).take n).length < n) :
    (dedup (l ++ [x])).take n = if x ∈ (dedup l).take n then (dedup l).take n else (dedup l).take n ++ [x] := by
  rw [List.length_take] at h
  have hl : (dedup l).length < n := by omega
  rw [List.take_of_length_le (by omega : (dedup l).length ≤ n), dedup_snoc]
  by_cases hx : x ∈ l
  · rw [if_pos hx, if_pos (mem_dedup.2 hx), List.take_of_length_le (by omega)]
  · rw [if_neg hx, if_neg (fun h1 => hx (mem_dedup.1 h1)), List.take_of_length_le (by simp; omega)]
theorem dedup_prefix : ∀ (l r : List κ), ∃ c, dedup (l ++ r) = dedup l ++ c
  | l, [] => ⟨[], by simp⟩
  | l, x :: r => by
    have e : l ++ x :: r = (l ++ [x]) ++ r := by simp
    obtain ⟨c, hc⟩ := dedup_prefix (l ++ [x]) r
    rw [e, hc, dedup_snoc]
    split
    · exact ⟨c, rfl⟩
    · exact ⟨x :: c, by simp⟩
/-- Where there are n already, no more come. -/
theorem dedup_take_full {n : Nat} (l r : List κ) (h : ((dedup l).take n).length = n) : (dedup (l ++ r)).take n = (dedup l).take n := by
  obtain ⟨c, hc⟩ := dedup_prefix l r
  rw [List.length_take] at h
  rw [hc, List.take_append_of_le_length (by omega)]

/-- What a Put leaves under the keys. -/
theorem mem_lput {sz : Int} {l : List (κ × ν)} {k q : κ} {v u : ν} (h : (q, u) ∈ lput sz l k v) : (q = k ∧ u = v) ∨ (q, u) ∈ l ∧ (q = k → ∃ u', klook l k = none ∧ (k, u') ∈ l) := by
  unfold lput at h
  rcases List.mem_cons.1 h with e | h
  · exact .inl ⟨(Prod.mk.inj e).1, (Prod.mk.inj e).2⟩
  · split at h
    · simp [kdrop] at h
      exact .inr ⟨h.1, fun e => absurd e h.2⟩
    · rename_i hn
      have hn' : klook l k = none := by simpa using hn
      have hm : (q, u) ∈ l := by
        split at h
        · exact List.dropLast_subset _ h
        · exact h
      exact .inr ⟨hm, fun e => ⟨u, hn', e ▸ hm⟩⟩
/-- .. or what was there, under another key. -/
theorem mem_lput' {sz : Int} {l : List (κ × ν)} {k q : κ} {v u : ν} (h : (q, u) ∈ lput sz l k v) : (q = k ∧ u = v) ∨ (q ≠ k ∧ (q, u) ∈ l) := by
  rcases mem_lput h with h1 | ⟨h1, h2⟩
  · exact .inl h1
  · by_cases e : q = k
    · obtain ⟨u', hn, hm⟩ := h2 e
      exact absurd (List.mem_map.2 ⟨_, hm, rfl⟩) (klook_none.1 hn)
    · exact .inr ⟨e, h1⟩
theorem rev_at (keys : List Int) {k t : Nat} (hk : k < keys.length) (ht : t ≤ k) :
    (keys.take (k + 1)).reverse.take (t + 1) = (keys.take (k + 1)).reverse.take t ++ [keys.getD (k - t) 0] := by
  have h1 : t < (keys.take (k + 1)).reverse.length := by simp; omega
  rw [List.take_succ_eq_append_getElem h1]
  congr 1
  have h2 : k - t < keys.length := by omega
  simp [List.getElem_reverse, List.getElem_take, List.getD_eq_getElem?_getD, List.getElem?_eq_getElem h2]
  congr 1
  omega
theorem rev_cons (keys : List Int) {k : Nat} (hk : k < keys.length) : (keys.take (k + 1)).reverse = keys.getD k 0 :: (keys.take k).reverse := by
  rw [List.take_succ_eq_append_getElem hk, List.reverse_append]
  simp [List.getD_eq_getElem?_getD, List.getElem?_eq_getElem hk]
end
end Go.Por
