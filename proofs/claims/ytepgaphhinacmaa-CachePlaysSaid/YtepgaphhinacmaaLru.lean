/- Keys with values, the one used last first: plain lists. No program in sight. -/
namespace Go.Por
section
variable {κ ν : Type} [DecidableEq κ]

def klook (l : List (κ × ν)) (k : κ) : Option ν := (l.find? (fun p => decide (p.1 = k))).map (·.2)
def kdrop (l : List (κ × ν)) (k : κ) : List (κ × ν) := l.filter (fun p => decide (p.1 ≠ k))
def lget (l : List (κ × ν)) (k : κ) : List (κ × ν) :=
  match klook l k with
  | none => l
  | some v => (k, v) :: kdrop l k
def lput (sz : Int) (l : List (κ × ν)) (k : κ) (v : ν) : List (κ × ν) :=
  (k, v) :: (if (klook l k).isSome then kdrop l k else if (l.length : Int) = sz then l.dropLast else l)
def kv (es : List (κ × ν × Nat)) : List (κ × ν) := es.map (fun x => (x.1, x.2.1))

omit [DecidableEq κ] in
theorem kv_fst (es : List (κ × ν × Nat)) : (kv es).map (·.1) = es.map (·.1) := by simp [kv]
omit [DecidableEq κ] in
theorem kv_length (es : List (κ × ν × Nat)) : (kv es).length = es.length := by simp [kv]
omit [DecidableEq κ] in
theorem kv_append (a b : List (κ × ν × Nat)) : kv (a ++ b) = kv a ++ kv b := by simp [kv]

theorem klook_none {l : List (κ × ν)} {k : κ} : klook l k = none ↔ k ∉ l.map (·.1) := by
  rw [klook, Option.map_eq_none_iff, List.find?_eq_none]
  constructor
  · intro h hk
    obtain ⟨p, hp, e⟩ := List.mem_map.1 hk
    exact h p hp (by simpa using e)
  · intro h p hp e
    exact h (List.mem_map.2 ⟨p, hp, by simpa using e⟩)
theorem klook_some {l : List (κ × ν)} {k : κ} {v : ν} (h : klook l k = some v) : (k, v) ∈ l := by
  rw [klook, Option.map_eq_some_iff] at h
  obtain ⟨p, hp, rfl⟩ := h
  have h1 := List.mem_of_find?_eq_some hp
  have h2 := List.find?_some hp
  simp at h2
  rw [← h2]; exact h1
theorem klook_of_mem {l : List (κ × ν)} {k : κ} {v : ν} (hn : (l.map (·.1)).Nodup) (h : (k, v) ∈ l) : klook l k = some v := by
  induction l with
  | nil => cases h
  | cons x r ih =>
    simp only [List.map_cons, List.nodup_cons] at hn
    by_cases hx : x.1 = k
    · have : x = (k, v) := by
        rcases List.mem_cons.1 h with e | e
        · exact e.symm
        · exact absurd (List.mem_map.2 ⟨_, e, rfl⟩) (by rw [← hx]; exact hn.1)
      subst this
      simp [klook]
    · rcases List.mem_cons.1 h with e | e
      · exact absurd (by rw [← e]) hx
      · have := ih hn.2 e
        rw [klook, List.find?_cons_of_neg (by simpa using hx)]
        exact this
/-- Where a key is. -/
theorem klook_split {es : List (κ × ν × Nat)} {k : κ} {v : ν} (hn : (es.map (·.1)).Nodup) (h : klook (kv es) k = some v) :
    ∃ xs ys b, es = xs ++ (k, v, b) :: ys ∧ kv (xs ++ ys) = kdrop (kv es) k := by
  have hm := klook_some h
  obtain ⟨x, hx, e⟩ := List.mem_map.1 hm
  obtain ⟨xs, ys, rfl⟩ := List.append_of_mem hx
  obtain ⟨k', v', b⟩ := x
  obtain ⟨rfl, rfl⟩ := Prod.mk.inj e
  refine ⟨xs, ys, b, rfl, ?_⟩
  simp only [List.map_append, List.map_cons, List.nodup_append, List.nodup_cons] at hn
  rw [kv_append, kv_append, kdrop, List.filter_append]
  have h1 : (kv xs).filter (fun p => decide (p.1 ≠ k')) = kv xs := by
    rw [List.filter_eq_self]
    intro p hp
    obtain ⟨x, hx, rfl⟩ := List.mem_map.1 hp
    simp only [decide_eq_true_eq]
    intro e
    exact hn.2.2 x.1 (List.mem_map.2 ⟨x, hx, rfl⟩) k' (by simp) e
  have h2 : (kv ys).filter (fun p => decide (p.1 ≠ k')) = kv ys := by
    rw [List.filter_eq_self]
    intro p hp
    obtain ⟨x, hx, rfl⟩ := List.mem_map.1 hp
    simp only [decide_eq_true_eq]
    intro e
    exact hn.2.1.1 (e ▸ List.mem_map.2 ⟨x, hx, rfl⟩)
  rw [h1]
  congr 1
  show kv ys = List.filter _ ((k', v') :: kv ys)
  rw [List.filter_cons_of_neg (by simp), h2]
theorem last_split {α : Type} {l : List α} {n : Nat} (h : l.length = n + 1) : ∃ xs x, l = xs ++ [x] := by
  have hne : l ≠ [] := by intro e; subst e; simp at h
  exact ⟨l.dropLast, l.getLast hne, (List.dropLast_concat_getLast hne).symm⟩
theorem kdrop_nodup {l : List (κ × ν)} (h : (l.map (·.1)).Nodup) (k : κ) : ((kdrop l k).map (·.1)).Nodup := (List.filter_sublist.map _).nodup h
theorem kdrop_not {l : List (κ × ν)} (k : κ) : k ∉ (kdrop l k).map (·.1) := by
  intro h
  obtain ⟨p, hp, e⟩ := List.mem_map.1 h
  simp [kdrop] at hp
  exact hp.2 e
theorem lput_nodup {l : List (κ × ν)} (h : (l.map (·.1)).Nodup) (sz : Int) (k : κ) (v : ν) : ((lput sz l k v).map (·.1)).Nodup := by
  unfold lput
  simp only [List.map_cons, List.nodup_cons]
  split
  · exact ⟨kdrop_not k, kdrop_nodup h k⟩
  · rename_i hl
    have hk : k ∉ l.map (·.1) := klook_none.1 (by simpa using hl)
    split
    · refine ⟨fun h1 => hk ?_, ?_⟩
      · obtain ⟨p, hp, e⟩ := List.mem_map.1 h1
        exact List.mem_map.2 ⟨p, List.dropLast_subset _ hp, e⟩
      · exact ((List.dropLast_sublist l).map _).nodup h
    · exact ⟨hk, h⟩
theorem length_kdrop_hit {l : List (κ × ν)} {k : κ} (h : (klook l k).isSome) : (kdrop l k).length + 1 ≤ l.length := by
  obtain ⟨v, hv⟩ := Option.isSome_iff_exists.1 h
  have hm := klook_some hv
  induction l with
  | nil => cases hm
  | cons x r ih =>
    by_cases hx : x.1 = k
    · rw [kdrop, List.filter_cons_of_neg (by simpa using hx)]
      have := List.length_filter_le (fun p : κ × ν => decide (p.1 ≠ k)) r
      rw [List.length_cons]; omega
    · rw [kdrop, List.filter_cons_of_pos (by simpa using hx)]
      have h1 : klook r k = some v := by rw [klook, List.find?_cons_of_neg (by simpa using hx)] at hv; exact hv
      have hmr : (k, v) ∈ r := klook_some h1
      have := ih (by rw [h1]; rfl) h1 hmr
      rw [kdrop] at this
      rw [List.length_cons, List.length_cons]; omega
theorem lput_length {l : List (κ × ν)} {sz : Int} (hs : 1 ≤ sz) (h : (l.length : Int) ≤ sz) (k : κ) (v : ν) : ((lput sz l k v).length : Int) ≤ sz := by
  unfold lput
  split
  · rename_i hl
    have := length_kdrop_hit hl
    simp; omega
  · split
    · simp; omega
    · simp; omega
end
end Go.Por
