/- Lists of keys and values: looked up, put, struck. No program in sight. -/
set_option linter.unusedVariables false
set_option linter.unusedSimpArgs false
namespace Go.Por
theorem nodup_fst {κ β : Type} {l : List (κ × β)} (hn : (l.map Prod.fst).Nodup) {k : κ} {u v : β} (h1 : (k, u) ∈ l) (h2 : (k, v) ∈ l) : u = v := by
  induction l with
  | nil => cases h1
  | cons x r ih =>
    simp only [List.map_cons, List.nodup_cons] at hn
    rcases List.mem_cons.1 h1 with e1 | e1
    · rcases List.mem_cons.1 h2 with e2 | e2
      · rw [← e1] at e2; cases e2; rfl
      · exact absurd (List.mem_map.2 ⟨_, e2, by rw [← e1]⟩) hn.1
    · rcases List.mem_cons.1 h2 with e2 | e2
      · exact absurd (List.mem_map.2 ⟨_, e1, by rw [← e2]⟩) hn.1
      · exact ih hn.2 e1 e2
section
variable {κ β γ : Type} [DecidableEq κ]
def gfind (l : List (κ × β)) (k : κ) : Option β := (l.find? (fun e => decide (e.1 = k))).map (·.2)
def gput (l : List (κ × β)) (k : κ) (v : β) : List (κ × β) := if k ∈ l.map Prod.fst then l.map (fun p => if p.1 = k then (k, v) else p) else l ++ [(k, v)]
def gdel (l : List (κ × β)) (k : κ) : List (κ × β) := l.filter (fun p => decide (p.1 ≠ k))
theorem gfind_mem {l : List (κ × β)} {k : κ} {v : β} (h : gfind l k = some v) : (k, v) ∈ l := by
  unfold gfind at h
  cases e : l.find? (fun e => decide (e.1 = k)) with
  | none => rw [e] at h; cases h
  | some p =>
    rw [e] at h
    have h1 := List.find?_some e
    have h2 := List.mem_of_find?_eq_some e
    simp only [Option.map_some, Option.some.injEq] at h
    have h3 : p.1 = k := of_decide_eq_true h1
    rw [← h, ← h3]
    exact h2
theorem gfind_none {l : List (κ × β)} {k : κ} : gfind l k = none ↔ k ∉ l.map Prod.fst := by
  unfold gfind
  rw [Option.map_eq_none_iff, List.find?_eq_none]
  constructor
  · intro h hk
    obtain ⟨p, hp, rfl⟩ := List.mem_map.1 hk
    exact h p hp (decide_eq_true rfl)
  · intro h p hp hk
    exact h (List.mem_map.2 ⟨p, hp, of_decide_eq_true hk⟩)
theorem gfind_some {l : List (κ × β)} (hn : (l.map Prod.fst).Nodup) {k : κ} {v : β} : gfind l k = some v ↔ (k, v) ∈ l := by
  constructor
  · exact gfind_mem
  · intro h
    cases e : gfind l k with
    | none => exact absurd (List.mem_map.2 ⟨_, h, rfl⟩) (gfind_none.1 e)
    | some u => rw [nodup_fst hn (gfind_mem e) h]
theorem gput_old (l : List (κ × β)) (k : κ) (v : β) (h : k ∈ l.map Prod.fst) : (gput l k v).map Prod.fst = l.map Prod.fst := by
  rw [gput, if_pos h, List.map_map]
  apply List.map_congr_left
  intro p _
  simp only [Function.comp]
  split <;> simp_all
theorem gput_new (l : List (κ × β)) (k : κ) (v : β) (h : k ∉ l.map Prod.fst) : (gput l k v).map Prod.fst = l.map Prod.fst ++ [k] := by
  rw [gput, if_neg h]; simp
theorem gput_nodup {l : List (κ × β)} (hn : (l.map Prod.fst).Nodup) (k : κ) (v : β) : ((gput l k v).map Prod.fst).Nodup := by
  by_cases h : k ∈ l.map Prod.fst
  · rw [gput_old l k v h]; exact hn
  · rw [gput_new l k v h]
    exact List.nodup_append.2 ⟨hn, List.nodup_cons.2 ⟨by simp, List.nodup_nil⟩, fun a ha b hb e => by
      rw [List.mem_singleton.1 hb] at e
      exact h (by rw [← e]; exact ha)⟩
theorem mem_gput {l : List (κ × β)} {k : κ} {v : β} {p : κ × β} : p ∈ gput l k v ↔ p = (k, v) ∨ (p.1 ≠ k ∧ p ∈ l) := by
  obtain ⟨q, u⟩ := p
  unfold gput
  split
  · rename_i h
    rw [List.mem_map]
    constructor
    · rintro ⟨x, hx, e⟩
      by_cases hk : x.1 = k
      · rw [if_pos hk] at e; exact .inl e.symm
      · rw [if_neg hk] at e; rw [← e]; exact .inr ⟨hk, hx⟩
    · rintro (e | ⟨h1, h2⟩)
      · obtain ⟨x, hx, hk⟩ := List.mem_map.1 h
        exact ⟨x, hx, by rw [if_pos hk, e]⟩
      · exact ⟨_, h2, if_neg h1⟩
  · rename_i h
    rw [List.mem_append, List.mem_singleton]
    constructor
    · rintro (h1 | h1)
      · exact .inr ⟨fun e => h (List.mem_map.2 ⟨_, h1, e⟩), h1⟩
      · exact .inl h1
    · rintro (h1 | h1)
      · exact .inr h1
      · exact .inl h1.2
theorem mem_gdel {l : List (κ × β)} {k : κ} {p : κ × β} : p ∈ gdel l k ↔ p.1 ≠ k ∧ p ∈ l := by
  unfold gdel
  rw [List.mem_filter, decide_eq_true_iff]
  exact And.comm
theorem gdel_nodup {l : List (κ × β)} (hn : (l.map Prod.fst).Nodup) (k : κ) : ((gdel l k).map Prod.fst).Nodup := List.Nodup.sublist (List.Sublist.map _ List.filter_sublist) hn
theorem gfind_gput {l : List (κ × β)} (hn : (l.map Prod.fst).Nodup) (k : κ) (v : β) (q : κ) : gfind (gput l k v) q = if q = k then some v else gfind l q := by
  have hn2 := gput_nodup hn k v
  by_cases h : q = k
  · rw [if_pos h, gfind_some hn2, mem_gput, h]
    exact .inl rfl
  · rw [if_neg h]
    cases e : gfind l q with
    | none =>
      rw [gfind_none] at e ⊢
      intro hq
      obtain ⟨p, hp, rfl⟩ := List.mem_map.1 hq
      rcases mem_gput.1 hp with h1 | h1
      · exact h (by rw [h1])
      · exact e (List.mem_map.2 ⟨p, h1.2, rfl⟩)
    | some u =>
      rw [gfind_some hn2, mem_gput]
      exact .inr ⟨h, gfind_mem e⟩
theorem gfind_gdel {l : List (κ × β)} (hn : (l.map Prod.fst).Nodup) (k q : κ) : gfind (gdel l k) q = if q = k then none else gfind l q := by
  have hn2 := gdel_nodup hn k
  by_cases h : q = k
  · rw [if_pos h, gfind_none]
    intro hq
    obtain ⟨p, hp, rfl⟩ := List.mem_map.1 hq
    exact (mem_gdel.1 hp).1 h
  · rw [if_neg h]
    cases e : gfind l q with
    | none =>
      rw [gfind_none] at e ⊢
      intro hq
      obtain ⟨p, hp, rfl⟩ := List.mem_map.1 hq
      exact e (List.mem_map.2 ⟨p, (mem_gdel.1 hp).2, rfl⟩)
    | some u =>
      rw [gfind_some hn2, mem_gdel]
      exact ⟨h, gfind_mem e⟩
theorem keys_gput (l : List (κ × β)) (k : κ) (v : β) (q : κ) : q ∈ (gput l k v).map Prod.fst ↔ q = k ∨ q ∈ l.map Prod.fst := by
  by_cases h : k ∈ l.map Prod.fst
  · rw [gput_old l k v h]
    constructor
    · exact .inr
    · rintro (e | e)
      · rw [e]; exact h
      · exact e
  · rw [gput_new l k v h, List.mem_append, List.mem_singleton]
    exact Or.comm
theorem keys_gdel (l : List (κ × β)) (k : κ) (q : κ) : q ∈ (gdel l k).map Prod.fst ↔ q ≠ k ∧ q ∈ l.map Prod.fst := by
  constructor
  · intro h
    obtain ⟨p, hp, rfl⟩ := List.mem_map.1 h
    obtain ⟨h1, h2⟩ := mem_gdel.1 hp
    exact ⟨h1, List.mem_map.2 ⟨p, h2, rfl⟩⟩
  · rintro ⟨h1, h2⟩
    obtain ⟨p, hp, rfl⟩ := List.mem_map.1 h2
    exact List.mem_map.2 ⟨p, mem_gdel.2 ⟨h1, hp⟩, rfl⟩
/-- The values by another word. -/
theorem gput_map (g : β → γ) (l : List (κ × β)) (k : κ) (v : β) : (gput l k v).map (fun e => (e.1, g e.2)) = gput (l.map (fun e => (e.1, g e.2))) k (g v) := by
  have hk : (l.map (fun e => (e.1, g e.2))).map Prod.fst = l.map Prod.fst := by rw [List.map_map]; rfl
  unfold gput
  rw [hk]
  split
  · rw [List.map_map, List.map_map]
    apply List.map_congr_left
    intro p _
    simp only [Function.comp]
    by_cases h : p.1 = k
    · rw [if_pos h, if_pos h]
    · rw [if_neg h, if_neg h]
  · rw [List.map_append]; rfl
theorem gdel_map (g : β → γ) (l : List (κ × β)) (k : κ) : (gdel l k).map (fun e => (e.1, g e.2)) = gdel (l.map (fun e => (e.1, g e.2))) k := by
  unfold gdel
  rw [List.filter_map]
  rfl
theorem gfind_map (g : β → γ) (l : List (κ × β)) (k : κ) : gfind (l.map (fun e => (e.1, g e.2))) k = (gfind l k).map g := by
  unfold gfind
  rw [List.find?_map, Option.map_map, Option.map_map]
  rfl
end
end Go.Por
