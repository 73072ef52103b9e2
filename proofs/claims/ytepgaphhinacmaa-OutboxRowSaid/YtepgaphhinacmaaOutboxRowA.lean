/- porterlaw13.OutboxRow: the things and what was answered. No call in sight. -/
import Derived.Test.YtepgaphhinacmaaOutGOS
namespace Go.Proofs.Ytepgaphhinacmaa.OutboxRow
open Go.RowKit Go.Por Go.Proofs.Ytepgaphhinacmaa.OutOS

structure RowInv (p : Int) (l : List It) (gm : List (ByteArray × Value)) : Prop where
  nodup : (l.map (·.1)).Nodup
  val : ∀ x ∈ l, x.2.1 = x.1
  gone : ∀ x ∈ l, (x.1, Value.bool true) ∉ gm
  bools : ∀ q ∈ gm, ∃ b : Bool, q.2 = .bool b
  ages : ∀ x ∈ l, 0 ≤ x.2.2 ∧ x.2.2 < p
  len : (l.length : Int) ≤ 4096

variable {p : Int} {l : List It} {gm : List (ByteArray × Value)}
theorem RowInv.put (h : RowInv p l gm) (hp : 1 ≤ p) (k : ByteArray) (hc : (oput 4096 l k k).2 = 0) : RowInv p (oput 4096 l k k).1 (mput gm k (.bool false)) := by
  have hl := oput_length 4096 l k k h.len
  have hb : ∀ q ∈ mput gm k (.bool false), ∃ b : Bool, q.2 = .bool b := by
    rintro ⟨q, u⟩ hq
    rcases mem_mput.1 hq with ⟨_, rfl⟩ | ⟨_, hq⟩
    · exact ⟨_, rfl⟩
    · exact h.bools _ hq
  have hg : ∀ x : It, (x.1 = k ∨ x ∈ l) → (x.1, Value.bool true) ∉ mput gm k (.bool false) := by
    intro x hx hm
    rcases mem_mput.1 hm with ⟨_, e⟩ | ⟨hne, hm⟩
    · cases e
    · rcases hx with h1 | h1
      · exact hne h1
      · exact h.gone x h1 hm
  rcases oput_cases 4096 l k k with ⟨_, _, e⟩ | ⟨hn, _, e⟩ | ⟨A, B, x, rfl, hA, hx, e⟩ <;> rw [e] at hl hc ⊢
  · exact absurd hc (by simp)
  · refine ⟨?_, ?_, ?_, hb, ?_, hl⟩
    · rw [List.map_append, List.nodup_append]
      refine ⟨h.nodup, by simp, ?_⟩
      intro a ha b hb' e
      simp only [List.map_cons, List.map_nil, List.mem_singleton] at hb'
      obtain ⟨y, hy, rfl⟩ := List.mem_map.1 ha
      exact hn y hy (e.trans hb')
    · intro y hy
      rcases List.mem_append.1 hy with h1 | h1
      · exact h.val y h1
      · simp only [List.mem_singleton] at h1; subst h1; rfl
    · intro y hy
      rcases List.mem_append.1 hy with h1 | h1
      · exact hg y (.inr h1)
      · simp only [List.mem_singleton] at h1; subst h1; exact hg _ (.inl rfl)
    · intro y hy
      rcases List.mem_append.1 hy with h1 | h1
      · exact h.ages y h1
      · simp only [List.mem_singleton] at h1; subst h1; exact ⟨Int.le_refl _, hp⟩
  · have hmap : (A ++ (k, k, (0 : Int)) :: B).map (·.1) = (A ++ x :: B).map (·.1) := by simp [hx]
    have hmem : ∀ y, y ∈ A ++ (k, k, (0 : Int)) :: B → y = (k, k, 0) ∨ y ∈ A ++ x :: B := by
      intro y hy
      rcases List.mem_append.1 hy with h1 | h1
      · exact .inr (List.mem_append_left _ h1)
      · rcases List.mem_cons.1 h1 with h2 | h2
        · exact .inl h2
        · exact .inr (List.mem_append_right _ (List.mem_cons_of_mem _ h2))
    refine ⟨by rw [hmap]; exact h.nodup, fun y hy => ?_, fun y hy => ?_, hb, fun y hy => ?_, hl⟩
    · rcases hmem y hy with h1 | h1
      · subst h1; rfl
      · exact h.val y h1
    · rcases hmem y hy with h1 | h1
      · subst h1; exact hg _ (.inl rfl)
      · exact hg y (.inr h1)
    · rcases hmem y hy with h1 | h1
      · subst h1; exact ⟨Int.le_refl _, hp⟩
      · exact h.ages y h1
theorem oput_code (l : List It) (k : ByteArray) : ((oput 4096 l k k).2 = 0) ∨ ((oput 4096 l k k).2 = 3 ∧ (oput 4096 l k k).1 = l) := by
  rcases oput_cases 4096 l k k with ⟨_, _, e⟩ | ⟨_, _, e⟩ | ⟨A, B, x, _, _, _, e⟩ <;> rw [e] <;> simp
theorem RowInv.ack (h : RowInv p l gm) (k : ByteArray) : RowInv p (oack l k).1 (mput gm k (.bool true)) := by
  have hb : ∀ q ∈ mput gm k (.bool true), ∃ b : Bool, q.2 = .bool b := by
    rintro ⟨q, u⟩ hq
    rcases mem_mput.1 hq with ⟨_, rfl⟩ | ⟨_, hq⟩
    · exact ⟨_, rfl⟩
    · exact h.bools _ hq
  have hg : ∀ x : It, x.1 ≠ k → x ∈ l → (x.1, Value.bool true) ∉ mput gm k (.bool true) := by
    intro x hne hx hm
    rcases mem_mput.1 hm with ⟨e, _⟩ | ⟨_, hm⟩
    · exact hne e
    · exact h.gone x hx hm
  have hlen := h.len
  rcases oack_cases l k with ⟨hn, e⟩ | ⟨A, B, x, rfl, hA, hx, e⟩ <;> rw [e]
  · exact ⟨h.nodup, h.val, fun x hx => hg x (hn x hx) hx, hb, h.ages, h.len⟩
  · have hnd := h.nodup
    rw [List.map_append, List.map_cons, List.nodup_append, List.nodup_cons] at hnd
    have hsub : ∀ y, y ∈ A ++ B → y ∈ A ++ x :: B := by
      intro y hy
      rcases List.mem_append.1 hy with h1 | h1
      · exact List.mem_append_left _ h1
      · exact List.mem_append_right _ (List.mem_cons_of_mem _ h1)
    have hne : ∀ y, y ∈ A ++ B → y.1 ≠ k := by
      intro y hy
      rcases List.mem_append.1 hy with h1 | h1
      · exact hA y h1
      · exact fun e => hnd.2.1.1 (List.mem_map.2 ⟨y, h1, e.trans hx.symm⟩)
    refine ⟨?_, fun y hy => h.val y (hsub y hy), fun y hy => hg y (hne y hy) (hsub y hy), hb, fun y hy => h.ages y (hsub y hy), ?_⟩
    · show ((A ++ B).map (·.1)).Nodup
      rw [List.map_append, List.nodup_append]
      exact ⟨hnd.1, hnd.2.1.2, fun a ha b hb => hnd.2.2 a ha b (List.mem_cons_of_mem _ hb)⟩
    · simp only [List.length_append, List.length_cons] at hlen ⊢
      omega
theorem RowInv.tick (h : RowInv p l gm) : RowInv p (l.map (aged p)) gm where
  nodup := by
    rw [List.map_map]
    exact h.nodup
  val := by
    intro x hx
    obtain ⟨y, hy, rfl⟩ := List.mem_map.1 hx
    exact h.val y hy
  gone := by
    intro x hx
    obtain ⟨y, hy, rfl⟩ := List.mem_map.1 hx
    exact h.gone y hy
  bools := h.bools
  ages := by
    intro x hx
    obtain ⟨y, hy, rfl⟩ := List.mem_map.1 hx
    exact nexta_ok (h.ages y hy).1 (h.ages y hy).2
  len := by rw [List.length_map]; exact h.len
theorem due_append (A B : List It) : OutOS.due (A ++ B) = OutOS.due A ++ OutOS.due B := by
  simp [OutOS.due]
/-- The next that is due. -/
theorem due_next : ∀ {B : List It} {v : ByteArray} {r : List ByteArray}, OutOS.due B = v :: r → ∃ B1 x B2, B = B1 ++ x :: B2 ∧ OutOS.due B1 = [] ∧ x.2.2 = 0 ∧ x.2.1 = v ∧ OutOS.due B2 = r
  | [], v, r, h => by simp [OutOS.due] at h
  | x :: B, v, r, h => by
    by_cases hz : x.2.2 = 0
    · have e : OutOS.due (x :: B) = x.2.1 :: OutOS.due B := by simp [OutOS.due, hz]
      rw [e] at h
      obtain ⟨h1, h2⟩ := List.cons.inj h
      exact ⟨[], x, B, rfl, rfl, hz, h1, h2⟩
    · have e : OutOS.due (x :: B) = OutOS.due B := by simp [OutOS.due, hz]
      rw [e] at h
      obtain ⟨B1, y, B2, rfl, h1, h2, h3, h4⟩ := due_next h
      exact ⟨x :: B1, y, B2, rfl, by simpa [OutOS.due, hz] using h1, h2, h3, h4⟩
end Go.Proofs.Ytepgaphhinacmaa.OutboxRow
