/- The store, plain laws: sorted rows are unique; what a check gives; Apply keeps a store good. -/
import Derived.Test.YtojjnfhgldjgbaaDoorStoreP
set_option linter.unusedVariables false
set_option linter.unusedSimpArgs false
namespace Go.Proofs.YtojjnfhgldjgbaaDoor.Store
open Go.RowKit Go.Por Go.Sort Go.Proofs.YtojjnfhgldjgbaaDoor.Watch Go.Por.Tupl
theorem rlt_asymm {a b : RowT} (h : rlt a b) (k : rlt b a) : False := rlt_irrefl a (rlt_trans h k)
theorem rlt_uniq : ∀ {l l' : List RowT}, l.Pairwise rlt → l'.Pairwise rlt → l.Perm l' → l = l'
  | [], l', _, _, p => (List.Perm.nil_eq p)
  | a :: l, [], _, _, p => by have := p.length_eq; simp at this
  | a :: l, b :: l', h, h', p => by
    rw [List.pairwise_cons] at h h'
    have hab : a = b := by
      have h1 : a ∈ b :: l' := p.mem_iff.1 List.mem_cons_self
      have h2 : b ∈ a :: l := p.mem_iff.2 List.mem_cons_self
      rcases List.mem_cons.1 h1 with e | e1
      · exact e
      · rcases List.mem_cons.1 h2 with e | e2
        · exact e.symm
        · exact absurd (h.1 b e2) (fun k => rlt_asymm k (h'.1 a e1))
    subst hab
    rw [rlt_uniq h.2 h'.2 (List.perm_cons a |>.1 p)]
/-- Rows of a good store in order: there is but one such list. -/
theorem rows_strict {sp : Sp} (h : Good sp) {l : List RowT} (p : l.Perm (flatA sp)) (s : l.Pairwise (fun x y => ¬ rlt y x)) : l.Pairwise rlt := by
  have h1 : l.Pairwise (fun a b => rlt a b ∨ rlt b a) := (p.pairwise_iff (fun {x y} h => h.symm)).2 (flat_rows h)
  exact (h1.and s).imp (fun {x y} hxy => hxy.1.elim id (fun k => absurd k hxy.2))
theorem rows_uniq {sp : Sp} (h : Good sp) {l l' : List RowT} (p : l.Perm (flatA sp)) (s : l.Pairwise (fun x y => ¬ rlt y x)) (p' : l'.Perm (flatA sp)) (s' : l'.Pairwise (fun x y => ¬ rlt y x)) : l = l' :=
  rlt_uniq (rows_strict h p s) (rows_strict h p' s') (p.trans p'.symm)
/-- What a check that passes gives. -/
theorem checkL_ok {sp : Sp} {wm rev : Int} : ∀ {muts : List Mut} {seen : List Tup}, checkL sp wm rev seen muts = 0 →
    (∀ m ∈ muts, tchk m.2 = 0 ∧ m.2 ∉ seen ∧ lastOf (aget sp m.2) < rev ∧ wm < rev) ∧ (muts.map (·.2)).Nodup
  | [], seen, _ => ⟨fun m hm => (by cases hm), List.nodup_nil⟩
  | m :: ms, seen, h => by
    unfold checkL at h
    by_cases h1 : tchk m.2 = 0
    · rw [if_neg (by simpa using h1)] at h
      by_cases h2 : tin m.2 seen = true
      · rw [if_pos h2] at h; cases h
      · rw [if_neg h2] at h
        by_cases h3 : rev ≤ lastOf (aget sp m.2) ∨ rev ≤ wm
        · rw [if_pos h3] at h; cases h
        · rw [if_neg h3] at h
          obtain ⟨i1, i2⟩ := checkL_ok h
          have n1 : m.2 ∉ seen := fun k => h2 (tin_iff.2 k)
          refine ⟨fun x hx => ?_, ?_⟩
          · rcases List.mem_cons.1 hx with rfl | hx
            · exact ⟨h1, n1, by omega, by omega⟩
            · obtain ⟨j1, j2, j3, j4⟩ := i1 x hx
              exact ⟨j1, fun k => j2 (List.mem_append_left _ k), j3, j4⟩
          · rw [List.map_cons, List.nodup_cons]
            refine ⟨fun k => ?_, i2⟩
            obtain ⟨x, hx, e⟩ := List.mem_map.1 k
            exact (i1 x hx).2.1 (by rw [e]; exact List.mem_append_right _ (List.mem_singleton.2 rfl))
    · rw [if_pos h1] at h
      exact absurd h h1
theorem checkA_ok {sp : Sp} {wm rev : Int} {muts : List Mut} (h : checkA sp wm rev muts = 0) : 1 ≤ rev ∧ rev ≤ maxRev ∧ (∀ m ∈ muts, tchk m.2 = 0 ∧ lastOf (aget sp m.2) < rev ∧ wm < rev) ∧ (muts.map (·.2)).Nodup := by
  unfold checkA at h
  by_cases h1 : rev < 1 ∨ maxRev < rev
  · rw [if_pos h1] at h; cases h
  · rw [if_neg h1] at h
    obtain ⟨i1, i2⟩ := checkL_ok h
    exact ⟨by omega, by omega, fun m hm => ⟨(i1 m hm).1, (i1 m hm).2.2⟩, i2⟩
/-- One mutation's step at a tuple's spans. -/
def stepL (rev : Int) (d : Bool) (l : List Span) : List Span := if d = true then (if thereOf l = true then shutL l rev else l) else (if thereOf l = true then l else l ++ [(rev, 0)])
theorem aget_stepA {rev : Int} {sp : Sp} (hn : (sp.map Prod.fst).Nodup) (m : Mut) (q : Tup) : aget (stepA rev sp m) q = if q = m.2 then stepL rev m.1 (aget sp m.2) else aget sp q := by
  unfold stepA stepL
  by_cases h1 : m.1 = true
  · rw [if_pos h1, if_pos h1]
    by_cases h2 : thereOf (aget sp m.2) = true
    · rw [if_pos h2, if_pos h2, aget_gput hn]
    · rw [if_neg h2, if_neg h2]
      by_cases h3 : q = m.2
      · rw [if_pos h3, h3]
      · rw [if_neg h3]
  · rw [if_neg h1, if_neg h1]
    by_cases h2 : thereOf (aget sp m.2) = true
    · rw [if_pos h2, if_pos h2]
      by_cases h3 : q = m.2
      · rw [if_pos h3, h3]
      · rw [if_neg h3]
    · rw [if_neg h2, if_neg h2, aget_gput hn]
theorem stepA_nodup {rev : Int} {sp : Sp} (hn : (sp.map Prod.fst).Nodup) (m : Mut) : ((stepA rev sp m).map Prod.fst).Nodup := by
  unfold stepA
  split <;> split
  · exact gput_nodup hn _ _
  · exact hn
  · exact hn
  · exact gput_nodup hn _ _
theorem applyA_nodup {rev : Int} : ∀ (muts : List Mut) {sp : Sp}, (sp.map Prod.fst).Nodup → ((applyA rev sp muts).map Prod.fst).Nodup
  | [], _, h => h
  | m :: ms, _, h => applyA_nodup ms (stepA_nodup h m)
/-- Mutations of unlike tuples: each tuple's spans behind them. -/
theorem aget_applyA {rev : Int} : ∀ (muts : List Mut) {sp : Sp}, (sp.map Prod.fst).Nodup → (muts.map (·.2)).Nodup → ∀ q, aget (applyA rev sp muts) q = match muts.find? (fun m => decide (m.2 = q)) with
    | none => aget sp q
    | some m => stepL rev m.1 (aget sp q)
  | [], sp, _, _, q => rfl
  | m :: ms, sp, hn, hd, q => by
    rw [List.map_cons, List.nodup_cons] at hd
    have ih := aget_applyA (rev := rev) ms (stepA_nodup (rev := rev) hn m) hd.2 q
    show aget (applyA rev (stepA rev sp m) ms) q = _
    rw [ih, List.find?_cons]
    by_cases hq : m.2 = q
    · rw [decide_eq_true hq]
      have hnone : ms.find? (fun m => decide (m.2 = q)) = none := by
        rw [List.find?_eq_none]
        intro x hx k
        have e : x.2 = q := of_decide_eq_true k
        exact hd.1 (List.mem_map.2 ⟨x, hx, by rw [e, hq]⟩)
      rw [hnone]
      simp only
      rw [aget_stepA hn, if_pos hq.symm, hq]
    · rw [decide_eq_false hq]
      simp only
      rw [aget_stepA hn, if_neg (fun e => hq e.symm)]
theorem lastOf_snoc' (P : List Span) (x : Span) : lastOf (P ++ [x]) = max x.1 x.2 := by unfold lastOf; rw [List.getLast?_concat]
theorem thereOf_snoc' (P : List Span) (x : Span) : thereOf (P ++ [x]) = decide (x.2 = 0) := by unfold thereOf; rw [List.getLast?_concat]
theorem shutL_snoc' (P : List Span) (x : Span) (rev : Int) : shutL (P ++ [x]) rev = P ++ [(x.1, rev)] := by
  unfold shutL
  rw [List.getLast?_concat, Option.getD_some, List.length_append, List.length_singleton, Nat.add_sub_cancel]
  rw [List.set_append_right _ _ (Nat.le_refl _), Nat.sub_self]
  rfl
theorem chain_step {l : List Span} (h : Chain l) {rev : Int} (h1 : lastOf l < rev) (h2 : 1 ≤ rev) (h3 : rev ≤ maxRev) (d : Bool) : Chain (stepL rev d l) := by
  rcases List.eq_nil_or_concat l with rfl | ⟨P, x, rfl⟩
  · unfold stepL
    have e : thereOf [] = false := rfl
    rw [e]
    cases d with
    | true => exact h
    | false =>
      refine ⟨fun x hx => ?_, List.pairwise_singleton _ _⟩
      have : x = (rev, 0) := by simpa using hx
      subst this
      exact ⟨h2, h3, .inl rfl⟩
  · rw [List.concat_eq_append] at h h1 ⊢
    rw [lastOf_snoc'] at h1
    have hx := h.each x (List.mem_append_right _ (List.mem_singleton.2 rfl))
    have hp := List.pairwise_append.1 h.next
    unfold stepL
    rw [thereOf_snoc']
    by_cases hz : x.2 = 0
    · rw [decide_eq_true hz]
      cases d with
      | true =>
        rw [if_pos rfl, if_pos rfl, shutL_snoc']
        refine ⟨fun y hy => ?_, List.pairwise_append.2 ⟨hp.1, List.pairwise_singleton _ _, fun a ha b hb => ?_⟩⟩
        · rcases List.mem_append.1 hy with hy | hy
          · exact h.each y (List.mem_append_left _ hy)
          · have : y = (x.1, rev) := by simpa using hy
            subst this
            exact ⟨hx.1, hx.2.1, .inr ⟨by show x.1 < rev; omega, h3⟩⟩
        · have : b = (x.1, rev) := by simpa using hb
          subst this
          exact hp.2.2 a ha x (List.mem_singleton.2 rfl)
      | false =>
        rw [if_neg (by intro k; cases k), if_pos rfl]
        exact h
    · rw [decide_eq_false hz]
      cases d with
      | true =>
        rw [if_pos rfl, if_neg (by intro k; cases k)]
        exact h
      | false =>
        rw [if_neg (by intro k; cases k), if_neg (by intro k; cases k)]
        refine ⟨fun y hy => ?_, List.pairwise_append.2 ⟨h.next, List.pairwise_singleton _ _, fun a ha b hb => ?_⟩⟩
        · rcases List.mem_append.1 hy with hy | hy
          · exact h.each y hy
          · have : y = (rev, 0) := by simpa using hy
            subst this
            exact ⟨h2, h3, .inl rfl⟩
        · have : b = (rev, 0) := by simpa using hb
          subst this
          rcases List.mem_append.1 ha with ha | ha
          · have k := hp.2.2 a ha x (List.mem_singleton.2 rfl)
            exact ⟨k.1, by show a.2 < rev; omega⟩
          · have : a = x := by simpa using ha
            subst this
            exact ⟨hz, by show a.2 < rev; omega⟩
theorem stepL_ne {rev : Int} {d : Bool} {l : List Span} (h : l ≠ []) : stepL rev d l ≠ [] := by
  unfold stepL
  split <;> split
  · intro e
    have := congrArg List.length e
    unfold shutL at this
    rw [List.length_set] at this
    exact h (List.length_eq_zero_iff.1 this)
  · exact h
  · exact h
  · simp
/-- One step of a checked mutation keeps a store good. -/
theorem good_step {sp : Sp} (h : Good sp) {rev : Int} {m : Mut} (h1 : lastOf (aget sp m.2) < rev) (h2 : 1 ≤ rev) (h3 : rev ≤ maxRev) : Good (stepA rev sp m) := by
  have hc := chain_step (h.chain m.2) h1 h2 h3 m.1
  unfold stepL at hc
  unfold stepA
  by_cases d : m.1 = true
  · rw [if_pos d] at hc ⊢
    by_cases e : thereOf (aget sp m.2) = true
    · rw [if_pos e] at hc ⊢
      refine h.put _ (fun k => ?_) hc
      have hne : aget sp m.2 ≠ [] := fun k2 => by rw [k2] at e; cases e
      have := congrArg List.length k
      unfold shutL at this
      rw [List.length_set] at this
      exact hne (List.length_eq_zero_iff.1 this)
    · rw [if_neg e]; exact h
  · rw [if_neg d] at hc ⊢
    by_cases e : thereOf (aget sp m.2) = true
    · rw [if_pos e]; exact h
    · rw [if_neg e] at hc ⊢
      exact h.put _ (by simp) hc
theorem good_applyA {rev : Int} (h2 : 1 ≤ rev) (h3 : rev ≤ maxRev) : ∀ (muts : List Mut) {sp : Sp}, Good sp → (∀ m ∈ muts, lastOf (aget sp m.2) < rev) → (muts.map (·.2)).Nodup → Good (applyA rev sp muts)
  | [], _, h, _, _ => h
  | m :: ms, sp, h, hl, hd => by
    rw [List.map_cons, List.nodup_cons] at hd
    refine good_applyA h2 h3 ms (good_step h (hl m List.mem_cons_self) h2 h3) (fun x hx => ?_) hd.2
    rw [aget_stepA h.nodup, if_neg (fun e => hd.1 (List.mem_map.2 ⟨x, hx, e⟩))]
    exact hl x (List.mem_cons_of_mem _ hx)
end Go.Proofs.YtojjnfhgldjgbaaDoor.Store
