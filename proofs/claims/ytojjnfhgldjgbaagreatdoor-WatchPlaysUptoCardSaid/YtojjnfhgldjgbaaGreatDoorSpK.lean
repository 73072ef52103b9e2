/- WatchSplits, where what came in is of bulk at most 1048576: changes up to a revision and behind it are all; they make th: part 11 of 29: what it leans on. -/
import Derived.Test.YtojjnfhgldjgbaaGreatDoorSpA
import Derived.Test.YtojjnfhgldjgbaaGreatDoorSpB
import Derived.Test.YtojjnfhgldjgbaaGreatDoorSpC
import Derived.Test.YtojjnfhgldjgbaaGreatDoorSpD
import Derived.Test.YtojjnfhgldjgbaaGreatDoorSpE
import Derived.Test.YtojjnfhgldjgbaaGreatDoorSpF
import Derived.Test.YtojjnfhgldjgbaaGreatDoorSpG
import Derived.Test.YtojjnfhgldjgbaaGreatDoorSpH
import Derived.Test.YtojjnfhgldjgbaaGreatDoorSpI
import Derived.Test.YtojjnfhgldjgbaaGreatDoorSpJ
section
set_option linter.unusedVariables false
set_option linter.unusedSimpArgs false
namespace Go.Proofs.YtojjnfhgldjgbaaGreatDoor.Store
open Go.RowKit Go.Por Go.Sort Go.Proofs.YtojjnfhgldjgbaaGreatDoor.Watch Go.Por.Tupl
theorem rlt_asymm {a b : RowT} (h : rlt a b) (k : rlt b a) : False := rlt_irrefl a (rlt_trans h k)
theorem rlt_uniq : ∀ {l l' : List RowT}, l.Pairwise rlt → l'.Pairwise rlt → l.Perm l' → l = l'
  | [], l', _, _, p => (List.Perm.nil_eq p)
  | a :: l, [], _, _, p => by have := p.length_eq; simp at this
  | a :: l, b :: l', h, h', p => by
    rw [List.pairwise_cons] at h h'
    have hab : a = b := by
      have h1 : a ∈ b :: l' := p.mem_iff.1 List.mem_cons_self
      have h2 : b ∈ a :: l := p.mem_iff.2 List.mem_cons_self
      rcases List.mem_cons.1 h1 with e | e1
      · exact e
      · rcases List.mem_cons.1 h2 with e | e2
        · exact e.symm
        · exact absurd (h.1 b e2) (fun k => rlt_asymm k (h'.1 a e1))
    subst hab
    rw [rlt_uniq h.2 h'.2 (List.perm_cons a |>.1 p)]
/-- Rows of a good store in order: there is but one such list. -/
theorem rows_strict {sp : Sp} (h : Good sp) {l : List RowT} (p : l.Perm (flatA sp)) (s : l.Pairwise (fun x y => ¬ rlt y x)) : l.Pairwise rlt := by
  have h1 : l.Pairwise (fun a b => rlt a b ∨ rlt b a) := (p.pairwise_iff (fun {x y} h => h.symm)).2 (flat_rows h)
  exact (h1.and s).imp (fun {x y} hxy => hxy.1.elim id (fun k => absurd k hxy.2))
/-- What a check that passes gives. -/
theorem checkL_ok {sp : Sp} {wm rev : Int} : ∀ {muts : List Mut} {seen : List Tup}, checkL sp wm rev seen muts = 0 →
    (∀ m ∈ muts, tchk m.2 = 0 ∧ m.2 ∉ seen ∧ lastOf (aget sp m.2) < rev ∧ wm < rev) ∧ (muts.map (·.2)).Nodup
  | [], seen, _ => ⟨fun m hm => (by cases hm), List.nodup_nil⟩
  | m :: ms, seen, h => by
    unfold checkL at h
    by_cases h1 : tchk m.2 = 0
    · rw [if_neg (by simpa using h1)] at h
      by_cases h2 : tin m.2 seen = true
      · rw [if_pos h2] at h; cases h
      · rw [if_neg h2] at h
        by_cases h3 : rev ≤ lastOf (aget sp m.2) ∨ rev ≤ wm
        · rw [if_pos h3] at h; cases h
        · rw [if_neg h3] at h
          obtain ⟨i1, i2⟩ := checkL_ok h
          have n1 : m.2 ∉ seen := fun k => h2 (tin_iff.2 k)
          refine ⟨fun x hx => ?_, ?_⟩
          · rcases List.mem_cons.1 hx with rfl | hx
            · exact ⟨h1, n1, by omega, by omega⟩
            · obtain ⟨j1, j2, j3, j4⟩ := i1 x hx
              exact ⟨j1, fun k => j2 (List.mem_append_left _ k), j3, j4⟩
          · rw [List.map_cons, List.nodup_cons]
            refine ⟨fun k => ?_, i2⟩
            obtain ⟨x, hx, e⟩ := List.mem_map.1 k
            exact (i1 x hx).2.1 (by rw [e]; exact List.mem_append_right _ (List.mem_singleton.2 rfl))
    · rw [if_pos h1] at h
      exact absurd h h1
theorem checkA_ok {sp : Sp} {wm rev : Int} {muts : List Mut} (h : checkA sp wm rev muts = 0) : 1 ≤ rev ∧ rev ≤ maxRev ∧ (∀ m ∈ muts, tchk m.2 = 0 ∧ lastOf (aget sp m.2) < rev ∧ wm < rev) ∧ (muts.map (·.2)).Nodup := by
  unfold checkA at h
  by_cases h1 : rev < 1 ∨ maxRev < rev
  · rw [if_pos h1] at h; cases h
  · rw [if_neg h1] at h
    obtain ⟨i1, i2⟩ := checkL_ok h
    exact ⟨by omega, by omega, fun m hm => ⟨(i1 m hm).1, (i1 m hm).2.2⟩, i2⟩
/-- One mutation's step at a tuple's spans. -/
def stepL (rev : Int) (d : Bool) (l : List Span) : List Span := if d = true then (if thereOf l = true then shutL l rev else l) else (if thereOf l = true then l else l ++ [(rev, 0)])
theorem aget_stepA {rev : Int} {sp : Sp} (hn : (sp.map Prod.fst).Nodup) (m : Mut) (q : Tup) : aget (stepA rev sp m) q = if q = m.2 then stepL rev m.1 (aget sp m.2) else aget sp q := by
  unfold stepA stepL
  by_cases h1 : m.1 = true
  · rw [if_pos h1, if_pos h1]
    by_cases h2 : thereOf (aget sp m.2) = true
    · rw [if_pos h2, if_pos h2, aget_gput hn]
    · rw [if_neg h2, if_neg h2]
      by_cases h3 : q = m.2
      · rw [if_pos h3, h3]
      · rw [if_neg h3]
  · rw [if_neg h1, if_neg h1]
    by_cases h2 : thereOf (aget sp m.2) = true
    · rw [if_pos h2, if_pos h2]
      by_cases h3 : q = m.2
      · rw [if_pos h3, h3]
      · rw [if_neg h3]
    · rw [if_neg h2, if_neg h2, aget_gput hn]
theorem stepA_nodup {rev : Int} {sp : Sp} (hn : (sp.map Prod.fst).Nodup) (m : Mut) : ((stepA rev sp m).map Prod.fst).Nodup := by
  unfold stepA
  split <;> split
  · exact gput_nodup hn _ _
  · exact hn
  · exact hn
  · exact gput_nodup hn _ _
theorem lastOf_snoc' (P : List Span) (x : Span) : lastOf (P ++ [x]) = max x.1 x.2 := by unfold lastOf; rw [List.getLast?_concat]
theorem thereOf_snoc' (P : List Span) (x : Span) : thereOf (P ++ [x]) = decide (x.2 = 0) := by unfold thereOf; rw [List.getLast?_concat]
theorem shutL_snoc' (P : List Span) (x : Span) (rev : Int) : shutL (P ++ [x]) rev = P ++ [(x.1, rev)] := by
  unfold shutL
  rw [List.getLast?_concat, Option.getD_some, List.length_append, List.length_singleton, Nat.add_sub_cancel]
  rw [List.set_append_right _ _ (Nat.le_refl _), Nat.sub_self]
  rfl
theorem chain_step {l : List Span} (h : Chain l) {rev : Int} (h1 : lastOf l < rev) (h2 : 1 ≤ rev) (h3 : rev ≤ maxRev) (d : Bool) : Chain (stepL rev d l) := by
  rcases List.eq_nil_or_concat l with rfl | ⟨P, x, rfl⟩
  · unfold stepL
    have e : thereOf [] = false := rfl
    rw [e]
    cases d with
    | true => exact h
    | false =>
      refine ⟨fun x hx => ?_, List.pairwise_singleton _ _⟩
      have : x = (rev, 0) := by simpa using hx
      subst this
      exact ⟨h2, h3, .inl rfl⟩
  · rw [List.concat_eq_append] at h h1 ⊢
    rw [lastOf_snoc'] at h1
    have hx := h.each x (List.mem_append_right _ (List.mem_singleton.2 rfl))
    have hp := List.pairwise_append.1 h.next
    unfold stepL
    rw [thereOf_snoc']
    by_cases hz : x.2 = 0
    · rw [decide_eq_true hz]
      cases d with
      | true =>
        rw [if_pos rfl, if_pos rfl, shutL_snoc']
        refine ⟨fun y hy => ?_, List.pairwise_append.2 ⟨hp.1, List.pairwise_singleton _ _, fun a ha b hb => ?_⟩⟩
        · rcases List.mem_append.1 hy with hy | hy
          · exact h.each y (List.mem_append_left _ hy)
          · have : y = (x.1, rev) := by simpa using hy
            subst this
            exact ⟨hx.1, hx.2.1, .inr ⟨by show x.1 < rev; omega, h3⟩⟩
        · have : b = (x.1, rev) := by simpa using hb
          subst this
          exact hp.2.2 a ha x (List.mem_singleton.2 rfl)
      | false =>
        rw [if_neg (by intro k; cases k), if_pos rfl]
        exact h
    · rw [decide_eq_false hz]
      cases d with
      | true =>
        rw [if_pos rfl, if_neg (by intro k; cases k)]
        exact h
      | false =>
        rw [if_neg (by intro k; cases k), if_neg (by intro k; cases k)]
        refine ⟨fun y hy => ?_, List.pairwise_append.2 ⟨h.next, List.pairwise_singleton _ _, fun a ha b hb => ?_⟩⟩
        · rcases List.mem_append.1 hy with hy | hy
          · exact h.each y hy
          · have : y = (rev, 0) := by simpa using hy
            subst this
            exact ⟨h2, h3, .inl rfl⟩
        · have : b = (rev, 0) := by simpa using hb
          subst this
          rcases List.mem_append.1 ha with ha | ha
          · have k := hp.2.2 a ha x (List.mem_singleton.2 rfl)
            exact ⟨k.1, by show a.2 < rev; omega⟩
          · have : a = x := by simpa using ha
            subst this
            exact ⟨hz, by show a.2 < rev; omega⟩
/-- One step of a checked mutation keeps a store good. -/
theorem good_step {sp : Sp} (h : Good sp) {rev : Int} {m : Mut} (h1 : lastOf (aget sp m.2) < rev) (h2 : 1 ≤ rev) (h3 : rev ≤ maxRev) : Good (stepA rev sp m) := by
  have hc := chain_step (h.chain m.2) h1 h2 h3 m.1
  unfold stepL at hc
  unfold stepA
  by_cases d : m.1 = true
  · rw [if_pos d] at hc ⊢
    by_cases e : thereOf (aget sp m.2) = true
    · rw [if_pos e] at hc ⊢
      refine h.put _ (fun k => ?_) hc
      have hne : aget sp m.2 ≠ [] := fun k2 => by rw [k2] at e; cases e
      have := congrArg List.length k
      unfold shutL at this
      rw [List.length_set] at this
      exact hne (List.length_eq_zero_iff.1 this)
    · rw [if_neg e]; exact h
  · rw [if_neg d] at hc ⊢
    by_cases e : thereOf (aget sp m.2) = true
    · rw [if_pos e]; exact h
    · rw [if_neg e] at hc ⊢
      exact h.put _ (by simp) hc
end Go.Proofs.YtojjnfhgldjgbaaGreatDoor.Store
end
section
set_option linter.unusedVariables false
set_option linter.unusedSimpArgs false
namespace Go.Proofs.YtojjnfhgldjgbaaGreatDoor.Store
open Go.RowKit Go.Por Go.Sort Go.Proofs.YtojjnfhgldjgbaaGreatDoor.Watch Go.Por.Tupl
section
variable {κ α : Type} [DecidableEq κ]
theorem aget_cons (e : κ × List α) (l : List (κ × List α)) (k : κ) : aget (e :: l) k = if e.1 = k then e.2 else aget l k := by
  unfold aget gfind
  rw [List.find?_cons]
  by_cases h : e.1 = k
  · rw [decide_eq_true h, if_pos h]; rfl
  · rw [decide_eq_false h, if_neg h]
theorem aget_gput' {l : List (κ × List α)} (hn : (l.map Prod.fst).Nodup) (k : κ) (v : List α) (q : κ) : aget (gput l k v) q = if q = k then v else aget l q := by
  unfold aget
  rw [gfind_gput hn]
  by_cases h : q = k
  · rw [if_pos h, if_pos h]; rfl
  · rw [if_neg h, if_neg h]
theorem gput_cons {e : κ × List α} {l : List (κ × List α)} (hn : ((e :: l).map Prod.fst).Nodup) (k : κ) (v : List α) : gput (e :: l) k v = if e.1 = k then (k, v) :: l else e :: gput l k v := by
  rw [List.map_cons, List.nodup_cons] at hn
  unfold gput
  by_cases h : e.1 = k
  · rw [if_pos h, if_pos (by rw [List.map_cons, h]; exact List.mem_cons_self), List.map_cons, if_pos h]
    congr 1
    conv => rhs; rw [← List.map_id l]
    apply List.map_congr_left
    intro p hp
    rw [if_neg (fun e2 => hn.1 (by rw [h, ← e2]; exact List.mem_map_of_mem hp))]
    rfl
  · rw [if_neg h]
    by_cases hk : k ∈ l.map Prod.fst
    · rw [if_pos (by rw [List.map_cons]; exact List.mem_cons_of_mem _ hk), if_pos hk, List.map_cons, if_neg h]
    · rw [if_neg (by rw [List.map_cons, List.mem_cons]; exact fun k2 => k2.elim (fun e2 => h e2.symm) hk), if_neg hk]
      rfl
end
theorem flat_put_len : ∀ {sp : Sp}, (sp.map Prod.fst).Nodup → ∀ (t : Tup) (l : List Span), (flatA (gput sp t l)).length + (aget sp t).length = (flatA sp).length + l.length
  | [], _, t, l => by
    show (flatA [(t, l)]).length + 0 = 0 + l.length
    unfold flatA
    simp
  | e :: sp, hn, t, l => by
    rw [gput_cons hn, aget_cons]
    have hn' := hn
    rw [List.map_cons, List.nodup_cons] at hn'
    have c : ∀ (x : Tup × List Span) (s : Sp), (flatA (x :: s)).length = x.2.length + (flatA s).length := fun x s => by
      unfold flatA
      rw [List.flatMap_cons, List.length_append, List.length_map]
    by_cases h : e.1 = t
    · rw [if_pos h, if_pos h, c, c]
      show l.length + _ + _ = _
      omega
    · rw [if_neg h, if_neg h, c, c]
      have := flat_put_len hn'.2 t l
      omega
theorem flat_stepA {sp : Sp} (hn : (sp.map Prod.fst).Nodup) (rev : Int) (m : Mut) : (flatA (stepA rev sp m)).length ≤ (flatA sp).length + 1 := by
  unfold stepA
  split <;> split
  · have := flat_put_len hn m.2 (shutL (aget sp m.2) rev)
    rw [shutL_len] at this
    omega
  · omega
  · omega
  · have := flat_put_len hn m.2 (aget sp m.2 ++ [(rev, 0)])
    rw [List.length_append, List.length_singleton] at this
    omega
theorem flat_applyA {rev : Int} : ∀ (muts : List Mut) {sp : Sp}, (sp.map Prod.fst).Nodup → (flatA (applyA rev sp muts)).length ≤ (flatA sp).length + muts.length
  | [], sp, _ => Nat.le_refl _
  | m :: ms, sp, hn => by
    have h1 := flat_applyA (rev := rev) ms (stepA_nodup (rev := rev) hn m)
    have h2 := flat_stepA hn rev m
    rw [List.length_cons]
    show (flatA (applyA rev (stepA rev sp m) ms)).length ≤ _
    omega
theorem putC_nodup {κ : Type} [DecidableEq κ] {l : List (κ × List Tup)} (hn : (l.map Prod.fst).Nodup) (k : κ) (t : Tup) : ((putC l k t).map Prod.fst).Nodup := by
  unfold putC
  split
  · exact hn
  · exact gput_nodup hn _ _
theorem aget_putC {κ : Type} [DecidableEq κ] {l : List (κ × List Tup)} (hn : (l.map Prod.fst).Nodup) (k : κ) (t : Tup) (q : κ) :
    aget (putC l k t) q = if q = k then (if tin t (aget l k) = true then aget l k else aget l k ++ [t]) else aget l q := by
  unfold putC
  by_cases h : tin t (aget l k) = true
  · rw [if_pos h, if_pos h]
    by_cases e : q = k
    · rw [if_pos e, e]
    · rw [if_neg e]
  · rw [if_neg h, if_neg h, aget_gput' hn]
/-- A part of an index: each list has its key's tuples, each of them once. -/
structure Lists {κ : Type} [DecidableEq κ] (key : Tup → κ) (sp : Sp) (l : List (κ × List Tup)) : Prop where
  keys : (l.map Prod.fst).Nodup
  once : ∀ k, (aget l k).Nodup
  just : ∀ k t, t ∈ aget l k ↔ key t = k ∧ aget sp t ≠ []
section
variable {κ : Type} [DecidableEq κ] {key : Tup → κ} {sp : Sp} {l : List (κ × List Tup)}
theorem Lists.nil : Lists key [] [] := ⟨List.nodup_nil, fun k => List.nodup_nil, fun k t => ⟨fun h => (by cases h), fun h => absurd rfl h.2⟩⟩
theorem Lists.congr {sp' : Sp} (h : Lists key sp l) (e : ∀ q, aget sp' q ≠ [] ↔ aget sp q ≠ []) : Lists key sp' l :=
  ⟨h.keys, h.once, fun k t => by rw [h.just, e]⟩
theorem Lists.add (h : Lists key sp l) (hn : (sp.map Prod.fst).Nodup) (t : Tup) {x : List Span} (hx : x ≠ []) : Lists key (gput sp t x) (putC l (key t) t) := by
  refine ⟨putC_nodup h.keys _ _, fun k => ?_, fun k q => ?_⟩
  · rw [aget_putC h.keys]
    by_cases e : k = key t
    · rw [if_pos e]
      by_cases hi : tin t (aget l (key t)) = true
      · rw [if_pos hi]; exact h.once _
      · rw [if_neg hi, List.nodup_append]
        refine ⟨h.once _, by simp, fun a ha b hb => ?_⟩
        rw [List.mem_singleton] at hb
        subst hb
        intro e2
        subst e2
        exact hi (tin_iff.2 ha)
    · rw [if_neg e]; exact h.once _
  · rw [aget_putC h.keys, aget_gput hn]
    by_cases e : k = key t
    · rw [if_pos e]
      by_cases e2 : q = t
      · rw [if_pos e2]
        subst e2
        refine ⟨fun _ => ⟨e.symm, hx⟩, fun _ => ?_⟩
        by_cases hi : tin q (aget l (key q)) = true
        · rw [if_pos hi]; exact tin_iff.1 hi
        · rw [if_neg hi]; exact List.mem_append_right _ (List.mem_singleton.2 rfl)
      · rw [if_neg e2, ← h.just, e]
        by_cases hi : tin t (aget l (key t)) = true
        · rw [if_pos hi]
        · rw [if_neg hi, List.mem_append, List.mem_singleton]
          exact ⟨fun k => k.elim id (fun k => absurd k e2), .inl⟩
    · rw [if_neg e, h.just]
      by_cases e2 : q = t
      · rw [if_pos e2]
        subst e2
        exact ⟨fun k => absurd k.1.symm e, fun k => absurd k.1.symm e⟩
      · rw [if_neg e2]
end
/-- What a store is: good, with the indices of its tuples. -/
structure Inv (x : St3) : Prop where
  good : Good x.1
  ob : Lists (fun t : Tup => (t.1, t.2.1)) x.1 x.2.1
  us : Lists (fun t : Tup => t.2.2) x.1 x.2.2
theorem Inv.nil : Inv ([], [], []) := ⟨Good.nil, Lists.nil, Lists.nil⟩
theorem Inv.step {x : St3} (h : Inv x) {rev : Int} {m : Mut} (h1 : lastOf (aget x.1 m.2) < rev) (h2 : 1 ≤ rev) (h3 : rev ≤ maxRev) : Inv (step3 rev x m) := by
  have hg := good_step h.good h1 h2 h3
  rw [← step3_fst] at hg
  refine ⟨hg, ?_, ?_⟩ <;> clear hg
  all_goals
    unfold step3
    split <;> split
  · rename_i hd ht
    refine h.ob.congr (fun q => ?_)
    rw [aget_gput h.good.nodup]
    by_cases e : q = m.2
    · rw [if_pos e, e]
      constructor
      · intro k k2
        exact k (List.length_eq_zero_iff.1 (by rw [shutL_len, k2]; rfl))
      · intro k k2
        exact k (List.length_eq_zero_iff.1 (by rw [← shutL_len _ rev, k2]; rfl))
    · rw [if_neg e]
  · exact h.ob
  · exact h.ob
  · exact h.ob.add h.good.nodup m.2 (by simp)
  · rename_i hd ht
    refine h.us.congr (fun q => ?_)
    rw [aget_gput h.good.nodup]
    by_cases e : q = m.2
    · rw [if_pos e, e]
      constructor
      · intro k k2
        exact k (List.length_eq_zero_iff.1 (by rw [shutL_len, k2]; rfl))
      · intro k k2
        exact k (List.length_eq_zero_iff.1 (by rw [← shutL_len _ rev, k2]; rfl))
    · rw [if_neg e]
  · exact h.us
  · exact h.us
  · exact h.us.add h.good.nodup m.2 (by simp)
theorem Inv.apply {rev : Int} (h2 : 1 ≤ rev) (h3 : rev ≤ maxRev) : ∀ (muts : List Mut) {x : St3}, Inv x → (∀ m ∈ muts, lastOf (aget x.1 m.2) < rev) → (muts.map (·.2)).Nodup → Inv (apply3 rev x muts)
  | [], _, h, _, _ => h
  | m :: ms, x, h, hl, hd => by
    rw [List.map_cons, List.nodup_cons] at hd
    refine Inv.apply h2 h3 ms (h.step (hl m List.mem_cons_self) h2 h3) (fun y hy => ?_) hd.2
    rw [step3_fst, aget_stepA h.good.nodup, if_neg (fun e => hd.1 (List.mem_map.2 ⟨y, hy, e⟩))]
    exact hl y (List.mem_cons_of_mem _ hy)
/-- A call of Apply. -/
def run3 (wm rev : Int) (x : St3) (muts : List Mut) : St3 := if checkA x.1 wm rev muts = 0 then apply3 rev x muts else x
theorem Inv.run {x : St3} (h : Inv x) (wm rev : Int) (muts : List Mut) : Inv (run3 wm rev x muts) := by
  unfold run3
  by_cases hc : checkA x.1 wm rev muts = 0
  · rw [if_pos hc]
    obtain ⟨h1, h2, h3, h4⟩ := checkA_ok hc
    exact h.apply h1 h2 muts (fun m hm => (h3 m hm).2.1) h4
  · rw [if_neg hc]; exact h
theorem run_len {x : St3} (h : Inv x) (wm rev : Int) (muts : List Mut) : (flatA (run3 wm rev x muts).1).length ≤ (flatA x.1).length + muts.length := by
  unfold run3
  split
  · rw [apply3_fst]; exact flat_applyA muts h.good.nodup
  · omega
theorem flat_bounds {sp : Sp} (h : Good sp) : ∀ r ∈ flatA sp, 1 ≤ r.2.1 ∧ r.2.1 ≤ maxRev ∧ (r.2.2 = 0 ∨ (r.2.1 < r.2.2 ∧ r.2.2 ≤ maxRev)) := fun r hr => by
  have h1 := (mem_flat_get h).1 hr
  exact (h.chain r.1).each _ h1
end Go.Proofs.YtojjnfhgldjgbaaGreatDoor.Store
end
section
set_option linter.unusedVariables false
set_option linter.unusedSimpArgs false
namespace Go.Proofs.YtojjnfhgldjgbaaGreatDoor.Store
open Go.RowKit Go.Por Go.Sort Go.Proofs.YtojjnfhgldjgbaaGreatDoor.Watch Go.Por.Tupl
/-- Lists of mutations applied at rising revisions. -/
def runN (x : St3) (k : Nat) : List (List Mut) → St3
  | [] => x
  | m :: r => runN (run3 0 ((k : Int) + 1) x m) (k + 1) r
theorem runN_snoc (m : List Mut) : ∀ (l : List (List Mut)) (x : St3) (k : Nat), runN x k (l ++ [m]) = run3 0 (((k + l.length : Nat) : Int) + 1) (runN x k l) m
  | [], x, k => rfl
  | a :: l, x, k => by
    show runN _ (k + 1) (l ++ [m]) = _
    rw [runN_snoc m l, List.length_cons, show k + 1 + l.length = k + (l.length + 1) by omega]
    rfl
/-- How many mutations there are. -/
def total (l : List (List Mut)) : Nat := (l.map List.length).sum
theorem total_snoc (l : List (List Mut)) (m : List Mut) : total (l ++ [m]) = total l + m.length := by
  unfold total
  rw [List.map_append, List.sum_append]
  simp
theorem total_take {l : List (List Mut)} {i : Nat} {m : List Mut} (h : l[i]? = some m) : total (l.take (i + 1)) = total (l.take i) + m.length := by
  rw [List.take_add_one, h, Option.toList_some, total_snoc]
theorem total_le (l : List (List Mut)) (i : Nat) : total (l.take i) ≤ total l := by
  conv => rhs; rw [← List.take_append_drop i l]
  unfold total
  rw [List.map_append, List.sum_append]
  omega
theorem runN_take {l : List (List Mut)} {i : Nat} {m : List Mut} (h : l[i]? = some m) (x : St3) : runN x 0 (l.take (i + 1)) = run3 0 ((i : Int) + 1) (runN x 0 (l.take i)) m := by
  have hi := (List.getElem?_eq_some_iff.1 h).1
  rw [List.take_add_one, h, Option.toList_some, runN_snoc, List.length_take, Nat.min_eq_left (Nat.le_of_lt hi), Nat.zero_add]
theorem runN_inv : ∀ (l : List (List Mut)) {x : St3} (k : Nat), Inv x → Inv (runN x k l)
  | [], _, _, h => h
  | m :: r, x, k, h => runN_inv r (k + 1) (h.run _ _ _)
theorem runN_len : ∀ (l : List (List Mut)) {x : St3} (k : Nat), Inv x → (flatA (runN x k l).1).length ≤ (flatA x.1).length + total l
  | [], _, _, _ => Nat.le_refl _
  | m :: r, x, k, h => by
    have h1 := runN_len r (k + 1) (h.run 0 ((k : Int) + 1) m)
    have h2 := run_len h 0 ((k : Int) + 1) m
    have h3 : total (m :: r) = m.length + total r := by unfold total; rw [List.map_cons, List.sum_cons]
    rw [h3]
    show (flatA (runN (run3 0 ((k : Int) + 1) x m) (k + 1) r).1).length ≤ _
    omega
end Go.Proofs.YtojjnfhgldjgbaaGreatDoor.Store
end
section
set_option linter.unusedVariables false
set_option linter.unusedSimpArgs false
namespace Go.Proofs.YtojjnfhgldjgbaaGreatDoor.Store
open Go.RowKit Go.Por Go.Sort Go.Proofs.YtojjnfhgldjgbaaGreatDoor.Watch Go.Por.Tupl
/-- Lists of mutations that came in. -/
structure ScriptIs (w : World) (v : Value) (ms : List (Value × List Mut)) : Prop where
  rd : ReadS (fun x : Value × List Mut => [x.1]) 1 w v ms
  each : ∀ x ∈ ms, ReadS mutC 4 w x.1 x.2 ∧ ∀ m ∈ x.2, TupOk m.2
  tot : total (ms.map (·.2)) ≤ 1048576
  len : ms.length ≤ 1048576
theorem read_blk {α : Type} {f : α → List Value} {c : Nat} {w : World} {v : Value} {l : List α} (h : ReadS f c w v l) (hc : 0 < c) (hl : ∀ x, (f x).length = c) (hne : l ≠ []) {k : Nat} (hk : v.ownBlock = some k) : k < w.heap.size := by
  obtain ⟨ao, cap, rfl, _⟩ := h.form
  cases l with
  | nil => exact absurd rfl hne
  | cons m r =>
    obtain ⟨b, o, rfl, _, hb⟩ := h.lt hc hl (i := 0) (x := m) rfl
    simp only [Value.ownBlock, Option.some.injEq] at hk
    omega
theorem read_below {α : Type} {f : α → List Value} {c : Nat} {w w' : World} {v : Value} {l : List α} (h : ReadS f c w v l) (hc : 0 < c) (hl : ∀ x, (f x).length = c) (hb : Below w.heap.size w w') : ReadS f c w' v l :=
  h.mod hc hl (Mod.of_below hb (fun _ => False)) (fun _ _ h => h)
theorem ScriptIs.below {w w' : World} {v : Value} {ms : List (Value × List Mut)} (h : ScriptIs w v ms) (hb : Below w.heap.size w w') : ScriptIs w' v ms :=
  ⟨read_below h.rd (by decide) (fun _ => rfl) hb, fun x hx => ⟨read_below (h.each x hx).1 (by decide) mutC_len hb, (h.each x hx).2⟩, h.tot, h.len⟩
set_option maxRecDepth 100000 in
set_option maxHeartbeats 1600000 in
theorem stored_any {w : World} {v : Value} {ms : List (Value × List Mut)} (h : ScriptIs w v ms) :
    Calls Tryz.prog 13 #[v] w fun e w' => ∃ v' l, e = .returned v' ∧ l.Perm (flatA (runN ([], [], []) 0 (ms.map (·.2))).1) ∧ l.Pairwise (fun x y => ¬ rlt y x) ∧ OwnS rowC 5 w' 63 v' l ∧ Below w.heap.size w w' ∧ ∀ k, v'.ownBlock = some k → w.heap.size ≤ k := by
  obtain ⟨ao, ca, rfl, _⟩ := h.rd.form
  obtain ⟨n, hn⟩ : ∃ n, ms.length = n := ⟨_, rfl⟩
  obtain ⟨B, hB⟩ : ∃ B, w.heap.size = B := ⟨_, rfl⟩
  obtain ⟨ml, hml⟩ : ∃ ml, ms.map (·.2) = ml := ⟨_, rfl⟩
  rw [hn] at h ⊢
  rw [hB, hml]
  have htot := h.tot
  rw [hml] at htot
  have hlen : n ≤ 1048576 := by rw [← hn]; exact h.len
  have HH := Lib.hid (And.intro h (And.intro hn (And.intro hB (And.intro hml (And.intro htot hlen)))))
  have hn1 : (n : Int) ≤ 1048576 := by omega
  have hn2 : (0 : Int) ≤ (n : Int) := by omega
  clear h hn hB hml htot hlen
  go_enter Tryz.func13, Tryz.ntmps13
  go_wp2_with fail
  refine (new_any _).mono ?_
  rintro e w1 ⟨s, rfl, ⟨O, U, M, MO, MU, lm, lo, lu, h1, e1, e2, e3⟩, b1⟩
  have hsh : Short 0 lm lo lu := ⟨fun k => by rw [e1]; exact Nat.le_refl _, fun k => by rw [e2]; exact Nat.le_refl _, fun k => by rw [e3]; exact Nat.le_refl _⟩
  have z1 := b1.size
  have hs1 := HH.out.1.below b1
  have b1' : Below B w w1 := by rw [← HH.out.2.2.1]; exact b1
  rw [HH.out.2.2.1] at h1 z1
  have H1 := Lib.hid (And.intro h1 (And.intro (And.intro e1 (And.intro e2 e3)) (And.intro b1' (And.intro hsh (And.intro z1 hs1)))))
  clear h1 e1 e2 e3 b1 b1' hsh z1 hs1
  go_wp2
  go_loopg [4, 5, 11] n (fun gg v4 v5 vi wx => ∃ (t : Nat) (lmx : List (Tup × (Value × List Span))) (lox : List (PairT × (Value × List Tup))) (lux : List (ByteArray × (Value × List Tup))), t + gg = n ∧ vi = .int .i64 (t : Int) ∧ StMem wx s O U M MO MU (grew (fun b => B ≤ b ∧ b < w1.heap.size) w1 wx) lmx lox lux 0 ∧ (smc lmx, smc lox, smc lux) = runN ([], [], []) 0 (ml.take t) ∧ Short (total (ml.take t)) lmx lox lux ∧ Mod (fun b => B ≤ b ∧ b < w1.heap.size) w1 wx)
  case atStart =>
    refine ⟨0, lm, lo, lu, by omega, rfl, H1.out.1.weaken (fun b hb => .inl hb) (fun b hb => ?_), ?_, H1.out.2.2.2.1.mono (Nat.zero_le _), Mod.refl _ _⟩
    · rcases hb with hb | hb <;> omega
    · rw [H1.out.2.1.1, H1.out.2.1.2.1, H1.out.2.1.2.2]; rfl
  case round =>
    obtain ⟨t, lmx, lox, lux, htg, rfl, hSx, hrun, hsh, hmod⟩ := hrel
    by_cases hc : t < n
    · have hci : (t : Int) < (n : Int) := by omega
      have ht0 : (0 : Int) ≤ (t : Int) := by omega
      have htb : (t : Int) < 9223372036854775807 := by omega
      obtain ⟨⟨vm, mm⟩, hx⟩ : ∃ x, ms[t]? = some x := ⟨_, List.getElem?_eq_getElem (by rw [HH.out.2.1]; exact hc)⟩
      have hne : ms ≠ [] := List.ne_nil_of_mem (List.mem_of_getElem? hx)
      have hmx : ml[t]? = some mm := by rw [← HH.out.2.2.2.1, List.getElem?_map, hx]; rfl
      have hrd := H1.out.2.2.2.2.2.rd.mod (by decide) (fun _ => rfl) hmod (fun k hk e => by have h2 := read_blk HH.out.1.rd (by decide) (fun _ => rfl) hne hk; have h3 := HH.out.2.2.1; omega)
      obtain ⟨b2, o2, rfl, r2, lt2⟩ := hrd.lt (by decide) (fun _ => rfl) hx
      have c2 : wr.cell? ⟨b2, o2 + t, none⟩ = some vm := by have := r2 0 vm rfl; rwa [Nat.mul_one, Nat.add_zero] at this
      obtain ⟨hm0a, hok⟩ := HH.out.1.each _ (List.mem_of_getElem? hx)
      have hm0 : ReadS mutC 4 w vm mm := hm0a
      clear hm0a
      obtain ⟨aom, cam, rfl, _⟩ := hm0.form
      have hm1 := (H1.out.2.2.2.2.2.each _ (List.mem_of_getElem? hx)).1
      have hvb : mm ≠ [] → ∀ k, (Value.slice aom mm.length cam).ownBlock = some k → k < B := fun hne k hk => by have h2 := read_blk hm0 (by decide) mutC_len hne hk; have h3 := HH.out.2.2.1; omega
      have hm2 : ReadS mutC 4 wr (.slice aom mm.length cam) mm := by
        by_cases hmm : mm = []
        · rw [hmm]
          exact ⟨aom, cam, rfl, Nat.zero_le _, by simp⟩
        · exact hm1.mod (by decide) mutC_len hmod (fun k hk e => by have h2 := hvb hmm k hk; omega)
      have htk := runN_take hmx ([], [], [])
      have htt := total_take hmx
      have hle := total_le ml (t + 1)
      have HE := Lib.hid (And.intro htg (And.intro hSx (And.intro hrun (And.intro hsh (And.intro hmod (And.intro hc (And.intro hm2 (And.intro hvb (And.intro hok (And.intro htk (And.intro htt hle)))))))))))
      clear htg hSx hrun hsh hmod hc hx hne hmx hrd r2 lt2 hm0 hok hm1 hvb hm2 htk htt hle
      go_wp2_with fail
      clear c2
      refine (apply_mem HE.out.2.1 HE.out.2.2.2.1 HE.out.2.2.2.2.2.2.1 (fun hne k hk hF => by
        have h1 := HE.out.2.2.2.2.2.2.2.1 hne k hk
        have h2 := H1.out.2.2.2.2.1
        rcases hF with hF | hF <;> omega) HE.out.2.2.2.2.2.2.2.2.1 (by have h1 := HH.out.2.2.2.2.1; have h2 := HE.out.2.2.2.2.2.2.2.2.2.2.1; have h3 := HE.out.2.2.2.2.2.2.2.2.2.2.2; omega) _).mono ?_
      rintro e w5 ⟨rfl, lm5, lo5, lu5, h5, p5, s5, m5⟩
      have HF := Lib.hid (And.intro h5 (And.intro p5 (And.intro s5 m5)))
      clear h5 p5 s5 m5
      go_wp2
      go_roundg (gk - 1)
      case measure => have h1 := HE.out.1; have h2 := HE.out.2.2.2.2.2.1; omega
      case rel =>
        obtain ⟨e1, e2, e3, e4, e5, e6, e7, e8, e9, e10, e11, e12⟩ := HE.out
        obtain ⟨f1, f2, f3, f4⟩ := HF.out
        have z2 := e5.size
        have z3 := f4.size
        refine ⟨t + 1, lm5, lo5, lu5, by omega, by go_num, f1.weaken (fun b hb => ?_) (fun b hb => ?_), ?_, ?_, e5.trans f4 (fun b hb => ?_)⟩
        · rcases hb with (hb | hb) | hb
          · exact .inl hb
          · exact .inr ⟨hb.1, by omega⟩
          · exact .inr ⟨by omega, hb.2⟩
        · have h2 := H1.out.2.2.2.2.1
          rcases hb with hb | hb <;> omega
        · rw [e10, ← e3, f2]
          unfold run3
          rfl
        · rw [e11]; exact f3
        · rcases hb with hb | hb
          · exact .inl hb
          · exact .inr hb.1
    · have hci : ¬ (t : Int) < (n : Int) := by omega
      have hmn : ml.length = n := by rw [← HH.out.2.2.2.1, List.length_map, HH.out.2.1]
      rw [List.take_of_length_le (by omega)] at hrun
      have hinv := runN_inv ml (x := ([], [], [])) 0 Inv.nil
      have hfl := runN_len ml (x := ([], [], [])) 0 Inv.nil
      rw [← hrun] at hinv hfl
      have e0 : (flatA (([], [], []) : St3).1).length = 0 := rfl
      rw [e0] at hfl
      have hgood := hinv.good
      have hfl' : (flatA (smc lmx)).length ≤ 1048576 := by have h1 := HH.out.2.2.2.2.1; simp only at hfl; omega
      have HE := Lib.hid (And.intro hSx (And.intro hrun (And.intro hgood (And.intro hfl' hmod))))
      clear htg hSx hrun hsh hmod hc hmn hinv hfl e0 hgood hfl'
      go_wp2_with fail
      refine (rows_mem HE.out.1 (by have := HE.out.2.2.2.1; omega) (fun r hr => by have := flat_bounds HE.out.2.2.1 r hr; omega)).mono ?_
      rintro e w5 ⟨v5', rfl, l5, p5, s5, o5, b5, n5⟩
      have HF := Lib.hid (And.intro p5 (And.intro s5 (And.intro o5 (And.intro b5 n5))))
      clear p5 s5 o5 b5 n5
      go_wp2
      go_ret
      obtain ⟨e1, e2, e3, e4, e5⟩ := HE.out
      obtain ⟨f1, f2, f3, f4, f5⟩ := HF.out
      have z2 := e5.size
      have z1 := H1.out.2.2.2.2.1
      refine ⟨_, l5, rfl, by rw [← e2]; exact f1, f2, f3, ?_, fun k hk => by have := f5 k hk; omega⟩
      exact (H1.out.2.2.1.trans (e5.to_below z1 (fun k hk => hk.1))).trans (f4.mono (by omega))
end Go.Proofs.YtojjnfhgldjgbaaGreatDoor.Store
end
section
set_option linter.unusedVariables false
set_option linter.unusedSimpArgs false
namespace Go.Proofs.YtojjnfhgldjgbaaGreatDoor.Store
open Go.RowKit Go.Por Go.ChangeShapes Go.WideShapes Go.Proofs.YtojjnfhgldjgbaaGreatDoor.Watch
section
variable {H : Type} {enc : TypeId × Value → H} {w : World} {spare : Nat → Bool} {held : Bool}
theorem bulk_sum {α : Type} (wt : α → Nat) : ∀ (xs : List α) (ds : List (DataW H)), xs.length = ds.length → (∀ (i : Nat) x d, xs[i]? = some x → ds[i]? = some d → wt x ≤ Rows.uptoBulk d) → (xs.map wt).sum ≤ Rows.uptoBulkAll ds
  | [], [], _, _ => Nat.zero_le _
  | [], _ :: _, h, _ => by simp at h
  | _ :: _, [], h, _ => by simp at h
  | x :: xs, d :: ds, h, k => by
    have h1 := bulk_sum wt xs ds (by simpa using h) (fun i x d a b => k (i + 1) x d (by simpa using a) (by simpa using b))
    have h2 := k 0 x d rfl rfl
    rw [List.map_cons, List.sum_cons]
    simp only [Rows.uptoBulkAll]
    omega
theorem open_SliceB {α : Type} {c : Nat} {R : World → List Value → α → Prop} {wt : α → Nat} {t e : TypeId} {fuel : Nat} {cs : List Value} {y : DataW H × List MemPlace} (ht : Tryz.prog.underlying t = some (.slice e)) (hc : Tryz.prog.cellsOf e = c) (hc0 : 0 < c)
    (hR : ∀ fuel cs y, DataW.trod enc Tryz.prog w 0 spare held fuel e cs = some y → ∃ x, R w cs x ∧ wt x ≤ Rows.uptoBulk y.1) (h : DataW.trod enc Tryz.prog w 0 spare held fuel t cs = some y) : ∃ v xs, cs = [v] ∧ SliceIs c R w v xs ∧ (xs.map wt).sum ≤ Rows.uptoBulk y.1 ∧ xs.length ≤ Rows.uptoBulk y.1 := by
  rcases Go.Deep.open_slice ht h with ⟨rfl, _⟩ | ⟨a, len, cap, m, n, D, Pl, rfl, _, hl, hm, hmm, hy, hx⟩
  · exact ⟨_, [], rfl, ⟨none, 0, rfl, by simp, by simp⟩, Nat.zero_le _, Nat.zero_le _⟩
  · have hlm : len ≤ m := by rw [hmm]; split <;> omega
    have each : ∀ i : Fin len, ∃ x : α, (∃ b o cs, (some a : Option Addr) = some ⟨b, o, none⟩ ∧ cs.length = c ∧ (∀ j u, cs[j]? = some u → w.cell? ⟨b, o + i.1 * c + j, none⟩ = some u) ∧ R w cs x) ∧ wt x ≤ Rows.uptoBulk (D i.1) := by
      intro i
      obtain ⟨cs', h1, h2⟩ := hx i.1 (by omega)
      obtain ⟨x, hxr, hxw⟩ := hR _ _ _ h2
      rw [hc] at h1
      obtain ⟨_, hlen, hcell⟩ := World.cells?_some h1
      obtain ⟨b, o, sp⟩ := a
      have hsp : sp = none := by
        cases sp with
        | none => rfl
        | some s =>
          obtain ⟨cs0, g1, _⟩ := hx 0 (by have := i.2; omega)
          rw [hc] at g1
          obtain ⟨_, glen, gcell⟩ := World.cells?_some g1
          have h0 := gcell 0 (by omega)
          have h3 : cs0[0]? = some cs0[0] := List.getElem?_eq_getElem (by omega)
          rw [h3] at h0
          simp only [Nat.zero_mul, Addr.add, if_true, World.cell?] at h0
          split at h0 <;> simp at h0
      subst hsp
      refine ⟨x, ⟨b, o, cs', rfl, hlen, fun j u hu => ?_, hxr⟩, hxw⟩
      have hj : j < c := by rw [← hlen]; exact (List.getElem?_eq_some_iff.1 hu).1
      have h0 := hcell j hj
      rw [Deep.add_add] at h0
      have e : (⟨b, o, none⟩ : Addr).add (i.1 * c + j) = ⟨b, o + i.1 * c + j, none⟩ := by
        unfold Addr.add
        split
        · rename_i e; rw [Nat.add_assoc, e, Nat.add_zero]
        · rw [Nat.add_assoc]
      rw [e, hu] at h0
      exact h0
    obtain ⟨F, hF⟩ := Classical.axiomOfChoice each
    have hat : ∀ i x, (List.ofFn F)[i]? = some x → ∃ hi : i < len, x = F ⟨i, hi⟩ := fun i x hx' => by
      have hi : i < len := by
        have := (List.getElem?_eq_some_iff.1 hx').1
        simpa using this
      refine ⟨hi, ?_⟩
      rw [List.getElem?_ofFn, dif_pos hi] at hx'
      exact (Option.some.inj hx').symm
    have hb := bulk_slice ((List.range len).map D) ((List.range (m - len)).map fun j => D (len + j))
    have hd : y.1 = .slice ((List.range len).map D) ((List.range (m - len)).map fun j => D (len + j)) := by rw [hy]
    rw [← hd] at hb
    have hsum := bulk_sum wt (List.ofFn F) ((List.range len).map D) (by simp) (fun i x d hx' hdd => by
      obtain ⟨hi, rfl⟩ := hat i x hx'
      rw [List.getElem?_map, List.getElem?_range hi] at hdd
      rw [← Option.some.inj hdd]
      exact (hF ⟨i, hi⟩).2)
    have hall : Rows.uptoBulkAll ((List.range len).map D) ≤ Rows.uptoBulk y.1 := by rw [hd]; simp only [Rows.uptoBulk]; omega
    refine ⟨_, List.ofFn F, rfl, ⟨some a, cap, by rw [List.length_ofFn], by rw [List.length_ofFn]; unfold maxLen at hm; omega, fun i x hx' => ?_⟩, Nat.le_trans hsum hall, by rw [List.length_ofFn]; simpa using hb⟩
    obtain ⟨hi, rfl⟩ := hat i x hx'
    exact (hF ⟨i, hi⟩).1
theorem open_mutsB {fuel : Nat} {cs : List Value} {y : DataW H × List MemPlace} (h : DataW.trod enc Tryz.prog w 0 spare held fuel 45 cs = some y) : ∃ v xs, cs = [v] ∧ SliceIs 4 (fun _ cs x => cs = mutC x ∧ TupOk x.2) w v xs ∧ xs.length ≤ Rows.uptoBulk y.1 := by
  obtain ⟨v, xs, h1, h2, _, h3⟩ := open_SliceB (R := fun _ cs x => cs = mutC x ∧ TupOk x.2) (wt := fun _ => 0) Tryz.underlying45 cellsMut (by omega) (fun fuel cs y h => by obtain ⟨x, hx⟩ := open_mutC _ _ _ h; exact ⟨x, hx, Nat.zero_le _⟩) h
  exact ⟨v, xs, h1, h2, h3⟩
theorem read_of {α : Type} {f : α → List Value} {c : Nat} {v : Value} {l : List α} {Q : α → Prop} (h : SliceIs c (fun _ cs x => cs = f x ∧ Q x) w v l) : ReadS f c w v l ∧ ∀ x ∈ l, Q x := by
  obtain ⟨ao, cap, rfl, hl, he⟩ := h
  refine ⟨⟨ao, cap, rfl, hl, fun i x hx => ?_⟩, fun x hx => ?_⟩
  · obtain ⟨b, o, cs, h1, h2, h3, h4, _⟩ := he i x hx
    exact ⟨b, o, cs, h1, h2, h3, h4⟩
  · obtain ⟨i, hi⟩ := List.getElem?_of_mem hx
    obtain ⟨b, o, cs, h1, h2, h3, h4, h5⟩ := he i x hi
    exact h5
theorem cellsMuts : Tryz.prog.cellsOf 45 = 1 := by kernel_rfl
theorem script_arg {ds : List (DataW H)} (hk : Rows.uptoSmall H ds = true) {ao : Option Addr} {n cap : Nat} {d : DataW H} {p : List MemPlace} (hd : d ∈ ds)
    (h : DataW.Trod enc Tryz.prog w 0 spare held 22 (.slice ao n cap) d p) : ∃ ms, ScriptIs w (.slice ao n cap) ms := by
  obtain ⟨fuel, hf⟩ := h
  obtain ⟨v, ms, h1, h2, h3, h4⟩ := open_SliceB (α := Value × List Mut) (c := 1) (R := fun _ cs x => cs = [x.1] ∧ SliceIs 4 (fun _ cs x => cs = mutC x ∧ TupOk x.2) w x.1 x.2) (wt := fun x => x.2.length) Tryz.underlying22 cellsMuts (by omega)
    (fun fuel cs y h => by obtain ⟨v, xs, rfl, k1, k2⟩ := open_mutsB h; exact ⟨(v, xs), ⟨rfl, k1⟩, k2⟩) (show DataW.trod enc Tryz.prog w 0 spare held fuel 22 [.slice ao n cap] = some (d, p) from hf)
  simp only [List.cons.injEq, and_true] at h1
  subst h1
  have hb : Rows.uptoBulkAll ds ≤ 1048576 := of_decide_eq_true hk
  have hp := bulk_part hd
  obtain ⟨k1, k2⟩ := read_of h2
  have ht : total (ms.map (·.2)) = (ms.map (fun x => x.2.length)).sum := by unfold total; rw [List.map_map]; rfl
  exact ⟨ms, k1, fun x hx => ⟨(read_of (k2 x hx)).1, (read_of (k2 x hx)).2⟩, by rw [ht]; simp only at h3; omega, by simp only at h4; omega⟩
end
end Go.Proofs.YtojjnfhgldjgbaaGreatDoor.Store
end
