/- WatchEffect, plain: changes whose revisions rise, the rows that they make, and what these say changes. -/
import Derived.Test.YtobcakjlfdejjaaWatchEmptyP
set_option linter.unusedVariables false
set_option linter.unusedSimpArgs false
namespace Go.Proofs.Ytobcakjlfdejjaa.Watch
open Go.RowKit Go.Por Go.Sort

/-- Is a change no idle one? -/
def effR (out : List RowT) (c : Chg) : Bool := (out.findIdx? (isOpen c.2.2)).isSome == c.2.1
theorem effR_false {out : List RowT} {c : Chg} (h : ¬ effR out c = true) : stepR out c = out := by
  unfold effR at h
  unfold stepR
  cases h1 : out.findIdx? (isOpen c.2.2) <;> cases h2 : c.2.1 <;> simp_all
def effG : List RowT → List Chg → List Chg
  | _, [] => []
  | out, c :: cs => (if effR out c then [c] else []) ++ effG (stepR out c) cs
theorem effG_sub : ∀ (cs : List Chg) (out : List RowT), (effG out cs).Sublist cs
  | [], _ => List.Sublist.slnil
  | c :: cs, out => by
    rw [effG]
    by_cases h : effR out c = true
    · rw [if_pos h]; exact (effG_sub cs _).cons_cons c
    · rw [if_neg h]; exact (effG_sub cs _).cons c
theorem effG_rows : ∀ (cs : List Chg) (out : List RowT), (effG out cs).foldl stepR out = cs.foldl stepR out
  | [], _ => rfl
  | c :: cs, out => by
    rw [effG, List.foldl_cons]
    by_cases h : effR out c = true
    · rw [if_pos h]; exact effG_rows cs (stepR out c)
    · rw [if_neg h, effR_false h]; exact effG_rows cs out
theorem rowsF_eff (cs : List Chg) : rowsF (effG [] cs) = rowsF cs := effG_rows cs []
theorem set_parts {α : Type} {l : List α} {i : Nat} {r r' : α} (h : l[i]? = some r) : ∃ A B, l = A ++ r :: B ∧ l.set i r' = A ++ r' :: B := by
  obtain ⟨hi, hr⟩ := List.getElem?_eq_some_iff.1 h
  refine ⟨l.take i, l.drop (i + 1), ?_, ?_⟩
  · rw [← hr, ← List.drop_eq_getElem_cons hi, List.take_append_drop]
  · rw [List.set_eq_take_append_cons_drop, if_pos hi]
theorem stepR_outL {M : Int} {out : List RowT} {c : Chg} (h0 : 0 < c.1) (hM : c.1 ≤ M) (hs : ∀ r ∈ out, r.2.1 < c.1) :
    (outL 0 M (stepR out c)).Perm (outL 0 M out ++ if effR out c then [c] else []) := by
  by_cases he : effR out c = true
  · rw [if_pos he]
    unfold effR at he
    unfold stepR
    obtain ⟨rev, del, t⟩ := c
    simp only at *
    cases h1 : out.findIdx? (isOpen t) with
    | none =>
      rw [h1] at he
      cases del with
      | true => simp at he
      | false =>
        simp only
        unfold outL
        rw [List.flatMap_append]
        refine List.Perm.append_left _ ?_
        have e : rowAdd 0 M (t, rev, 0) = [(rev, false, t)] := by
          unfold rowAdd addL
          simp [h0, hM]
        rw [List.flatMap_cons, List.flatMap_nil, e, List.append_nil]
    | some i =>
      rw [h1] at he
      cases del with
      | false => simp at he
      | true =>
        simp only
        obtain ⟨hi, h3, _⟩ := List.findIdx?_eq_some_iff_getElem.1 h1
        simp only [isOpen, Bool.and_eq_true, decide_eq_true_eq] at h3
        have hr := List.getElem?_eq_getElem hi
        obtain ⟨r, hrr⟩ : ∃ r, out[i] = r := ⟨_, rfl⟩
        rw [hrr] at hr h3
        rw [shutAt_some hr]
        have hsr := hs r (List.mem_of_getElem? hr)
        obtain ⟨A, B, e1, e2⟩ := set_parts (r' := (r.1, r.2.1, rev)) hr
        rw [e2]
        unfold outL
        rw [e1, List.flatMap_append, List.flatMap_cons, List.flatMap_append, List.flatMap_cons]
        have e : rowAdd 0 M (r.1, r.2.1, rev) = rowAdd 0 M r ++ [(rev, true, t)] := by
          obtain ⟨r1, r2, r3⟩ := r
          simp only at h3 hsr ⊢
          obtain ⟨rfl, rfl⟩ := h3
          have a1 : ¬ (rev ≠ 0 ∧ rev ≤ r2) := fun h => by omega
          have a2 : rev ≠ 0 := by omega
          have a3 : addL 0 M rev true r1 = [(rev, true, r1)] := if_pos ⟨h0, hM⟩
          have a4 : rowAdd 0 M (r1, r2, 0) = addL 0 M r2 false r1 := by unfold rowAdd; simp
          rw [a4]
          unfold rowAdd
          simp only
          rw [if_neg a1, if_pos a2, a3]
        rw [e]
        simp only [List.append_assoc]
        refine List.Perm.append_left _ (List.Perm.append_left _ ?_)
        exact List.perm_append_comm
  · rw [if_neg he, effR_false he, List.append_nil]
theorem stepR_since {out : List RowT} {c : Chg} {r : RowT} (h : r ∈ stepR out c) : (∃ r0 ∈ out, r.2.1 = r0.2.1) ∨ r.2.1 = c.1 := by
  unfold stepR at h
  split at h
  · rename_i i h1 h2
    obtain ⟨hi, _⟩ := List.findIdx?_eq_some_iff_getElem.1 h1
    rw [shutAt_some (List.getElem?_eq_getElem hi)] at h
    rcases List.mem_or_eq_of_mem_set h with h | h
    · exact .inl ⟨r, h, rfl⟩
    · exact .inl ⟨out[i], List.getElem_mem hi, by rw [h]⟩
  · exact .inl ⟨r, h, rfl⟩
  · exact .inl ⟨r, h, rfl⟩
  · rcases List.mem_append.1 h with h | h
    · exact .inl ⟨r, h, rfl⟩
    · rw [List.mem_singleton.1 h]; exact .inr rfl
theorem effG_perm {M : Int} : ∀ (cs : List Chg) (out : List RowT), cs.Pairwise (fun x y => x.1 < y.1) → (∀ c ∈ cs, 0 < c.1 ∧ c.1 ≤ M) → (∀ r ∈ out, ∀ c ∈ cs, r.2.1 < c.1) →
    (outL 0 M (cs.foldl stepR out)).Perm (outL 0 M out ++ effG out cs)
  | [], out, _, _, _ => by rw [effG, List.append_nil]; exact List.Perm.refl _
  | c :: cs, out, hp, hb, hs => by
    obtain ⟨h1, h2⟩ := List.pairwise_cons.1 hp
    rw [List.foldl_cons, effG, ← List.append_assoc]
    refine (effG_perm cs (stepR out c) h2 (fun d hd => hb d (List.mem_cons_of_mem _ hd)) (fun r hr d hd => ?_)).trans (List.Perm.append_right _ (stepR_outL (hb c List.mem_cons_self).1 (hb c List.mem_cons_self).2 (fun r hr => hs r hr c List.mem_cons_self)))
    rcases stepR_since hr with ⟨r0, h0, e⟩ | e
    · rw [e]; exact hs r0 h0 d (List.mem_cons_of_mem _ hd)
    · rw [e]; exact h1 d hd
theorem stab_perm {α : Type} [DecidableEq α] {lt : α → α → Bool} (h : SWO lt) {a b : List α} (k : Stab.Stab lt a b) : b.Perm a := List.perm_iff_count.2 fun x => by
  have e := congrArg (List.count x) (k x)
  rwa [List.count_filter (Stab.eqv_refl h x), List.count_filter (Stab.eqv_refl h x)] at e
theorem ccmp_lt {x y : Chg} (h : x.1 < y.1) : ltOf ccmp x y = true := by
  unfold ltOf ccmp or2v
  have e := (cmpInt_neg x.1 y.1).2 h
  unfold ltOf at e
  have e' := of_decide_eq_true e
  rw [if_neg (by omega)]
  exact e
theorem rising_sorted {l : List Chg} (h : l.Pairwise (fun x y => x.1 < y.1)) : Stab.Sorted (ltOf ccmp) l :=
  List.Pairwise.imp (R := fun x y : Chg => x.1 < y.1) (S := fun x y => ltOf ccmp y x = false) (fun h => Stab.SWO.asymm' chgSwo (ccmp_lt h)) h
theorem eqv_rev {x y : Chg} (h : Stab.eqv (ltOf ccmp) x y = true) : x.1 = y.1 := by
  obtain ⟨h1, h2⟩ := Stab.eqv_iff.1 h
  rcases Int.lt_trichotomy x.1 y.1 with k | k | k
  · rw [ccmp_lt k] at h1; cases h1
  · exact k
  · rw [ccmp_lt k] at h2; cases h2
/-- What is in order, and has the same members as changes that rise, is these. -/
theorem rising_uniq {a b : List Chg} (h : b.Pairwise (fun x y => x.1 < y.1)) (ha : Stab.Sorted (ltOf ccmp) a) (hp : a.Perm b) : a = b := by
  refine Stab.uniq chgSwo a b ha (rising_sorted h) (fun x => ?_)
  have hf := hp.filter (Stab.eqv (ltOf ccmp) x)
  have hs : (b.filter (Stab.eqv (ltOf ccmp) x)).Pairwise (fun x y => x.1 < y.1) := List.Pairwise.filter _ h
  have hm : ∀ y ∈ b.filter (Stab.eqv (ltOf ccmp) x), x.1 = y.1 := fun y hy => eqv_rev (List.mem_filter.1 hy).2
  generalize b.filter (Stab.eqv (ltOf ccmp) x) = B at hf hs hm ⊢
  generalize a.filter (Stab.eqv (ltOf ccmp) x) = A at hf ⊢
  match B, hs, hm, hf with
  | [], _, _, hf => exact (List.perm_nil.1 hf).symm
  | [y], _, _, hf => exact (List.perm_singleton.1 hf).symm
  | y :: z :: B, hs, hm, hf =>
    have h1 := hm y List.mem_cons_self
    have h2 := hm z (List.mem_cons_of_mem _ List.mem_cons_self)
    have h3 := (List.pairwise_cons.1 hs).1 z List.mem_cons_self
    omega
theorem again_eff {M : Int} {R again : List Chg} {l : List RowT} (hp : R.Pairwise (fun x y => x.1 < y.1)) (hb : ∀ c ∈ R, 0 < c.1 ∧ c.1 ≤ M) (hl : Stab.Stab (ltOf rcmp) (rowsF R) l) (ha : Stab.Stab (ltOf ccmp) (outL 0 M l) again) (hs : Stab.Sorted (ltOf ccmp) again) :
    again = effG [] R := by
  refine rising_uniq (List.Pairwise.sublist (effG_sub R []) hp) hs ((stab_perm chgSwo ha).trans ?_)
  refine ((stab_perm rowSwo hl).flatMap_right _).trans ?_
  exact effG_perm R [] hp hb (fun r hr => by cases hr)
theorem outL_len {M : Int} {R : List Chg} {l : List RowT} (hp : R.Pairwise (fun x y => x.1 < y.1)) (hb : ∀ c ∈ R, 0 < c.1 ∧ c.1 ≤ M) (hl : Stab.Stab (ltOf rcmp) (rowsF R) l) : (outL 0 M l).length ≤ R.length := by
  have h := (((stab_perm rowSwo hl).flatMap_right (rowAdd 0 M)).trans (effG_perm R [] hp hb (fun r hr => by cases hr))).length_eq
  have h2 := (effG_sub R []).length_le
  unfold outL at *
  rw [h]
  exact h2
theorem kstep_gone {ks : List Tup} {rev : Int} {t : Tup} (hn : t ∉ ks) : kstep ks (rev, true, t) = ks := by
  unfold kstep kput kputG kdel
  simp only [if_true]
  rw [if_neg hn, List.filter_append, List.filter_eq_self.2 (fun x hx => decide_eq_true (show x ≠ t from fun e => hn (by rw [← e]; exact hx)))]
  simp
theorem kstep_there {ks : List Tup} {rev : Int} {t : Tup} (hy : t ∈ ks) : kstep ks (rev, false, t) = ks := by
  unfold kstep kput kputG
  rw [if_neg (by simp), if_pos hy]
theorem effG_play : ∀ (cs : List Chg) (out : List RowT) (lm : List (Tup × Nat)) (ks : List Tup), Told out lm → (lm.map Prod.fst).Nodup → (∀ t, t ∈ ks ↔ t ∈ lm.map Prod.fst) → (∀ c ∈ cs, c.1 ≠ 0) → (effG out cs).foldl kstep ks = cs.foldl kstep ks
  | [], _, _, _, _, _, _, _ => rfl
  | (rev, del, t) :: cs, out, lm, ks, H, hn, hk, h0 => by
    have h0' : ∀ c ∈ cs, c.1 ≠ 0 := fun c hc => h0 c (List.mem_cons_of_mem _ hc)
    rw [effG, List.foldl_cons]
    by_cases ht : t ∈ lm.map Prod.fst
    · obtain ⟨⟨t', i⟩, hm, rfl⟩ := List.mem_map.1 ht
      have hh := H.hit hn hm
      cases del with
      | true =>
        have e : effR out (rev, true, t') = true := by unfold effR; simp only; rw [hh]; rfl
        have es : stepR out (rev, true, t') = shutAt out i rev := by unfold stepR; simp only; rw [hh]
        rw [if_pos e, List.singleton_append, List.foldl_cons, es]
        refine effG_play cs _ _ _ (H.shut hn hm (h0 _ List.mem_cons_self)) ?_ (fun x => ?_) h0'
        · exact List.Nodup.sublist (List.Sublist.map _ List.filter_sublist) hn
        · unfold kstep kdel kput kputG
          simp only [if_pos]
          rw [if_pos ((hk t').2 ht), List.mem_filter, hk x]
          simp only [List.mem_map, List.mem_filter, ne_eq, decide_not, Bool.not_eq_true', decide_eq_false_iff_not]
          constructor
          · rintro ⟨⟨p, hp, rfl⟩, h⟩
            exact ⟨p, ⟨hp, h⟩, rfl⟩
          · rintro ⟨p, ⟨hp, h⟩, rfl⟩
            exact ⟨⟨p, hp, rfl⟩, h⟩
      | false =>
        have e : ¬ effR out (rev, false, t') = true := by unfold effR; simp only; rw [hh]; simp
        rw [if_neg e, List.nil_append, effR_false e, kstep_there ((hk t').2 ht)]
        exact effG_play cs out lm ks H hn hk h0'
    · have hh := H.miss ht
      cases del with
      | true =>
        have e : ¬ effR out (rev, true, t) = true := by unfold effR; simp only; rw [hh]; simp
        rw [if_neg e, List.nil_append, effR_false e, kstep_gone (fun h => ht ((hk t).1 h))]
        exact effG_play cs out lm ks H hn hk h0'
      | false =>
        have e : effR out (rev, false, t) = true := by unfold effR; simp only; rw [hh]; rfl
        have es : stepR out (rev, false, t) = out ++ [(t, rev, 0)] := by unfold stepR; simp only; rw [hh]
        rw [if_pos e, List.singleton_append, List.foldl_cons, es]
        refine effG_play cs _ _ _ (H.new ht rev) ?_ (fun x => ?_) h0'
        · rw [List.map_append, List.nodup_append]
          refine ⟨hn, by simp, fun a ha b hb => ?_⟩
          simp only [List.map_cons, List.map_nil, List.mem_singleton] at hb
          rw [hb]
          rintro rfl
          exact ht ha
        · unfold kstep kput kputG
          rw [if_neg (by simp), if_neg (fun h => ht ((hk t).1 h)), List.mem_append, hk x, List.map_append, List.mem_append]
          simp
theorem playL_eff {cs : List Chg} (h : ∀ c ∈ cs, c.1 ≠ 0) : playL [] (effG [] cs) = playL [] cs := by
  unfold playL playK
  rw [List.foldl_nil, effG_play cs [] [] [] (fun t i => by simp) (by simp) (fun t => by simp) h]

/-- The changes that rise: the last revision; they. -/
def risS (l : List Chg) : Int × List Chg := l.foldl (fun s c => if s.1 < c.1 ∧ c.1 ≤ 1125899906842624 then (c.1, s.2 ++ [c]) else s) (0, [])
theorem risS_succ {l : List Chg} {t : Nat} {c : Chg} (h : l[t]? = some c) : risS (l.take (t + 1)) = if (risS (l.take t)).1 < c.1 ∧ c.1 ≤ 1125899906842624 then (c.1, (risS (l.take t)).2 ++ [c]) else risS (l.take t) :=
  foldl_succ _ l _ t c h
structure Ris (s : Int × List Chg) (n : Nat) : Prop where
  low : 0 ≤ s.1
  pair : s.2.Pairwise (fun x y => x.1 < y.1)
  each : ∀ c ∈ s.2, 0 < c.1 ∧ c.1 ≤ 1125899906842624
  under : ∀ c ∈ s.2, c.1 ≤ s.1
  len : s.2.length ≤ n
theorem ris (l : List Chg) : Ris (risS l) l.length := by
  have : ∀ (l : List Chg) (s : Int × List Chg) (n : Nat), Ris s n → Ris (l.foldl (fun s c => if s.1 < c.1 ∧ c.1 ≤ 1125899906842624 then (c.1, s.2 ++ [c]) else s) s) (n + l.length) := by
    intro l
    induction l with
    | nil => intro s n h; exact h
    | cons c l ih =>
      intro s n h
      rw [List.foldl_cons, List.length_cons, Nat.add_comm l.length 1, ← Nat.add_assoc]
      refine ih _ _ ?_
      by_cases hc : s.1 < c.1 ∧ c.1 ≤ 1125899906842624
      · rw [if_pos hc]
        have hl := h.low
        refine ⟨by show 0 ≤ c.1; omega, List.pairwise_append.2 ⟨h.pair, List.pairwise_singleton _ _, fun a ha b hb => ?_⟩, fun a ha => ?_, fun a ha => ?_, ?_⟩
        · rw [List.mem_singleton.1 hb]
          have := h.under a ha
          omega
        · rcases List.mem_append.1 ha with ha | ha
          · exact h.each a ha
          · rw [List.mem_singleton.1 ha]; omega
        · show a.1 ≤ c.1
          rcases List.mem_append.1 ha with ha | ha
          · have := h.under a ha; omega
          · rw [List.mem_singleton.1 ha]; omega
        · have := h.len
          show (s.2 ++ [c]).length ≤ n + 1
          rw [List.length_append, List.length_singleton]
          omega
      · rw [if_neg hc]
        exact ⟨h.low, h.pair, h.each, h.under, Nat.le_succ_of_le h.len⟩
  have h := this l (0, []) 0 ⟨Int.le_refl _, List.Pairwise.nil, (fun c h => by cases h), (fun c h => by cases h), Nat.le_refl _⟩
  rw [Nat.zero_add] at h
  exact h
theorem scan_hit {α : Type} {a R : List α} {n t : Nat} {x : α} (h : (a.drop n).Sublist (R.drop t)) (h1 : a[n]? = some x) (h2 : R[t]? = some x) : (a.drop (n + 1)).Sublist (R.drop (t + 1)) := by
  obtain ⟨hn, e1⟩ := List.getElem?_eq_some_iff.1 h1
  obtain ⟨ht, e2⟩ := List.getElem?_eq_some_iff.1 h2
  rw [List.drop_eq_getElem_cons hn, List.drop_eq_getElem_cons ht, e1, e2] at h
  exact List.cons_sublist_cons.1 h
theorem scan_miss {α : Type} {a R : List α} {n t : Nat} {x y : α} (h : (a.drop n).Sublist (R.drop t)) (h1 : a[n]? = some y) (h2 : R[t]? = some x) (hne : y ≠ x) : (a.drop n).Sublist (R.drop (t + 1)) := by
  obtain ⟨hn, e1⟩ := List.getElem?_eq_some_iff.1 h1
  obtain ⟨ht, e2⟩ := List.getElem?_eq_some_iff.1 h2
  rw [List.drop_eq_getElem_cons hn, List.drop_eq_getElem_cons ht, e1, e2] at h
  rw [List.drop_eq_getElem_cons hn, e1]
  cases h with
  | cons _ h => exact h
  | cons_cons _ h => exact absurd rfl hne
theorem scan_end {α : Type} {a R : List α} {n t : Nat} (hn : a.length ≤ n) : (a.drop n).Sublist (R.drop t) := by
  rw [List.drop_eq_nil_of_le hn]
  exact List.nil_sublist _
end Go.Proofs.Ytobcakjlfdejjaa.Watch
