/- StoreApart, plain: unlike mutations one by one, in any order. -/
import Derived.Test.YtojjnfhgldjgbaaDoorStoreL
import Derived.Test.YtojjnfhgldjgbaaDoorIter
set_option linter.unusedVariables false
set_option linter.unusedSimpArgs false
namespace Go.Proofs.YtojjnfhgldjgbaaDoor.Store
open Go.RowKit Go.Por Go.Sort Go.Proofs.YtojjnfhgldjgbaaDoor.Watch Go.Por.Tupl
def keysM (muts : List Mut) : List (Tup × Bool) := muts.map (fun m => (m.2, m.1))
theorem keysM_fst (muts : List Mut) : (keysM muts).map Prod.fst = muts.map (·.2) := by unfold keysM; rw [List.map_map]; rfl
theorem aget_applyG {rev : Int} {muts : List Mut} {sp : Sp} (hn : (sp.map Prod.fst).Nodup) (hd : (muts.map (·.2)).Nodup) (q : Tup) : aget (applyA rev sp muts) q = match gfind (keysM muts) q with
    | none => aget sp q
    | some d => stepL rev d (aget sp q) := by
  rw [aget_applyA muts hn hd q]
  unfold gfind keysM
  rw [List.find?_map]
  have e : ((fun e : Tup × Bool => decide (e.1 = q)) ∘ fun m : Mut => (m.2, m.1)) = fun m : Mut => decide (m.2 = q) := rfl
  rw [e]
  cases muts.find? (fun m => decide (m.2 = q)) <;> rfl
theorem gfind_same {κ β : Type} [DecidableEq κ] {l l' : List (κ × β)} (hn : (l.map Prod.fst).Nodup) (p : l.Perm l') (q : κ) : gfind l q = gfind l' q := by
  have hn' : (l'.map Prod.fst).Nodup := (p.map Prod.fst).nodup_iff.1 hn
  cases h : gfind l q with
  | none =>
    have h1 := gfind_none.1 h
    exact (gfind_none.2 (fun k => h1 ((p.map Prod.fst).mem_iff.2 k))).symm
  | some v =>
    have h1 := (gfind_some hn).1 h
    exact ((gfind_some hn').2 (p.mem_iff.1 h1)).symm
theorem aget_perm {rev : Int} {muts muts' : List Mut} (p : muts.Perm muts') (hd : (muts.map (·.2)).Nodup) (q : Tup) : aget (applyA rev [] muts) q = aget (applyA rev [] muts') q := by
  rw [aget_applyG (sp := []) List.nodup_nil hd q, aget_applyG (sp := []) List.nodup_nil ((p.map _).nodup_iff.1 hd) q, gfind_same (l := keysM muts) (l' := keysM muts') (by rw [keysM_fst]; exact hd) (p.map _) q]
theorem flat_nodup {sp : Sp} (h : Good sp) : (flatA sp).Nodup := by
  refine (flat_rows h).imp (fun {a b} hab e => ?_)
  subst e
  exact hab.elim (rlt_irrefl a) (rlt_irrefl a)
/-- Stores that give each tuple the same spans have the same rows. -/
theorem flat_perm {sp sp' : Sp} (h : Good sp) (h' : Good sp') (e : ∀ q, aget sp q = aget sp' q) : (flatA sp).Perm (flatA sp') :=
  (List.perm_ext_iff_of_nodup (flat_nodup h) (flat_nodup h')).2 (fun r => by rw [mem_flat_get h, mem_flat_get h', e])
theorem rows_same {sp sp' : Sp} (h : Good sp) (h' : Good sp') (e : ∀ q, aget sp q = aget sp' q) {l l' : List RowT} (p : l.Perm (flatA sp)) (s : l.Pairwise (fun x y => ¬ rlt y x)) (p' : l'.Perm (flatA sp')) (s' : l'.Pairwise (fun x y => ¬ rlt y x)) : l = l' :=
  rows_uniq h p s (p'.trans (flat_perm h h' e).symm) s'
theorem check_single {sp : Sp} {wm rev : Int} {m : Mut} (h1 : 1 ≤ rev) (h2 : rev ≤ maxRev) (h3 : tchk m.2 = 0) (h4 : lastOf (aget sp m.2) < rev) (h5 : wm < rev) : checkA sp wm rev [m] = 0 := by
  unfold checkA checkL checkL
  rw [if_neg (by omega), if_neg (by simpa using h3), if_neg (by intro k; cases k), if_neg (by omega)]
/-- Unlike mutations that pass together pass one by one. -/
theorem apart_step {rev : Int} {done rest : List Mut} {m : Mut} (h : checkA [] 0 rev (done ++ m :: rest) = 0) : checkA (applyA rev [] done) 0 rev [m] = 0 := by
  obtain ⟨h1, h2, h3, h4⟩ := checkA_ok h
  obtain ⟨k1, k2, k3⟩ := h3 m (List.mem_append_right _ List.mem_cons_self)
  have hd : (done.map (·.2)).Nodup := by
    rw [List.map_append] at h4
    exact (List.nodup_append.1 h4).1
  have hnot : m.2 ∉ done.map (·.2) := fun k => by
    rw [List.map_append, List.map_cons] at h4
    exact (List.nodup_append.1 h4).2.2 _ k _ List.mem_cons_self rfl
  refine check_single h1 h2 k1 ?_ (by omega)
  rw [aget_applyG (sp := []) List.nodup_nil hd, gfind_none.2 (by rw [keysM_fst]; exact hnot)]
  show lastOf [] < rev
  exact Int.lt_of_lt_of_le (by decide) h1
theorem good_of_check {rev : Int} {muts : List Mut} (h : checkA [] 0 rev muts = 0) : Good (applyA rev [] muts) := by
  obtain ⟨h1, h2, h3, h4⟩ := checkA_ok h
  exact good_applyA h1 h2 muts Good.nil (fun m hm => (h3 m hm).2.1) h4
theorem check_perm {rev : Int} {muts muts' : List Mut} (p : muts.Perm muts') (h : checkA [] 0 rev muts = 0) : checkA [] 0 rev muts' = 0 := by
  obtain ⟨h1, h2, h3, h4⟩ := checkA_ok h
  have hd : (muts'.map (·.2)).Nodup := (p.map _).nodup_iff.1 h4
  have h5 : ∀ m ∈ muts', tchk m.2 = 0 := fun m hm => (h3 m (p.mem_iff.2 hm)).1
  unfold checkA
  rw [if_neg (by omega)]
  have gen : ∀ (l : List Mut) (seen : List Tup), (∀ m ∈ l, tchk m.2 = 0 ∧ m.2 ∉ seen) → (l.map (·.2)).Nodup → checkL [] 0 rev seen l = 0 := by
    intro l
    induction l with
    | nil => intro seen _ _; rfl
    | cons m ms ih =>
      intro seen hs hn
      rw [List.map_cons, List.nodup_cons] at hn
      have h0 := hs m List.mem_cons_self
      unfold checkL
      rw [if_neg (by simpa using h0.1), if_neg (fun k => h0.2 (tin_iff.1 k)), if_neg (by
        show ¬ (rev ≤ lastOf [] ∨ rev ≤ 0)
        have e : lastOf [] = 0 := rfl
        rw [e]; omega)]
      refine ih _ (fun x hx => ⟨(hs x (List.mem_cons_of_mem _ hx)).1, fun k => ?_⟩) hn.2
      rcases List.mem_append.1 k with k | k
      · exact (hs x (List.mem_cons_of_mem _ hx)).2 k
      · rw [List.mem_singleton] at k
        exact hn.1 (List.mem_map.2 ⟨x, hx, k⟩)
  exact gen muts' [] (fun m hm => ⟨h5 m hm, fun k => by cases k⟩) hd
/-- The rows of an empty store behind a checked call: each is a mutation's. -/
theorem flat_fresh {rev : Int} {muts : List Mut} (h : checkA [] 0 rev muts = 0) : ∀ r ∈ flatA (applyA rev [] muts), r ∈ muts.map (fun m : Mut => ((m.2, rev, 0) : RowT)) := fun r hr => by
  obtain ⟨h1, h2, h3, h4⟩ := checkA_ok h
  have hg := (mem_flat_get (good_of_check h)).1 hr
  rw [aget_applyG (sp := []) List.nodup_nil h4] at hg
  have e0 : aget ([] : Sp) r.1 = [] := rfl
  rw [e0] at hg
  cases hk : gfind (keysM muts) r.1 with
  | none => rw [hk] at hg; cases hg
  | some d =>
    rw [hk] at hg
    obtain ⟨m, hm, e⟩ := List.mem_map.1 (gfind_mem hk)
    have e1 : m.2 = r.1 := (Prod.mk.inj e).1
    cases d with
    | true => cases hg
    | false =>
      have e2 : (r.2.1, r.2.2) = (rev, 0) := by
        have : (r.2.1, r.2.2) ∈ [((rev, 0) : Span)] := hg
        simpa using this
      refine List.mem_map.2 ⟨m, hm, ?_⟩
      obtain ⟨r1, r2, r3⟩ := r
      simp only at e1 e2
      rw [e1, (Prod.mk.inj e2).1, (Prod.mk.inj e2).2]
theorem flat_room {rev : Int} {muts : List Mut} (h : checkA [] 0 rev muts = 0) (hl : muts.length ≤ 1048576) : ((flatA (applyA rev [] muts)).length + 1) * 64 ≤ 140737488355328 := by
  classical
  have h1 := nodup_length (flat_nodup (good_of_check h)) (flat_fresh h)
  rw [List.length_map] at h1
  omega
theorem flat_revs {rev : Int} {muts : List Mut} (h : checkA [] 0 rev muts = 0) : ∀ r ∈ flatA (applyA rev [] muts), 0 ≤ r.2.1 ∧ r.2.1 ≤ maxRev := fun r hr => by
  obtain ⟨h1, h2, _⟩ := checkA_ok h
  obtain ⟨m, _, e⟩ := List.mem_map.1 (flat_fresh h r hr)
  rw [← e]
  exact ⟨by show 0 ≤ rev; omega, h2⟩
end Go.Proofs.YtojjnfhgldjgbaaDoor.Store
