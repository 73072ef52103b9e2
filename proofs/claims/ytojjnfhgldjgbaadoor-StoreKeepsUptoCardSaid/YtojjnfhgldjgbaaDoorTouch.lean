/- A list of a store's map is written in its place; what Apply does, plain. -/
import Derived.Test.YtojjnfhgldjgbaaDoorChkP
set_option linter.unusedVariables false
set_option linter.unusedSimpArgs false
namespace Go.Por
open Go.RowKit
theorem gput_same {κ β : Type} [DecidableEq κ] {l : List (κ × β)} (hn : (l.map Prod.fst).Nodup) {k : κ} {v : β} (h : (k, v) ∈ l) : gput l k v = l := by
  unfold gput
  rw [if_pos (List.mem_map.2 ⟨_, h, rfl⟩)]
  conv => rhs; rw [← List.map_id l]
  apply List.map_congr_left
  intro p hp
  by_cases hk : p.1 = k
  · rw [if_pos hk]
    obtain ⟨p1, p2⟩ := p
    simp only at hk
    subst hk
    rw [nodup_fst hn h hp]
    rfl
  · rw [if_neg hk]
    rfl
section
variable {κ α : Type} [DecidableEq κ] {w w' : World} {M : Nat} {enc : κ → Value} {f : α → List Value} {c : Nat} {E : TypeId} {F : Nat → Prop} {l : List (κ × (Value × List α))}
/-- A key's own slice holds something else now, in its place. -/
theorem SlMap.touch (h : SlMap w M enc f c E F l) {k : κ} {v : Value} {x x' : List α} (hg : gfind l k = some (v, x)) (hm : Mod (fun b => some b = v.ownBlock) w w') (ho : OwnS f c w' E v x') : SlMap w' M enc f c E F (gput l k (v, x')) := by
  have hmem := gfind_mem hg
  have hself := h.own _ hmem
  refine ⟨?_, fun e he => ?_, fun e he e' he' hne b hb => ?_, fun e he b hb => ?_⟩
  · have e1 : smv (gput l k (v, x')) = smv l := by
      unfold smv
      rw [gput_map (fun p : Value × List α => p.1)]
      exact gput_same (by rw [List.map_map]; exact h.nodup) (List.mem_map.2 ⟨_, hmem, rfl⟩)
    rw [e1]
    exact h.map.mod hm (fun e => hself.ne_map h.map M e.symm rfl)
  · rcases mem_gput.1 he with rfl | ⟨h4, h5⟩
    · exact ho
    · exact (h.own e h5).mod hm (fun b hb e' => h.dis e h5 _ hmem h4 b hb e'.symm)
  · rcases mem_gput.1 he with rfl | ⟨h4, h5⟩
    · rcases mem_gput.1 he' with rfl | ⟨h6, h7⟩
      · exact absurd rfl hne
      · exact h.dis _ hmem e' h7 (fun e => h6 e.symm) b hb
    · rcases mem_gput.1 he' with rfl | ⟨h6, h7⟩
      · exact h.dis e h5 _ hmem h4 b hb
      · exact h.dis e h5 e' h7 hne b hb
  · rcases mem_gput.1 he with rfl | ⟨h4, h5⟩
    · exact h.foot _ hmem b hb
    · exact h.foot e h5 b hb
theorem SlMap.nodupC {κ α : Type} {w : World} {M : Nat} {enc : κ → Value} {f : α → List Value} {c : Nat} {E : TypeId} {F : Nat → Prop} {l : List (κ × (Value × List α))} (h : SlMap w M enc f c E F l) : ((smc l).map Prod.fst).Nodup := by rw [smc_fst]; exact h.nodup
theorem slv_find {k : κ} {b n cap : Nat} (h : slv l k = .slice (some ⟨b, 0, none⟩) n cap) : ∃ x, gfind l k = some (.slice (some ⟨b, 0, none⟩) n cap, x) ∧ x = aget (smc l) k := by
  rw [aget_smc]
  unfold slv at h
  cases hg : gfind l k with
  | none => rw [hg] at h; simp at h
  | some p =>
    rw [hg] at h
    obtain ⟨p1, p2⟩ := p
    simp only [Option.map_some, Option.getD_some] at h
    subst h
    exact ⟨p2, rfl, rfl⟩
end
end Go.Por
namespace Go.Proofs.YtojjnfhgldjgbaaDoor.Store
open Go.RowKit Go.Por Go.Sort Go.Proofs.YtojjnfhgldjgbaaDoor.Watch
abbrev Ob := List (PairT × List Tup)
abbrev Us := List (ByteArray × List Tup)
/-- The spans and both indices. -/
abbrev St3 := Sp × Ob × Us
def step3 (rev : Int) (x : St3) (m : Mut) : St3 :=
  if m.1 = true then (if thereOf (aget x.1 m.2) = true then (gput x.1 m.2 (shutL (aget x.1 m.2) rev), x.2.1, x.2.2) else x)
  else (if thereOf (aget x.1 m.2) = true then x else (gput x.1 m.2 (aget x.1 m.2 ++ [(rev, 0)]), putC x.2.1 (m.2.1, m.2.2.1) m.2, putC x.2.2 m.2.2.2 m.2))
def apply3 (rev : Int) (x : St3) (muts : List Mut) : St3 := muts.foldl (step3 rev) x
theorem step3_fst (rev : Int) (x : St3) (m : Mut) : (step3 rev x m).1 = stepA rev x.1 m := by
  unfold step3 stepA
  split <;> split <;> rfl
theorem apply3_fst (rev : Int) (muts : List Mut) : ∀ x : St3, (apply3 rev x muts).1 = applyA rev x.1 muts := by
  induction muts with
  | nil => intro x; rfl
  | cons m ms ih =>
    intro x
    unfold apply3 applyA
    rw [List.foldl_cons, List.foldl_cons]
    have := ih (step3 rev x m)
    unfold apply3 applyA at this
    rw [this, step3_fst]
theorem apply3_take (rev : Int) (x : St3) (muts : List Mut) {t : Nat} {m : Mut} (h : muts[t]? = some m) : apply3 rev x (muts.take (t + 1)) = step3 rev (apply3 rev x (muts.take t)) m := by
  unfold apply3
  rw [List.take_add_one, h, Option.toList_some, List.foldl_append]
  rfl
theorem shutL_snoc (P : List Span) (x : Span) (rev : Int) : shutL (P ++ [x]) rev = P ++ [(x.1, rev)] := by
  unfold shutL
  rw [List.getLast?_concat, Option.getD_some, List.length_append, List.length_singleton, Nat.add_sub_cancel]
  rw [List.set_append_right _ _ (Nat.le_refl _), Nat.sub_self]
  rfl
theorem shutL_len (l : List Span) (rev : Int) : (shutL l rev).length = l.length := by unfold shutL; rw [List.length_set]
theorem aget_len_gput {κ α : Type} [DecidableEq κ] {l : List (κ × List α)} (hn : (l.map Prod.fst).Nodup) {N : Nat} (h : ∀ k, (aget l k).length ≤ N) (k : κ) (x : List α) (hx : x.length ≤ N) : ∀ q, (aget (gput l k x) q).length ≤ N := fun q => by
  unfold aget
  rw [gfind_gput hn]
  by_cases hq : q = k
  · rw [if_pos hq]; exact hx
  · rw [if_neg hq]; exact h q
theorem putC_len {κ : Type} [DecidableEq κ] {l : List (κ × List Tup)} (hn : (l.map Prod.fst).Nodup) {N : Nat} (h : ∀ k, (aget l k).length ≤ N) (k : κ) (t : Tup) : ∀ q, (aget (putC l k t) q).length ≤ N + 1 := fun q => by
  unfold putC
  split
  · exact Nat.le_succ_of_le (h q)
  · exact aget_len_gput hn (fun k => Nat.le_succ_of_le (h k)) k _ (by rw [List.length_append, List.length_singleton]; exact Nat.succ_le_succ (h k)) q
end Go.Proofs.YtojjnfhgldjgbaaDoor.Store
