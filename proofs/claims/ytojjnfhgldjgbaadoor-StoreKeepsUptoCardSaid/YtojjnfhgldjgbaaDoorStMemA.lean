/- What a push into one of the store's maps leaves of the store. -/
import Derived.Test.YtojjnfhgldjgbaaDoorStoreM
import Derived.Test.YtojjnfhgldjgbaaDoorEntry
set_option linter.unusedVariables false
set_option linter.unusedSimpArgs false
namespace Go.Por
open Go.RowKit
section
variable {κ α : Type} {w : World} {M : Nat} {enc : κ → Value} {f : α → List Value} {c : Nat} {E : TypeId} {F : Nat → Prop} {l : List (κ × (Value × List α))}
/-- The blocks of the lists. -/
def blk (l : List (κ × (Value × List α))) (b : Nat) : Prop := ∃ e ∈ l, e.2.1.ownBlock = some b
theorem SlMap.tight (h : SlMap w M enc f c E F l) : SlMap w M enc f c E (blk l) l := ⟨h.map, h.own, h.dis, fun e he b hb => ⟨e, he, hb⟩⟩
theorem SlMap.blk_lt (h : SlMap w M enc f c E F l) : ∀ b, blk l b → b < w.heap.size := fun b ⟨e, he, hb⟩ => (h.own e he).own_lt b hb
theorem SlMap.blk_F (h : SlMap w M enc f c E F l) : ∀ b, blk l b → F b := fun b ⟨e, he, hb⟩ => h.foot e he b hb
theorem SlMap.blk_ne (h : SlMap w M enc f c E F l) {b : Nat} {cs : Array Value} {t : TypeId} {fr : Nat × Nat} (hb : w.heap[b]? = some (.cells cs t fr)) (hne : t ≠ E) : ¬ blk l b := fun ⟨e, he, h1⟩ => by
  have ho := h.own e he
  rcases ho.form with ⟨h2, _⟩ | ⟨g, cap, h2, _, _⟩
  · rw [h2] at h1; simp [Value.ownBlock] at h1
  · rw [h2] at h1 ho
    obtain ⟨cur, h3, _⟩ := ho.block
    simp only [Value.ownBlock, Option.some.injEq] at h1
    rw [h1, hb] at h3
    injection h3 with h3
    injection h3 with _ h4 _
    exact hne h4
theorem SlMap.blk_map (h : SlMap w M enc f c E F l) {κ' : Type} {enc' : κ' → Value} {M' : Nat} {l' : List (κ' × Value)} (hm : MapIs w M' enc' l') : ¬ blk l M' := fun ⟨e, he, h1⟩ => (h.own e he).ne_map hm M' h1 rfl
theorem SlMap.blk_two {κ' α' : Type} {enc' : κ' → Value} {f' : α' → List Value} {c' : Nat} {E' : TypeId} {F' : Nat → Prop} {M' : Nat} {l' : List (κ' × (Value × List α'))} (h : SlMap w M enc f c E F l) (h' : SlMap w M' enc' f' c' E' F' l') (hne : E ≠ E') : ∀ b, blk l b → ¬ blk l' b := fun b ⟨e, he, h1⟩ => by
  have ho := h.own e he
  rcases ho.form with ⟨h2, _⟩ | ⟨g, cap, h2, _, _⟩
  · rw [h2] at h1; simp [Value.ownBlock] at h1
  · rw [h2] at h1 ho
    obtain ⟨cur, h3, _⟩ := ho.block
    simp only [Value.ownBlock, Option.some.injEq] at h1
    rw [h1] at h3
    exact h'.blk_ne h3 hne
theorem slv_blk [DecidableEq κ] {k : κ} {b : Nat} (h : some b = (slv l k).ownBlock) : blk l b := by
  unfold slv at h
  cases hg : gfind l k with
  | none => rw [hg] at h; simp [Value.ownBlock] at h
  | some p =>
    rw [hg] at h
    exact ⟨_, gfind_mem hg, h.symm⟩
end
end Go.Por
namespace Go.Proofs.YtojjnfhgldjgbaaDoor.Store
open Go.RowKit Go.Por Go.Sort Go.Proofs.YtojjnfhgldjgbaaDoor.Watch
section
variable {w w' : World} {s O U M MO MU : Nat} {F : Nat → Prop} {lm lm' : List (Tup × (Value × List Span))} {lo lo' : List (PairT × (Value × List Tup))} {lu lu' : List (ByteArray × (Value × List Tup))} {wm : Int}
/-- The blocks of the store, later. -/
def grew (F : Nat → Prop) (w w' : World) (b : Nat) : Prop := F b ∨ (w.heap.size ≤ b ∧ b < w'.heap.size)
theorem StMem.weaken {F' : Nat → Prop} (h : StMem w s O U M MO MU F lm lo lu wm) (hF : ∀ b, F b → F' b) (hl : ∀ b, F' b → b < w.heap.size) : StMem w s O U M MO MU F' lm lo lu wm :=
  ⟨h.hs, h.hO, h.hU, h.m.weaken hF, h.o.weaken hF, h.u.weaken hF, h.dis, h.ne1, h.ne2, h.ne3, hF _ h.fs, hF _ h.fO, hF _ h.fU, hF _ h.fM, hF _ h.fMO, hF _ h.fMU, hl⟩
theorem StMem.nm (h : StMem w s O U M MO MU F lm lo lu wm) {b : Nat} {cs : Array Value} {t : TypeId} {fr : Nat × Nat} (hb : w.heap[b]? = some (.cells cs t fr)) : b ≠ M ∧ b ≠ MO ∧ b ≠ MU := by
  refine ⟨fun e => ?_, fun e => ?_, fun e => ?_⟩
  · obtain ⟨es, ck, hm, _⟩ := h.m.map; rw [← e, hb] at hm; cases hm
  · obtain ⟨es, ck, hm, _⟩ := h.o.map; rw [← e, hb] at hm; cases hm
  · obtain ⟨es, ck, hm, _⟩ := h.u.map; rw [← e, hb] at hm; cases hm
theorem StMem.setM (h : StMem w s O U M MO MU F lm lo lu wm) (hm : Mod (fun b => b = M ∨ blk lm b) w w') (hs : SlMap w' M encT spanC 2 56 (fun b => blk lm b ∨ (w.heap.size ≤ b ∧ b < w'.heap.size)) lm') : StMem w' s O U M MO MU (grew F w w') lm' lo lu wm := by
  have nS : ∀ (b : Nat) (cs : Array Value) (t : TypeId), t ≠ 56 → w.heap[b]? = some (.cells cs t (0, 0)) → ¬ (b = M ∨ blk lm b) := fun b cs t ht hb hh => by
    rcases hh with e | hh
    · exact (h.nm hb).1 e
    · exact h.m.blk_ne hb ht hh
  have nO : ∀ b, blk lo b → ¬ (b = M ∨ blk lm b) := fun b hb hh => by
    rcases hh with e | hh
    · rw [e] at hb; exact h.o.blk_map h.m.map hb
    · exact h.m.blk_two h.o (by decide) b hh hb
  have nU : ∀ b, blk lu b → ¬ (b = M ∨ blk lm b) := fun b hb hh => by
    rcases hh with e | hh
    · rw [e] at hb; exact h.u.blk_map h.m.map hb
    · exact h.m.blk_two h.u (by decide) b hh hb
  have nMO : ¬ (MO = M ∨ blk lm MO) := fun hh => by
    rcases hh with e | hh
    · exact h.ne1 e.symm
    · exact h.m.blk_map h.o.map hh
  have nMU : ¬ (MU = M ∨ blk lm MU) := fun hh => by
    rcases hh with e | hh
    · exact h.ne2 e.symm
    · exact h.m.blk_map h.u.map hh
  refine ⟨hm.old h.hs (nS _ _ _ (by decide) h.hs), hm.old h.hO (nS _ _ _ (by decide) h.hO), hm.old h.hU (nS _ _ _ (by decide) h.hU), hs.weaken (fun b hb => ?_), (h.o.mod hm nMO (fun e he b hb => nO b ⟨e, he, hb⟩)).weaken (fun b hb => .inl hb), (h.u.mod hm nMU (fun e he b hb => nU b ⟨e, he, hb⟩)).weaken (fun b hb => .inl hb), h.dis, h.ne1, h.ne2, h.ne3, .inl h.fs, .inl h.fO, .inl h.fU, .inl h.fM, .inl h.fMO, .inl h.fMU, fun b hb => ?_⟩
  · rcases hb with hb | hb
    · exact .inl (h.m.blk_F b hb)
    · exact .inr hb
  · rcases hb with hb | hb
    · exact Nat.lt_of_lt_of_le (h.lt b hb) hm.size
    · exact hb.2
theorem StMem.setO (h : StMem w s O U M MO MU F lm lo lu wm) (hm : Mod (fun b => b = MO ∨ blk lo b) w w') (hs : SlMap w' MO encP tupC 3 27 (fun b => blk lo b ∨ (w.heap.size ≤ b ∧ b < w'.heap.size)) lo') : StMem w' s O U M MO MU (grew F w w') lm lo' lu wm := by
  have nS : ∀ (b : Nat) (cs : Array Value) (t : TypeId), t ≠ 27 → w.heap[b]? = some (.cells cs t (0, 0)) → ¬ (b = MO ∨ blk lo b) := fun b cs t ht hb hh => by
    rcases hh with e | hh
    · exact (h.nm hb).2.1 e
    · exact h.o.blk_ne hb ht hh
  have nM : ∀ b, blk lm b → ¬ (b = MO ∨ blk lo b) := fun b hb hh => by
    rcases hh with e | hh
    · rw [e] at hb; exact h.m.blk_map h.o.map hb
    · exact h.o.blk_two h.m (by decide) b hh hb
  have nU : ∀ b, blk lu b → ¬ (b = MO ∨ blk lo b) := fun b hb hh => by
    rcases hh with e | ⟨e1, he1, hh⟩
    · rw [e] at hb; exact h.u.blk_map h.o.map hb
    · obtain ⟨e2, he2, hb⟩ := hb
      exact h.dis e1 he1 e2 he2 b hh hb
  have nMM : ¬ (M = MO ∨ blk lo M) := fun hh => by
    rcases hh with e | hh
    · exact h.ne1 e
    · exact h.o.blk_map h.m.map hh
  have nMU : ¬ (MU = MO ∨ blk lo MU) := fun hh => by
    rcases hh with e | hh
    · exact h.ne3 e.symm
    · exact h.o.blk_map h.u.map hh
  refine ⟨hm.old h.hs (nS _ _ _ (by decide) h.hs), hm.old h.hO (nS _ _ _ (by decide) h.hO), hm.old h.hU (nS _ _ _ (by decide) h.hU), (h.m.mod hm nMM (fun e he b hb => nM b ⟨e, he, hb⟩)).weaken (fun b hb => .inl hb), hs.weaken (fun b hb => ?_), (h.u.mod hm nMU (fun e he b hb => nU b ⟨e, he, hb⟩)).weaken (fun b hb => .inl hb), fun e he e' he' b hb hb' => ?_, h.ne1, h.ne2, h.ne3, .inl h.fs, .inl h.fO, .inl h.fU, .inl h.fM, .inl h.fMO, .inl h.fMU, fun b hb => ?_⟩
  · rcases hb with hb | hb
    · exact .inl (h.o.blk_F b hb)
    · exact .inr hb
  · have hlu := h.u.blk_lt b ⟨e', he', hb'⟩
    rcases hs.foot e he b hb with ⟨e2, he2, h2⟩ | h2
    · exact h.dis e2 he2 e' he' b h2 hb'
    · omega
  · rcases hb with hb | hb
    · exact Nat.lt_of_lt_of_le (h.lt b hb) hm.size
    · exact hb.2
theorem StMem.setU (h : StMem w s O U M MO MU F lm lo lu wm) (hm : Mod (fun b => b = MU ∨ blk lu b) w w') (hs : SlMap w' MU (fun s => .string s) tupC 3 27 (fun b => blk lu b ∨ (w.heap.size ≤ b ∧ b < w'.heap.size)) lu') : StMem w' s O U M MO MU (grew F w w') lm lo lu' wm := by
  have nS : ∀ (b : Nat) (cs : Array Value) (t : TypeId), t ≠ 27 → w.heap[b]? = some (.cells cs t (0, 0)) → ¬ (b = MU ∨ blk lu b) := fun b cs t ht hb hh => by
    rcases hh with e | hh
    · exact (h.nm hb).2.2 e
    · exact h.u.blk_ne hb ht hh
  have nM : ∀ b, blk lm b → ¬ (b = MU ∨ blk lu b) := fun b hb hh => by
    rcases hh with e | hh
    · rw [e] at hb; exact h.m.blk_map h.u.map hb
    · exact h.u.blk_two h.m (by decide) b hh hb
  have nO : ∀ b, blk lo b → ¬ (b = MU ∨ blk lu b) := fun b hb hh => by
    rcases hh with e | ⟨e1, he1, hh⟩
    · rw [e] at hb; exact h.o.blk_map h.u.map hb
    · obtain ⟨e2, he2, hb⟩ := hb
      exact h.dis e2 he2 e1 he1 b hb hh
  have nMM : ¬ (M = MU ∨ blk lu M) := fun hh => by
    rcases hh with e | hh
    · exact h.ne2 e
    · exact h.u.blk_map h.m.map hh
  have nMO : ¬ (MO = MU ∨ blk lu MO) := fun hh => by
    rcases hh with e | hh
    · exact h.ne3 e
    · exact h.u.blk_map h.o.map hh
  refine ⟨hm.old h.hs (nS _ _ _ (by decide) h.hs), hm.old h.hO (nS _ _ _ (by decide) h.hO), hm.old h.hU (nS _ _ _ (by decide) h.hU), (h.m.mod hm nMM (fun e he b hb => nM b ⟨e, he, hb⟩)).weaken (fun b hb => .inl hb), (h.o.mod hm nMO (fun e he b hb => nO b ⟨e, he, hb⟩)).weaken (fun b hb => .inl hb), hs.weaken (fun b hb => ?_), fun e he e' he' b hb hb' => ?_, h.ne1, h.ne2, h.ne3, .inl h.fs, .inl h.fO, .inl h.fU, .inl h.fM, .inl h.fMO, .inl h.fMU, fun b hb => ?_⟩
  · rcases hb with hb | hb
    · exact .inl (h.u.blk_F b hb)
    · exact .inr hb
  · have hlo := h.o.blk_lt b ⟨e, he, hb⟩
    rcases hs.foot e' he' b hb' with ⟨e2, he2, h2⟩ | h2
    · exact h.dis e he e2 he2 b hb h2
    · omega
  · rcases hb with hb | hb
    · exact Nat.lt_of_lt_of_le (h.lt b hb) hm.size
    · exact hb.2
end
end Go.Proofs.YtojjnfhgldjgbaaDoor.Store
