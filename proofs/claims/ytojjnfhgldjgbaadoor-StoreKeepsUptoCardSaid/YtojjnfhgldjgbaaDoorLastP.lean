/- last, there, readable. -/
import Derived.Test.YtojjnfhgldjgbaaDoorStoreM
set_option linter.unusedVariables false
set_option linter.unusedSimpArgs false
namespace Go.Proofs.YtojjnfhgldjgbaaDoor.Store
open Go.RowKit Go.Por Go.Sort Go.Proofs.YtojjnfhgldjgbaaDoor.Watch
theorem lastOf_snoc (P : List Span) (x : Span) : lastOf (P ++ [x]) = max x.1 x.2 := by unfold lastOf; rw [List.getLast?_concat]
theorem thereOf_snoc (P : List Span) (x : Span) : thereOf (P ++ [x]) = decide (x.2 = 0) := by unfold thereOf; rw [List.getLast?_concat]
section
variable {w : World} {s O U M MO MU : Nat} {F : Nat → Prop} {lm : List (Tup × (Value × List Span))} {lo : List (PairT × (Value × List Tup))} {lu : List (ByteArray × (Value × List Tup))} {wm : Int}
/-- A tuple's spans: none, or a last one. -/
theorem spans_last (h : StMem w s O U M MO MU F lm lo lu wm) (t : Tup) : (slv lm t = .slice none 0 0 ∧ aget (smc lm) t = []) ∨ (∃ g cap, slv lm t = .slice (some ⟨g, 0, none⟩) 0 cap ∧ aget (smc lm) t = []) ∨ ∃ g cap n P x, slv lm t = .slice (some ⟨g, 0, none⟩) (n + 1) cap ∧ aget (smc lm) t = P ++ [x] ∧ P.length = n ∧ n + 1 ≤ maxLen ∧ w.cell? ⟨g, n * 2 + 0, none⟩ = some (.int .i64 x.1) ∧ w.cell? ⟨g, n * 2 + 1, none⟩ = some (.int .i64 x.2) ∧ F g := by
  have h1 := (h.m.at t).1
  rcases h1.form with ⟨h2, h3⟩ | ⟨g, cap, h2, h5, h6⟩
  · exact .inl ⟨h2, h3⟩
  · rcases List.eq_nil_or_concat (aget (smc lm) t) with h4 | ⟨P, x, h4⟩
    · rw [h4] at h2
      exact .inr (.inl ⟨g, cap, h2, h4⟩)
    · rw [List.concat_eq_append] at h4
      rw [h2, h4] at h1
      rw [h4, List.length_append, List.length_singleton] at h2 h5
      have hx : (P ++ [x])[P.length]? = some x := by simp
      exact .inr (.inr ⟨g, cap, P.length, P, x, h2, h4, rfl, by omega, h1.cell spanC_len hx (j := 0) (by omega) rfl, h1.cell spanC_len hx (j := 1) (by omega) rfl, (h.m.at t).2.1 g (by rw [h2]; rfl)⟩)
set_option maxRecDepth 100000 in
set_option maxHeartbeats 1600000 in
theorem last_any (h : StMem w s O U M MO MU F lm lo lu wm) (t : Tup) : Calls Tryd.prog 25 #[.pointer (some ⟨s, 0, none⟩), .agg (tupC t).toArray] w fun e w' => e = .returned (.int .i64 (lastOf (aget (smc lm) t))) ∧ Below w.heap.size w w' := by
  obtain ⟨t0, t1, t2⟩ := t
  obtain ⟨K, hK⟩ : ∃ K, w.heap.size = K := ⟨_, rfl⟩
  obtain ⟨v, hv⟩ : ∃ v, slv lm (t0, t1, t2) = v := ⟨_, rfl⟩
  obtain ⟨L, hL⟩ : ∃ L, aget (smc lm) (t0, t1, t2) = L := ⟨_, rfl⟩
  obtain ⟨W1, hW1⟩ : ∃ W1, w.alloc (.cells #[.string t0, .string t1, .string t2] 27) = W1 := ⟨_, rfl⟩
  have m1 : Mod (fun _ => False) w W1 := by rw [← hW1]; exact (Mod.refl _ w).alloc _
  have hb1 : Below K w W1 := by rw [← hW1, ← hK]; exact (Below.refl _ w).alloc (Nat.le_refl _) _
  have hT1 : W1.heap[K]? = some (.cells #[.string t0, .string t1, .string t2] 27 (0, 0)) := by rw [← hW1, ← hK]; exact block_new w _
  have hcl := spans_last h (t0, t1, t2)
  have hlook : ∀ W : World, SlMap W M encT spanC 2 56 F lm → (Instr.lookup 45 (.map (some M)) (.agg #[.string t0, .string t1, .string t2]) false).run Tryd.prog W = .ok v W := fun W hW => by
    rw [← hv]
    exact hW.look keyTup Tryd.underlying45 (zeroSpans W) (t0, t1, t2)
  rw [hv, hL] at hcl
  rw [hL]
  have HH := Lib.hid (And.intro h (And.intro hlook (And.intro m1 (And.intro hb1 (And.intro hT1 (And.intro hK (h.m.mod m1 id (fun _ _ _ _ h => h))))))))
  have HC := Lib.hid hcl
  clear h hlook m1 hb1 hT1 hv hL hcl
  unfold tupC
  go_enter Tryd.func25, Tryd.ntmps25
  go_upto_region 1 with fail
  clear hW1 hK
  refine wp_region_held_drew (S := fun w' => Mod (fun _ => False) W1 w') (by kernel_rfl) ((Mod.refl _ W1).drew) (fun hS => ?_)
  refine takeD (i := 0) rfl (by kernel_rfl) (by kernel_rfl) (by kernel_rfl) (fun _ _ _ h => h) hS (Or.inl ⟨by rfl, fun w hSw => by go_simp; rfl⟩) ?_
  simp only [Act.put, List.setIfInBounds_toArray, List.set_cons_zero, List.set_cons_succ]
  refine takeD (i := 1) rfl (by kernel_rfl) (by kernel_rfl) (by kernel_rfl) (fun _ _ _ h => h) hS (Or.inl ⟨by rfl, fun w hSw => by go_simp; rfl⟩) ?_
  simp only [Act.put, List.setIfInBounds_toArray, List.set_cons_zero, List.set_cons_succ]
  refine takeD (i := 2) rfl (by kernel_rfl) (by kernel_rfl) (by kernel_rfl) (fun _ _ _ h => h) hS (Or.inl ⟨by rfl, fun w hSw => by go_simp; rfl⟩) ?_
  simp only [Act.put, List.setIfInBounds_toArray, List.set_cons_zero, List.set_cons_succ]
  refine takeD (i := 3) (v := (.map (some M))) rfl (by kernel_rfl) (by kernel_rfl) (by kernel_rfl) (fun _ _ _ h => h) hS (Or.inl ⟨by rfl, fun w hSw => by have c := cell_of (i := 0) (hSw.old (HH.out.2.2.1.old HH.out.1.hs id) id) rfl; go_simp⟩) ?_
  simp only [Act.put, List.setIfInBounds_toArray, List.set_cons_zero, List.set_cons_succ]
  refine takeD (i := 4) rfl (by kernel_rfl) (by kernel_rfl) (by kernel_rfl) (fun _ _ _ h => h) hS (yieldsIf_load_mid (by rfl) 27 (.tmp 3) rfl K 0 rfl ([.string t0, .string t1, .string t2]) _ (fun w hSw => row_range (hSw.old HH.out.2.2.2.2.1 id)) Tryd.underlying27 rfl infoTup0) ?_
  simp only [Act.put, List.setIfInBounds_toArray, List.set_cons_zero, List.set_cons_succ]
  refine takeD (i := 5) (v := v) rfl (by kernel_rfl) (by kernel_rfl) (by kernel_rfl) (fun _ _ _ h => h) hS (Or.inl ⟨by rfl, fun w hSw => by have c := HH.out.2.1 w (HH.out.2.2.2.2.2.2.mod hSw id (fun _ _ _ _ h => h)); go_simp⟩) ?_
  simp only [Act.put, List.setIfInBounds_toArray, List.set_cons_zero, List.set_cons_succ]
  refine takeD (i := 6) rfl (by kernel_rfl) (by kernel_rfl) (by kernel_rfl) (fun _ _ _ h => h) hS (Or.inl ⟨by rfl, fun w hSw => by go_simp; rfl⟩) ?_
  simp only [Act.put, List.setIfInBounds_toArray, List.set_cons_zero, List.set_cons_succ]
  refine wpAnyH_done (by kernel_rfl) ?_ _
  rcases HC.out with ⟨rfl, rfl⟩ | ⟨g, cap, rfl, rfl⟩ | ⟨g, cap, n, P, x, rfl, rfl, hn, hnm, c0, c1, hg⟩
  · clear HC
    simp only [Exit.then]
    go_wp2
    go_ret
    exact ⟨rfl, HH.out.2.2.2.2.2.1 ▸ HH.out.2.2.2.1.drew⟩
  · clear HC
    simp only [Exit.then]
    go_wp2
    go_ret
    exact ⟨rfl, HH.out.2.2.2.2.2.1 ▸ HH.out.2.2.2.1.drew⟩
  · clear HC
    have hgl := HH.out.1.lt _ hg
    have c0' := (hS.cell (Nat.lt_of_lt_of_le hgl HH.out.2.2.1.size) id).trans ((HH.out.2.2.1.cell hgl id).trans c0)
    have c1' := (hS.cell (Nat.lt_of_lt_of_le hgl HH.out.2.2.1.size) id).trans ((HH.out.2.2.1.cell hgl id).trans c1)
    have hgl' := Nat.lt_of_lt_of_le (Nat.lt_of_lt_of_le hgl HH.out.2.2.1.size) hS.size
    have HG := Lib.hid (And.intro hn (And.intro hnm (And.intro c0 (And.intro c1 (And.intro hgl (And.intro c0' (And.intro c1' hgl')))))))
    clear hn hnm c0 c1 hg hgl c0' c1' hgl'
    simp only [Exit.then]
    go_upto_region 4 with fail
    generalize hW2 : W1.drew = W2 at *
    refine wp_region_held_drew (S := fun w' => Mod (fun _ => False) W2 w') (by kernel_rfl) ((Mod.refl _ W2).drew) (fun hS => ?_)
    refine takeD (i := 0) rfl (by kernel_rfl) (by kernel_rfl) (by kernel_rfl) (fun _ _ _ h => h) hS (Or.inl ⟨by rfl, fun w hSw => by go_simp; rfl⟩) ?_
    simp only [Act.put, List.setIfInBounds_toArray, List.set_cons_zero, List.set_cons_succ]
    refine takeD (i := 1) rfl (by kernel_rfl) (by kernel_rfl) (by kernel_rfl) (fun _ _ _ h => h) hS (Or.inl ⟨by rfl, fun w hSw => by go_simp; rfl⟩) ?_
    simp only [Act.put, List.setIfInBounds_toArray, List.set_cons_zero, List.set_cons_succ]
    refine takeD (i := 2) (v := (.int .i64 ((n : Int) + 1))) rfl (by kernel_rfl) (by kernel_rfl) (by kernel_rfl) (fun _ _ _ h => h) hS (Or.inl ⟨by rfl, fun w hSw => by go_simp⟩) ?_
    simp only [Act.put, List.setIfInBounds_toArray, List.set_cons_zero, List.set_cons_succ]
    refine takeD (i := 3) (v := (.int .i64 (n : Int))) rfl (by kernel_rfl) (by kernel_rfl) (by kernel_rfl) (fun _ _ _ h => h) hS (Or.inl ⟨by rfl, fun w hSw => by have e1 : (n : Int) + 1 - 1 = (n : Int) := (by omega); have e2 := HG.out.2.1; simp only [maxLen] at e2; go_simp; rw [IntKind.wrap_i64]; omega⟩) ?_
    simp only [Act.put, List.setIfInBounds_toArray, List.set_cons_zero, List.set_cons_succ]
    refine takeD (i := 4) (v := (.pointer (some ⟨g, n * 2, none⟩))) rfl (by kernel_rfl) (by kernel_rfl) (by kernel_rfl) (fun _ _ _ h => h) hS (Or.inl ⟨by rfl, fun w hSw => by have e1 : (n : Int) + 1 - 1 = (n : Int) := (by omega); have e2 := HG.out.2.1; simp only [maxLen] at e2; go_simp; exact fun h => absurd h (by omega)⟩) ?_
    simp only [Act.put, List.setIfInBounds_toArray, List.set_cons_zero, List.set_cons_succ]
    refine takeD (i := 5) (v := (.pointer (some ⟨g, n * 2 + 0, none⟩))) rfl (by kernel_rfl) (by kernel_rfl) (by kernel_rfl) (fun _ _ _ h => h) hS (Or.inl ⟨by rfl, fun w hSw => by go_simp⟩) ?_
    simp only [Act.put, List.setIfInBounds_toArray, List.set_cons_zero, List.set_cons_succ]
    refine takeD (i := 6) (v := (.int .i64 x.1)) rfl (by kernel_rfl) (by kernel_rfl) (by kernel_rfl) (fun _ _ _ h => h) hS (Or.inl ⟨by rfl, fun w hSw => by have c : w.cell? ⟨g, n * 2, none⟩ = _ := (hSw.cell HG.out.2.2.2.2.2.2.2 id).trans HG.out.2.2.2.2.2.1; go_simp⟩) ?_
    simp only [Act.put, List.setIfInBounds_toArray, List.set_cons_zero, List.set_cons_succ]
    refine takeD (i := 7) rfl (by kernel_rfl) (by kernel_rfl) (by kernel_rfl) (fun _ _ _ h => h) hS (Or.inl ⟨by rfl, fun w hSw => by go_simp; rfl⟩) ?_
    simp only [Act.put, List.setIfInBounds_toArray, List.set_cons_zero, List.set_cons_succ]
    refine takeD (i := 8) rfl (by kernel_rfl) (by kernel_rfl) (by kernel_rfl) (fun _ _ _ h => h) hS (Or.inl ⟨by rfl, fun w hSw => by go_simp; rfl⟩) ?_
    simp only [Act.put, List.setIfInBounds_toArray, List.set_cons_zero, List.set_cons_succ]
    refine takeD (i := 9) (v := (.int .i64 ((n : Int) + 1))) rfl (by kernel_rfl) (by kernel_rfl) (by kernel_rfl) (fun _ _ _ h => h) hS (Or.inl ⟨by rfl, fun w hSw => by go_simp⟩) ?_
    simp only [Act.put, List.setIfInBounds_toArray, List.set_cons_zero, List.set_cons_succ]
    refine takeD (i := 10) (v := (.int .i64 (n : Int))) rfl (by kernel_rfl) (by kernel_rfl) (by kernel_rfl) (fun _ _ _ h => h) hS (Or.inl ⟨by rfl, fun w hSw => by have e1 : (n : Int) + 1 - 1 = (n : Int) := (by omega); have e2 := HG.out.2.1; simp only [maxLen] at e2; go_simp; rw [IntKind.wrap_i64]; omega⟩) ?_
    simp only [Act.put, List.setIfInBounds_toArray, List.set_cons_zero, List.set_cons_succ]
    refine takeD (i := 11) (v := (.pointer (some ⟨g, n * 2, none⟩))) rfl (by kernel_rfl) (by kernel_rfl) (by kernel_rfl) (fun _ _ _ h => h) hS (Or.inl ⟨by rfl, fun w hSw => by have e1 : (n : Int) + 1 - 1 = (n : Int) := (by omega); have e2 := HG.out.2.1; simp only [maxLen] at e2; go_simp; exact fun h => absurd h (by omega)⟩) ?_
    simp only [Act.put, List.setIfInBounds_toArray, List.set_cons_zero, List.set_cons_succ]
    refine takeD (i := 12) (v := (.pointer (some ⟨g, n * 2 + 1, none⟩))) rfl (by kernel_rfl) (by kernel_rfl) (by kernel_rfl) (fun _ _ _ h => h) hS (Or.inl ⟨by rfl, fun w hSw => by go_simp⟩) ?_
    simp only [Act.put, List.setIfInBounds_toArray, List.set_cons_zero, List.set_cons_succ]
    refine takeD (i := 13) (v := (.int .i64 x.2)) rfl (by kernel_rfl) (by kernel_rfl) (by kernel_rfl) (fun _ _ _ h => h) hS (Or.inl ⟨by rfl, fun w hSw => by have c := (hSw.cell HG.out.2.2.2.2.2.2.2 id).trans HG.out.2.2.2.2.2.2.1; go_simp⟩) ?_
    simp only [Act.put, List.setIfInBounds_toArray, List.set_cons_zero, List.set_cons_succ]
    refine takeD (i := 14) (v := (.int .i64 (max x.1 x.2))) rfl (by kernel_rfl) (by kernel_rfl) (by kernel_rfl) (fun _ _ _ h => h) hS (Or.inl ⟨by rfl, fun w hSw => by go_simp⟩) ?_
    simp only [Act.put, List.setIfInBounds_toArray, List.set_cons_zero, List.set_cons_succ]
    refine takeD (i := 15) rfl (by kernel_rfl) (by kernel_rfl) (by kernel_rfl) (fun _ _ _ h => h) hS (Or.inl ⟨by rfl, fun w hSw => by go_simp; rfl⟩) ?_
    simp only [Act.put, List.setIfInBounds_toArray, List.set_cons_zero, List.set_cons_succ]
    refine wpAnyH_done (by kernel_rfl) ?_ _
    simp only [Exit.then]
    go_wp2
    go_ret
    refine ⟨?_, ?_⟩
    · rw [lastOf_snoc]; rfl
    · rw [HH.out.2.2.2.2.2.1]
      refine HH.out.2.2.2.1.trans (Below.trans (b := W2) ?_ ((Below.refl K W2).drew))
      rw [← hW2]
      exact (Below.refl K W1).drew
set_option maxRecDepth 100000 in
set_option maxHeartbeats 1600000 in
theorem there_any (h : StMem w s O U M MO MU F lm lo lu wm) (t : Tup) : Calls Tryd.prog 16 #[.pointer (some ⟨s, 0, none⟩), .agg (tupC t).toArray] w fun e w' => e = .returned (.bool (thereOf (aget (smc lm) t))) ∧ Below w.heap.size w w' := by
  obtain ⟨t0, t1, t2⟩ := t
  obtain ⟨K, hK⟩ : ∃ K, w.heap.size = K := ⟨_, rfl⟩
  obtain ⟨v, hv⟩ : ∃ v, slv lm (t0, t1, t2) = v := ⟨_, rfl⟩
  obtain ⟨L, hL⟩ : ∃ L, aget (smc lm) (t0, t1, t2) = L := ⟨_, rfl⟩
  obtain ⟨W1, hW1⟩ : ∃ W1, w.alloc (.cells #[.string t0, .string t1, .string t2] 27) = W1 := ⟨_, rfl⟩
  have m1 : Mod (fun _ => False) w W1 := by rw [← hW1]; exact (Mod.refl _ w).alloc _
  have hb1 : Below K w W1 := by rw [← hW1, ← hK]; exact (Below.refl _ w).alloc (Nat.le_refl _) _
  have hT1 : W1.heap[K]? = some (.cells #[.string t0, .string t1, .string t2] 27 (0, 0)) := by rw [← hW1, ← hK]; exact block_new w _
  have hcl := spans_last h (t0, t1, t2)
  have hlook : ∀ W : World, SlMap W M encT spanC 2 56 F lm → (Instr.lookup 45 (.map (some M)) (.agg #[.string t0, .string t1, .string t2]) false).run Tryd.prog W = .ok v W := fun W hW => by
    rw [← hv]
    exact hW.look keyTup Tryd.underlying45 (zeroSpans W) (t0, t1, t2)
  rw [hv, hL] at hcl
  rw [hL]
  have HH := Lib.hid (And.intro h (And.intro hlook (And.intro m1 (And.intro hb1 (And.intro hT1 (And.intro hK (h.m.mod m1 id (fun _ _ _ _ h => h))))))))
  have HC := Lib.hid hcl
  clear h hlook m1 hb1 hT1 hv hL hcl
  unfold tupC
  go_enter Tryd.func16, Tryd.ntmps16
  go_upto_region 1 with fail
  clear hW1 hK
  refine wp_region_held_drew (S := fun w' => Mod (fun _ => False) W1 w') (by kernel_rfl) ((Mod.refl _ W1).drew) (fun hS => ?_)
  refine takeD (i := 0) rfl (by kernel_rfl) (by kernel_rfl) (by kernel_rfl) (fun _ _ _ h => h) hS (Or.inl ⟨by rfl, fun w hSw => by go_simp; rfl⟩) ?_
  simp only [Act.put, List.setIfInBounds_toArray, List.set_cons_zero, List.set_cons_succ]
  refine takeD (i := 1) rfl (by kernel_rfl) (by kernel_rfl) (by kernel_rfl) (fun _ _ _ h => h) hS (Or.inl ⟨by rfl, fun w hSw => by go_simp; rfl⟩) ?_
  simp only [Act.put, List.setIfInBounds_toArray, List.set_cons_zero, List.set_cons_succ]
  refine takeD (i := 2) rfl (by kernel_rfl) (by kernel_rfl) (by kernel_rfl) (fun _ _ _ h => h) hS (Or.inl ⟨by rfl, fun w hSw => by go_simp; rfl⟩) ?_
  simp only [Act.put, List.setIfInBounds_toArray, List.set_cons_zero, List.set_cons_succ]
  refine takeD (i := 3) (v := (.map (some M))) rfl (by kernel_rfl) (by kernel_rfl) (by kernel_rfl) (fun _ _ _ h => h) hS (Or.inl ⟨by rfl, fun w hSw => by have c := cell_of (i := 0) (hSw.old (HH.out.2.2.1.old HH.out.1.hs id) id) rfl; go_simp⟩) ?_
  simp only [Act.put, List.setIfInBounds_toArray, List.set_cons_zero, List.set_cons_succ]
  refine takeD (i := 4) rfl (by kernel_rfl) (by kernel_rfl) (by kernel_rfl) (fun _ _ _ h => h) hS (yieldsIf_load_mid (by rfl) 27 (.tmp 3) rfl K 0 rfl ([.string t0, .string t1, .string t2]) _ (fun w hSw => row_range (hSw.old HH.out.2.2.2.2.1 id)) Tryd.underlying27 rfl infoTup0) ?_
  simp only [Act.put, List.setIfInBounds_toArray, List.set_cons_zero, List.set_cons_succ]
  refine takeD (i := 5) (v := v) rfl (by kernel_rfl) (by kernel_rfl) (by kernel_rfl) (fun _ _ _ h => h) hS (Or.inl ⟨by rfl, fun w hSw => by have c := HH.out.2.1 w (HH.out.2.2.2.2.2.2.mod hSw id (fun _ _ _ _ h => h)); go_simp⟩) ?_
  simp only [Act.put, List.setIfInBounds_toArray, List.set_cons_zero, List.set_cons_succ]
  refine takeD (i := 6) rfl (by kernel_rfl) (by kernel_rfl) (by kernel_rfl) (fun _ _ _ h => h) hS (Or.inl ⟨by rfl, fun w hSw => by go_simp; rfl⟩) ?_
  simp only [Act.put, List.setIfInBounds_toArray, List.set_cons_zero, List.set_cons_succ]
  refine wpAnyH_done (by kernel_rfl) ?_ _
  rcases HC.out with ⟨rfl, rfl⟩ | ⟨g, cap, rfl, rfl⟩ | ⟨g, cap, n, P, x, rfl, rfl, hn, hnm, c0, c1, hg⟩
  · clear HC
    simp only [Exit.then]
    go_wp2
    go_ret
    exact ⟨rfl, HH.out.2.2.2.2.2.1 ▸ HH.out.2.2.2.1.drew⟩
  · clear HC
    simp only [Exit.then]
    go_wp2
    go_ret
    exact ⟨rfl, HH.out.2.2.2.2.2.1 ▸ HH.out.2.2.2.1.drew⟩
  · clear HC
    have hgl := HH.out.1.lt _ hg
    have c0' := (hS.cell (Nat.lt_of_lt_of_le hgl HH.out.2.2.1.size) id).trans ((HH.out.2.2.1.cell hgl id).trans c0)
    have c1' := (hS.cell (Nat.lt_of_lt_of_le hgl HH.out.2.2.1.size) id).trans ((HH.out.2.2.1.cell hgl id).trans c1)
    have hgl' := Nat.lt_of_lt_of_le (Nat.lt_of_lt_of_le hgl HH.out.2.2.1.size) hS.size
    have HG := Lib.hid (And.intro hn (And.intro hnm (And.intro c0 (And.intro c1 (And.intro hgl (And.intro c0' (And.intro c1' hgl')))))))
    clear hn hnm c0 c1 hg hgl c0' c1' hgl'
    simp only [Exit.then]
    have c1 := HG.out.2.2.2.2.2.2.1
    have hm := HG.out.2.1
    simp only [maxLen] at hm
    have hwn : wrap64 (n : Int) = n := by unfold wrap64; omega
    go_wp2
    go_ret
    refine ⟨?_, ?_⟩
    · rw [thereOf_snoc]; simp [BEq.beq]
    · rw [HH.out.2.2.2.2.2.1]
      exact HH.out.2.2.2.1.drew
set_option maxRecDepth 100000 in
set_option maxHeartbeats 1600000 in
theorem readable_any (h : StMem w s O U M MO MU F lm lo lu wm) (rev : Int) : Calls Tryd.prog 21 #[.pointer (some ⟨s, 0, none⟩), .int .i64 rev] w fun e w' => e = .returned (.int .i64 (readA wm rev)) ∧ w' = w := by
  have c := cell_of (i := 3) h.hs rfl
  unfold readA
  go_enter Tryd.func21, Tryd.ntmps21
  go_wp2
  all_goals go_ret
  all_goals exact ⟨rfl, rfl⟩
set_option maxRecDepth 100000 in
set_option maxHeartbeats 1600000 in
theorem spanHas_any (w : World) (x : Span) (rev : Int) : Calls Tryd.prog 33 #[.agg (spanC x).toArray, .int .i64 rev] w fun e w' => e = .returned (.bool (hasS rev x)) ∧ Below w.heap.size w w' := by
  obtain ⟨a, b⟩ := x
  unfold spanC hasS
  go_enter Tryd.func33, Tryd.ntmps33
  go_wp2
  all_goals go_ret
  all_goals refine ⟨?_, (Below.refl _ w).alloc (Nat.le_refl _) _⟩
  all_goals congr 1
  all_goals (try simp [*])
  all_goals (try omega)
end
end Go.Proofs.YtojjnfhgldjgbaaDoor.Store
