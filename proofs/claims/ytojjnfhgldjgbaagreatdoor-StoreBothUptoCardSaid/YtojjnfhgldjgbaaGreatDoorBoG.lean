/- StoreBoth, where what came in is of bulk at most 1048576: who has a relation, what a user has, and Has say the same: part 7 of 14: what it leans on. -/
import Derived.Shelf.Small.Bits
import Derived.Shelf.Small.Strs
import Derived.Shelf.Strings.Search1
import Derived.Shelf.Strings.Search2
import Derived.Shelf.Sort.Plain
import Derived.Shelf.Slices.In.SortNone
import Derived.Shelf.Strings.SlTrimAscii
import Derived.Shelf.SlSortCmp.NoneTotal
import Derived.Ground.SlsfProg
import Derived.Shelf.SlGeneric
import Derived.Test.YtojjnfhgldjgbaaGreatDoorProg
import Derived.Test.YtojjnfhgldjgbaaGreatDoorBoA
import Derived.Test.YtojjnfhgldjgbaaGreatDoorBoB
import Derived.Test.YtojjnfhgldjgbaaGreatDoorBoC
import Derived.Test.YtojjnfhgldjgbaaGreatDoorBoD
import Derived.Test.YtojjnfhgldjgbaaGreatDoorBoE
import Derived.Test.YtojjnfhgldjgbaaGreatDoorBoF
section
set_option linter.unusedVariables false
set_option linter.unusedSimpArgs false
namespace Go.Proofs.YtojjnfhgldjgbaaGreatDoor.Store
open Go.RowKit Go.Por Go.Sort Go.Proofs.YtojjnfhgldjgbaaGreatDoor.Watch
theorem lastOf_snoc (P : List Span) (x : Span) : lastOf (P ++ [x]) = max x.1 x.2 := by unfold lastOf; rw [List.getLast?_concat]
theorem thereOf_snoc (P : List Span) (x : Span) : thereOf (P ++ [x]) = decide (x.2 = 0) := by unfold thereOf; rw [List.getLast?_concat]
section
variable {w : World} {s O U M MO MU : Nat} {F : Nat → Prop} {lm : List (Tup × (Value × List Span))} {lo : List (PairT × (Value × List Tup))} {lu : List (ByteArray × (Value × List Tup))} {wm : Int}
/-- A tuple's spans: none, or a last one. -/
theorem spans_last (h : StMem w s O U M MO MU F lm lo lu wm) (t : Tup) : (slv lm t = .slice none 0 0 ∧ aget (smc lm) t = []) ∨ (∃ g cap, slv lm t = .slice (some ⟨g, 0, none⟩) 0 cap ∧ aget (smc lm) t = []) ∨ ∃ g cap n P x, slv lm t = .slice (some ⟨g, 0, none⟩) (n + 1) cap ∧ aget (smc lm) t = P ++ [x] ∧ P.length = n ∧ n + 1 ≤ maxLen ∧ w.cell? ⟨g, n * 2 + 0, none⟩ = some (.int .i64 x.1) ∧ w.cell? ⟨g, n * 2 + 1, none⟩ = some (.int .i64 x.2) ∧ F g := by
  have h1 := (h.m.at t).1
  rcases h1.form with ⟨h2, h3⟩ | ⟨g, cap, h2, h5, h6⟩
  · exact .inl ⟨h2, h3⟩
  · rcases List.eq_nil_or_concat (aget (smc lm) t) with h4 | ⟨P, x, h4⟩
    · rw [h4] at h2
      exact .inr (.inl ⟨g, cap, h2, h4⟩)
    · rw [List.concat_eq_append] at h4
      rw [h2, h4] at h1
      rw [h4, List.length_append, List.length_singleton] at h2 h5
      have hx : (P ++ [x])[P.length]? = some x := by simp
      exact .inr (.inr ⟨g, cap, P.length, P, x, h2, h4, rfl, by omega, h1.cell spanC_len hx (j := 0) (by omega) rfl, h1.cell spanC_len hx (j := 1) (by omega) rfl, (h.m.at t).2.1 g (by rw [h2]; rfl)⟩)
set_option maxRecDepth 100000 in
set_option maxHeartbeats 1600000 in
theorem last_any (h : StMem w s O U M MO MU F lm lo lu wm) (t : Tup) : Calls Tryz.prog 87 #[.pointer (some ⟨s, 0, none⟩), .agg (tupC t).toArray] w fun e w' => e = .returned (.int .i64 (lastOf (aget (smc lm) t))) ∧ Below w.heap.size w w' := by
  obtain ⟨t0, t1, t2⟩ := t
  obtain ⟨K, hK⟩ : ∃ K, w.heap.size = K := ⟨_, rfl⟩
  obtain ⟨v, hv⟩ : ∃ v, slv lm (t0, t1, t2) = v := ⟨_, rfl⟩
  obtain ⟨L, hL⟩ : ∃ L, aget (smc lm) (t0, t1, t2) = L := ⟨_, rfl⟩
  obtain ⟨W1, hW1⟩ : ∃ W1, w.alloc (.cells #[.string t0, .string t1, .string t2] 41) = W1 := ⟨_, rfl⟩
  have m1 : Mod (fun _ => False) w W1 := by rw [← hW1]; exact (Mod.refl _ w).alloc _
  have hb1 : Below K w W1 := by rw [← hW1, ← hK]; exact (Below.refl _ w).alloc (Nat.le_refl _) _
  have hT1 : W1.heap[K]? = some (.cells #[.string t0, .string t1, .string t2] 41 (0, 0)) := by rw [← hW1, ← hK]; exact block_new w _
  have hcl := spans_last h (t0, t1, t2)
  have hlook : ∀ W : World, SlMap W M encT spanC 2 119 F lm → (Instr.lookup 104 (.map (some M)) (.agg #[.string t0, .string t1, .string t2]) false).run Tryz.prog W = .ok v W := fun W hW => by
    rw [← hv]
    exact hW.look keyTup Tryz.underlying104 (zeroSpans W) (t0, t1, t2)
  rw [hv, hL] at hcl
  rw [hL]
  have HH := Lib.hid (And.intro h (And.intro hlook (And.intro m1 (And.intro hb1 (And.intro hT1 (And.intro hK (h.m.mod m1 id (fun _ _ _ _ h => h))))))))
  have HC := Lib.hid hcl
  clear h hlook m1 hb1 hT1 hv hL hcl
  unfold tupC
  go_enter Tryz.func87, Tryz.ntmps87
  go_upto_region 1 with fail
  clear hW1 hK
  refine wp_region_held_drew (S := fun w' => Mod (fun _ => False) W1 w') (by kernel_rfl) ((Mod.refl _ W1).drew) (fun hS => ?_)
  refine takeD (i := 0) rfl (by kernel_rfl) (by kernel_rfl) (by kernel_rfl) (fun _ _ _ h => h) hS (Or.inl ⟨by rfl, fun w hSw => by go_simp; rfl⟩) ?_
  simp only [Act.put, List.setIfInBounds_toArray, List.set_cons_zero, List.set_cons_succ]
  refine takeD (i := 1) rfl (by kernel_rfl) (by kernel_rfl) (by kernel_rfl) (fun _ _ _ h => h) hS (Or.inl ⟨by rfl, fun w hSw => by go_simp; rfl⟩) ?_
  simp only [Act.put, List.setIfInBounds_toArray, List.set_cons_zero, List.set_cons_succ]
  refine takeD (i := 2) rfl (by kernel_rfl) (by kernel_rfl) (by kernel_rfl) (fun _ _ _ h => h) hS (Or.inl ⟨by rfl, fun w hSw => by go_simp; rfl⟩) ?_
  simp only [Act.put, List.setIfInBounds_toArray, List.set_cons_zero, List.set_cons_succ]
  refine takeD (i := 3) (v := (.map (some M))) rfl (by kernel_rfl) (by kernel_rfl) (by kernel_rfl) (fun _ _ _ h => h) hS (Or.inl ⟨by rfl, fun w hSw => by have c := cell_of (i := 0) (hSw.old (HH.out.2.2.1.old HH.out.1.hs id) id) rfl; go_simp⟩) ?_
  simp only [Act.put, List.setIfInBounds_toArray, List.set_cons_zero, List.set_cons_succ]
  refine takeD (i := 4) rfl (by kernel_rfl) (by kernel_rfl) (by kernel_rfl) (fun _ _ _ h => h) hS (yieldsIf_load_mid (by rfl) 41 (.tmp 3) rfl K 0 rfl ([.string t0, .string t1, .string t2]) _ (fun w hSw => row_range (hSw.old HH.out.2.2.2.2.1 id)) Tryz.underlying41 rfl infoTup0) ?_
  simp only [Act.put, List.setIfInBounds_toArray, List.set_cons_zero, List.set_cons_succ]
  refine takeD (i := 5) (v := v) rfl (by kernel_rfl) (by kernel_rfl) (by kernel_rfl) (fun _ _ _ h => h) hS (Or.inl ⟨by rfl, fun w hSw => by have c := HH.out.2.1 w (HH.out.2.2.2.2.2.2.mod hSw id (fun _ _ _ _ h => h)); go_simp⟩) ?_
  simp only [Act.put, List.setIfInBounds_toArray, List.set_cons_zero, List.set_cons_succ]
  refine takeD (i := 6) rfl (by kernel_rfl) (by kernel_rfl) (by kernel_rfl) (fun _ _ _ h => h) hS (Or.inl ⟨by rfl, fun w hSw => by go_simp; rfl⟩) ?_
  simp only [Act.put, List.setIfInBounds_toArray, List.set_cons_zero, List.set_cons_succ]
  refine wpAnyH_done (by kernel_rfl) ?_ _
  rcases HC.out with ⟨rfl, rfl⟩ | ⟨g, cap, rfl, rfl⟩ | ⟨g, cap, n, P, x, rfl, rfl, hn, hnm, c0, c1, hg⟩
  · clear HC
    simp only [Exit.then]
    go_wp2
    go_ret
    exact ⟨rfl, HH.out.2.2.2.2.2.1 ▸ HH.out.2.2.2.1.drew⟩
  · clear HC
    simp only [Exit.then]
    go_wp2
    go_ret
    exact ⟨rfl, HH.out.2.2.2.2.2.1 ▸ HH.out.2.2.2.1.drew⟩
  · clear HC
    have hgl := HH.out.1.lt _ hg
    have c0' := (hS.cell (Nat.lt_of_lt_of_le hgl HH.out.2.2.1.size) id).trans ((HH.out.2.2.1.cell hgl id).trans c0)
    have c1' := (hS.cell (Nat.lt_of_lt_of_le hgl HH.out.2.2.1.size) id).trans ((HH.out.2.2.1.cell hgl id).trans c1)
    have hgl' := Nat.lt_of_lt_of_le (Nat.lt_of_lt_of_le hgl HH.out.2.2.1.size) hS.size
    have HG := Lib.hid (And.intro hn (And.intro hnm (And.intro c0 (And.intro c1 (And.intro hgl (And.intro c0' (And.intro c1' hgl')))))))
    clear hn hnm c0 c1 hg hgl c0' c1' hgl'
    simp only [Exit.then]
    go_upto_region 4 with fail
    generalize hW2 : W1.drew = W2 at *
    refine wp_region_held_drew (S := fun w' => Mod (fun _ => False) W2 w') (by kernel_rfl) ((Mod.refl _ W2).drew) (fun hS => ?_)
    refine takeD (i := 0) rfl (by kernel_rfl) (by kernel_rfl) (by kernel_rfl) (fun _ _ _ h => h) hS (Or.inl ⟨by rfl, fun w hSw => by go_simp; rfl⟩) ?_
    simp only [Act.put, List.setIfInBounds_toArray, List.set_cons_zero, List.set_cons_succ]
    refine takeD (i := 1) rfl (by kernel_rfl) (by kernel_rfl) (by kernel_rfl) (fun _ _ _ h => h) hS (Or.inl ⟨by rfl, fun w hSw => by go_simp; rfl⟩) ?_
    simp only [Act.put, List.setIfInBounds_toArray, List.set_cons_zero, List.set_cons_succ]
    refine takeD (i := 2) (v := (.int .i64 ((n : Int) + 1))) rfl (by kernel_rfl) (by kernel_rfl) (by kernel_rfl) (fun _ _ _ h => h) hS (Or.inl ⟨by rfl, fun w hSw => by go_simp⟩) ?_
    simp only [Act.put, List.setIfInBounds_toArray, List.set_cons_zero, List.set_cons_succ]
    refine takeD (i := 3) (v := (.int .i64 (n : Int))) rfl (by kernel_rfl) (by kernel_rfl) (by kernel_rfl) (fun _ _ _ h => h) hS (Or.inl ⟨by rfl, fun w hSw => by have e1 : (n : Int) + 1 - 1 = (n : Int) := (by omega); have e2 := HG.out.2.1; simp only [maxLen] at e2; go_simp; rw [IntKind.wrap_i64]; omega⟩) ?_
    simp only [Act.put, List.setIfInBounds_toArray, List.set_cons_zero, List.set_cons_succ]
    refine takeD (i := 4) (v := (.pointer (some ⟨g, n * 2, none⟩))) rfl (by kernel_rfl) (by kernel_rfl) (by kernel_rfl) (fun _ _ _ h => h) hS (Or.inl ⟨by rfl, fun w hSw => by have e1 : (n : Int) + 1 - 1 = (n : Int) := (by omega); have e2 := HG.out.2.1; simp only [maxLen] at e2; go_simp; exact fun h => absurd h (by omega)⟩) ?_
    simp only [Act.put, List.setIfInBounds_toArray, List.set_cons_zero, List.set_cons_succ]
    refine takeD (i := 5) (v := (.pointer (some ⟨g, n * 2 + 0, none⟩))) rfl (by kernel_rfl) (by kernel_rfl) (by kernel_rfl) (fun _ _ _ h => h) hS (Or.inl ⟨by rfl, fun w hSw => by go_simp⟩) ?_
    simp only [Act.put, List.setIfInBounds_toArray, List.set_cons_zero, List.set_cons_succ]
    refine takeD (i := 6) (v := (.int .i64 x.1)) rfl (by kernel_rfl) (by kernel_rfl) (by kernel_rfl) (fun _ _ _ h => h) hS (Or.inl ⟨by rfl, fun w hSw => by have c : w.cell? ⟨g, n * 2, none⟩ = _ := (hSw.cell HG.out.2.2.2.2.2.2.2 id).trans HG.out.2.2.2.2.2.1; go_simp⟩) ?_
    simp only [Act.put, List.setIfInBounds_toArray, List.set_cons_zero, List.set_cons_succ]
    refine takeD (i := 7) rfl (by kernel_rfl) (by kernel_rfl) (by kernel_rfl) (fun _ _ _ h => h) hS (Or.inl ⟨by rfl, fun w hSw => by go_simp; rfl⟩) ?_
    simp only [Act.put, List.setIfInBounds_toArray, List.set_cons_zero, List.set_cons_succ]
    refine takeD (i := 8) rfl (by kernel_rfl) (by kernel_rfl) (by kernel_rfl) (fun _ _ _ h => h) hS (Or.inl ⟨by rfl, fun w hSw => by go_simp; rfl⟩) ?_
    simp only [Act.put, List.setIfInBounds_toArray, List.set_cons_zero, List.set_cons_succ]
    refine takeD (i := 9) (v := (.int .i64 ((n : Int) + 1))) rfl (by kernel_rfl) (by kernel_rfl) (by kernel_rfl) (fun _ _ _ h => h) hS (Or.inl ⟨by rfl, fun w hSw => by go_simp⟩) ?_
    simp only [Act.put, List.setIfInBounds_toArray, List.set_cons_zero, List.set_cons_succ]
    refine takeD (i := 10) (v := (.int .i64 (n : Int))) rfl (by kernel_rfl) (by kernel_rfl) (by kernel_rfl) (fun _ _ _ h => h) hS (Or.inl ⟨by rfl, fun w hSw => by have e1 : (n : Int) + 1 - 1 = (n : Int) := (by omega); have e2 := HG.out.2.1; simp only [maxLen] at e2; go_simp; rw [IntKind.wrap_i64]; omega⟩) ?_
    simp only [Act.put, List.setIfInBounds_toArray, List.set_cons_zero, List.set_cons_succ]
    refine takeD (i := 11) (v := (.pointer (some ⟨g, n * 2, none⟩))) rfl (by kernel_rfl) (by kernel_rfl) (by kernel_rfl) (fun _ _ _ h => h) hS (Or.inl ⟨by rfl, fun w hSw => by have e1 : (n : Int) + 1 - 1 = (n : Int) := (by omega); have e2 := HG.out.2.1; simp only [maxLen] at e2; go_simp; exact fun h => absurd h (by omega)⟩) ?_
    simp only [Act.put, List.setIfInBounds_toArray, List.set_cons_zero, List.set_cons_succ]
    refine takeD (i := 12) (v := (.pointer (some ⟨g, n * 2 + 1, none⟩))) rfl (by kernel_rfl) (by kernel_rfl) (by kernel_rfl) (fun _ _ _ h => h) hS (Or.inl ⟨by rfl, fun w hSw => by go_simp⟩) ?_
    simp only [Act.put, List.setIfInBounds_toArray, List.set_cons_zero, List.set_cons_succ]
    refine takeD (i := 13) (v := (.int .i64 x.2)) rfl (by kernel_rfl) (by kernel_rfl) (by kernel_rfl) (fun _ _ _ h => h) hS (Or.inl ⟨by rfl, fun w hSw => by have c := (hSw.cell HG.out.2.2.2.2.2.2.2 id).trans HG.out.2.2.2.2.2.2.1; go_simp⟩) ?_
    simp only [Act.put, List.setIfInBounds_toArray, List.set_cons_zero, List.set_cons_succ]
    refine takeD (i := 14) (v := (.int .i64 (max x.1 x.2))) rfl (by kernel_rfl) (by kernel_rfl) (by kernel_rfl) (fun _ _ _ h => h) hS (Or.inl ⟨by rfl, fun w hSw => by go_simp⟩) ?_
    simp only [Act.put, List.setIfInBounds_toArray, List.set_cons_zero, List.set_cons_succ]
    refine takeD (i := 15) rfl (by kernel_rfl) (by kernel_rfl) (by kernel_rfl) (fun _ _ _ h => h) hS (Or.inl ⟨by rfl, fun w hSw => by go_simp; rfl⟩) ?_
    simp only [Act.put, List.setIfInBounds_toArray, List.set_cons_zero, List.set_cons_succ]
    refine wpAnyH_done (by kernel_rfl) ?_ _
    simp only [Exit.then]
    go_wp2
    go_ret
    refine ⟨?_, ?_⟩
    · rw [lastOf_snoc]; rfl
    · rw [HH.out.2.2.2.2.2.1]
      refine HH.out.2.2.2.1.trans (Below.trans (b := W2) ?_ ((Below.refl K W2).drew))
      rw [← hW2]
      exact (Below.refl K W1).drew
set_option maxRecDepth 100000 in
set_option maxHeartbeats 1600000 in
theorem there_any (h : StMem w s O U M MO MU F lm lo lu wm) (t : Tup) : Calls Tryz.prog 59 #[.pointer (some ⟨s, 0, none⟩), .agg (tupC t).toArray] w fun e w' => e = .returned (.bool (thereOf (aget (smc lm) t))) ∧ Below w.heap.size w w' := by
  obtain ⟨t0, t1, t2⟩ := t
  obtain ⟨K, hK⟩ : ∃ K, w.heap.size = K := ⟨_, rfl⟩
  obtain ⟨v, hv⟩ : ∃ v, slv lm (t0, t1, t2) = v := ⟨_, rfl⟩
  obtain ⟨L, hL⟩ : ∃ L, aget (smc lm) (t0, t1, t2) = L := ⟨_, rfl⟩
  obtain ⟨W1, hW1⟩ : ∃ W1, w.alloc (.cells #[.string t0, .string t1, .string t2] 41) = W1 := ⟨_, rfl⟩
  have m1 : Mod (fun _ => False) w W1 := by rw [← hW1]; exact (Mod.refl _ w).alloc _
  have hb1 : Below K w W1 := by rw [← hW1, ← hK]; exact (Below.refl _ w).alloc (Nat.le_refl _) _
  have hT1 : W1.heap[K]? = some (.cells #[.string t0, .string t1, .string t2] 41 (0, 0)) := by rw [← hW1, ← hK]; exact block_new w _
  have hcl := spans_last h (t0, t1, t2)
  have hlook : ∀ W : World, SlMap W M encT spanC 2 119 F lm → (Instr.lookup 104 (.map (some M)) (.agg #[.string t0, .string t1, .string t2]) false).run Tryz.prog W = .ok v W := fun W hW => by
    rw [← hv]
    exact hW.look keyTup Tryz.underlying104 (zeroSpans W) (t0, t1, t2)
  rw [hv, hL] at hcl
  rw [hL]
  have HH := Lib.hid (And.intro h (And.intro hlook (And.intro m1 (And.intro hb1 (And.intro hT1 (And.intro hK (h.m.mod m1 id (fun _ _ _ _ h => h))))))))
  have HC := Lib.hid hcl
  clear h hlook m1 hb1 hT1 hv hL hcl
  unfold tupC
  go_enter Tryz.func59, Tryz.ntmps59
  go_upto_region 1 with fail
  clear hW1 hK
  refine wp_region_held_drew (S := fun w' => Mod (fun _ => False) W1 w') (by kernel_rfl) ((Mod.refl _ W1).drew) (fun hS => ?_)
  refine takeD (i := 0) rfl (by kernel_rfl) (by kernel_rfl) (by kernel_rfl) (fun _ _ _ h => h) hS (Or.inl ⟨by rfl, fun w hSw => by go_simp; rfl⟩) ?_
  simp only [Act.put, List.setIfInBounds_toArray, List.set_cons_zero, List.set_cons_succ]
  refine takeD (i := 1) rfl (by kernel_rfl) (by kernel_rfl) (by kernel_rfl) (fun _ _ _ h => h) hS (Or.inl ⟨by rfl, fun w hSw => by go_simp; rfl⟩) ?_
  simp only [Act.put, List.setIfInBounds_toArray, List.set_cons_zero, List.set_cons_succ]
  refine takeD (i := 2) rfl (by kernel_rfl) (by kernel_rfl) (by kernel_rfl) (fun _ _ _ h => h) hS (Or.inl ⟨by rfl, fun w hSw => by go_simp; rfl⟩) ?_
  simp only [Act.put, List.setIfInBounds_toArray, List.set_cons_zero, List.set_cons_succ]
  refine takeD (i := 3) (v := (.map (some M))) rfl (by kernel_rfl) (by kernel_rfl) (by kernel_rfl) (fun _ _ _ h => h) hS (Or.inl ⟨by rfl, fun w hSw => by have c := cell_of (i := 0) (hSw.old (HH.out.2.2.1.old HH.out.1.hs id) id) rfl; go_simp⟩) ?_
  simp only [Act.put, List.setIfInBounds_toArray, List.set_cons_zero, List.set_cons_succ]
  refine takeD (i := 4) rfl (by kernel_rfl) (by kernel_rfl) (by kernel_rfl) (fun _ _ _ h => h) hS (yieldsIf_load_mid (by rfl) 41 (.tmp 3) rfl K 0 rfl ([.string t0, .string t1, .string t2]) _ (fun w hSw => row_range (hSw.old HH.out.2.2.2.2.1 id)) Tryz.underlying41 rfl infoTup0) ?_
  simp only [Act.put, List.setIfInBounds_toArray, List.set_cons_zero, List.set_cons_succ]
  refine takeD (i := 5) (v := v) rfl (by kernel_rfl) (by kernel_rfl) (by kernel_rfl) (fun _ _ _ h => h) hS (Or.inl ⟨by rfl, fun w hSw => by have c := HH.out.2.1 w (HH.out.2.2.2.2.2.2.mod hSw id (fun _ _ _ _ h => h)); go_simp⟩) ?_
  simp only [Act.put, List.setIfInBounds_toArray, List.set_cons_zero, List.set_cons_succ]
  refine takeD (i := 6) rfl (by kernel_rfl) (by kernel_rfl) (by kernel_rfl) (fun _ _ _ h => h) hS (Or.inl ⟨by rfl, fun w hSw => by go_simp; rfl⟩) ?_
  simp only [Act.put, List.setIfInBounds_toArray, List.set_cons_zero, List.set_cons_succ]
  refine wpAnyH_done (by kernel_rfl) ?_ _
  rcases HC.out with ⟨rfl, rfl⟩ | ⟨g, cap, rfl, rfl⟩ | ⟨g, cap, n, P, x, rfl, rfl, hn, hnm, c0, c1, hg⟩
  · clear HC
    simp only [Exit.then]
    go_wp2
    go_ret
    exact ⟨rfl, HH.out.2.2.2.2.2.1 ▸ HH.out.2.2.2.1.drew⟩
  · clear HC
    simp only [Exit.then]
    go_wp2
    go_ret
    exact ⟨rfl, HH.out.2.2.2.2.2.1 ▸ HH.out.2.2.2.1.drew⟩
  · clear HC
    have hgl := HH.out.1.lt _ hg
    have c0' := (hS.cell (Nat.lt_of_lt_of_le hgl HH.out.2.2.1.size) id).trans ((HH.out.2.2.1.cell hgl id).trans c0)
    have c1' := (hS.cell (Nat.lt_of_lt_of_le hgl HH.out.2.2.1.size) id).trans ((HH.out.2.2.1.cell hgl id).trans c1)
    have hgl' := Nat.lt_of_lt_of_le (Nat.lt_of_lt_of_le hgl HH.out.2.2.1.size) hS.size
    have HG := Lib.hid (And.intro hn (And.intro hnm (And.intro c0 (And.intro c1 (And.intro hgl (And.intro c0' (And.intro c1' hgl')))))))
    clear hn hnm c0 c1 hg hgl c0' c1' hgl'
    simp only [Exit.then]
    have c1 := HG.out.2.2.2.2.2.2.1
    have hm := HG.out.2.1
    simp only [maxLen] at hm
    have hwn : wrap64 (n : Int) = n := by unfold wrap64; omega
    go_wp2
    go_ret
    refine ⟨?_, ?_⟩
    · rw [thereOf_snoc]; simp [BEq.beq]
    · rw [HH.out.2.2.2.2.2.1]
      exact HH.out.2.2.2.1.drew
set_option maxRecDepth 100000 in
set_option maxHeartbeats 1600000 in
theorem readable_any (h : StMem w s O U M MO MU F lm lo lu wm) (rev : Int) : Calls Tryz.prog 61 #[.pointer (some ⟨s, 0, none⟩), .int .i64 rev] w fun e w' => e = .returned (.int .i64 (readA wm rev)) ∧ w' = w := by
  have c := cell_of (i := 3) h.hs rfl
  unfold readA
  go_enter Tryz.func61, Tryz.ntmps61
  go_wp2
  all_goals go_ret
  all_goals exact ⟨rfl, rfl⟩
set_option maxRecDepth 100000 in
set_option maxHeartbeats 1600000 in
theorem spanHas_any (w : World) (x : Span) (rev : Int) : Calls Tryz.prog 92 #[.agg (spanC x).toArray, .int .i64 rev] w fun e w' => e = .returned (.bool (hasS rev x)) ∧ Below w.heap.size w w' := by
  obtain ⟨a, b⟩ := x
  unfold spanC hasS
  go_enter Tryz.func92, Tryz.ntmps92
  go_wp2
  all_goals go_ret
  all_goals refine ⟨?_, (Below.refl _ w).alloc (Nat.le_refl _) _⟩
  all_goals congr 1
  all_goals (try simp [*])
  all_goals (try omega)
end
end Go.Proofs.YtojjnfhgldjgbaaGreatDoor.Store
end
section
namespace Go.Proofs
open Go.Shelf
def Tryz.lays219_ren : Go.Shelf.Ren := ⟨fun | 219 => 188 | 217 => 193 | 225 => 194 | 224 => 195 | 267 => 196 | 266 => 200 | 314 => 201 | n => n, fun | 9 => 9 | 3 => 3 | 4 => 4 | 5 => 5 | 46 => 150 | 146 => 239 | 51 => 181 | n => n, fun | 1 => 0 | n => n⟩
theorem Tryz.lays219 : Go.Proofs.Lays.n219 Tryz.prog Tryz.lays219_ren := {
  mixed := by kernel_rfl
  f217 := Tryz.func193.trans (congrArg some (by kernel_rfl))
  f219 := Tryz.func188.trans (congrArg some (by kernel_rfl))
  f224 := Tryz.func195.trans (congrArg some (by kernel_rfl))
  f225 := Tryz.func194.trans (congrArg some (by kernel_rfl))
  f266 := Tryz.func200.trans (congrArg some (by kernel_rfl))
  f267 := Tryz.func196.trans (congrArg some (by kernel_rfl))
  f314 := Tryz.func201.trans (congrArg some (by kernel_rfl))
  t3 := Tryz.underlying3
  a3 := Tryz.isAgg3
  z3 := Tryz.sizeOf3
  v3 := Tryz.zeroValue3
  t4 := Tryz.underlying4
  a4 := Tryz.isAgg4
  z4 := Tryz.sizeOf4
  v4 := Tryz.zeroValue4
  t5 := Tryz.underlying5
  a5 := Tryz.isAgg5
  z5 := Tryz.sizeOf5
  v5 := Tryz.zeroValue5
  t9 := Tryz.underlying9
  a9 := Tryz.isAgg9
  z9 := Tryz.sizeOf9
  v9 := Tryz.zeroValue9
  t46 := Tryz.underlying150
  a46 := Tryz.isAgg150
  z46 := Tryz.sizeOf150
  v46 := Tryz.zeroValue150
  t51 := Tryz.underlying181
  a51 := Tryz.isAgg181
  z51 := Tryz.sizeOf181
  v51 := Tryz.zeroValue181
  t146 := Tryz.underlying239
  a146 := Tryz.isAgg239
  z146 := Tryz.sizeOf239
  v146 := Tryz.zeroValue239
  g1 := by kernel_rfl }
open Go.RowKit Go.Lib in
/-- internal/stringslite.Index (what strings.Index calls) AT A substr OF ONE BYTE c: IT RETURNS 'Lib.indexByte s c'; the world is as it was. (LAID: no walk: one application.) -/
theorem Tryz.stringslite_Index_one (s : ByteArray) (c : UInt8) (w : World) :
    Calls Tryz.prog 188 #[.string s, .string ⟨#[c]⟩] w fun e w' => e = .returned (.int .i64 (Lib.indexByte s.data.toList c)) ∧ w' = w := Any.stringslite_Index_one Tryz.lays219 s c w
def Tryz.lays190_ren : Go.Shelf.Ren := ⟨fun | 190 => 66 | 125 => 82 | 258 => 94 | 128 => 120 | 129 => 121 | 302 => 137 | 303 => 138 | 304 => 139 | 305 => 140 | 306 => 141 | 307 => 142 | 308 => 143 | 309 => 144 | 310 => 145 | 333 => 168 | 329 => 158 | 330 => 159 | 334 => 169 | 335 => 170 | 336 => 171 | 344 => 187 | n => n, fun | 31 => 57 | 9 => 9 | 3 => 3 | 46 => 150 | 0 => 0 | 51 => 181 | 53 => 183 | 4 => 4 | 183 => 175 | 182 => 174 | 131 => 90 | 5 => 5 | 218 => 206 | 222 => 210 | 228 => 227 | 229 => 228 | n => n, fun | n => n⟩
theorem Tryz.lays190 : Go.Proofs.Lays.n190 Tryz.prog Tryz.lays190_ren := {
  mixed := by kernel_rfl
  f125 := Tryz.func82.trans (congrArg some (by kernel_rfl))
  f128 := Tryz.func120.trans (congrArg some (by kernel_rfl))
  f129 := Tryz.func121.trans (congrArg some (by kernel_rfl))
  f190 := Tryz.func66.trans (congrArg some (by kernel_rfl))
  f258 := Tryz.func94.trans (congrArg some (by kernel_rfl))
  f302 := Tryz.func137.trans (congrArg some (by kernel_rfl))
  f303 := Tryz.func138.trans (congrArg some (by kernel_rfl))
  f304 := Tryz.func139.trans (congrArg some (by kernel_rfl))
  f305 := Tryz.func140.trans (congrArg some (by kernel_rfl))
  f306 := Tryz.func141.trans (congrArg some (by kernel_rfl))
  f307 := Tryz.func142.trans (congrArg some (by kernel_rfl))
  f308 := Tryz.func143.trans (congrArg some (by kernel_rfl))
  f309 := Tryz.func144.trans (congrArg some (by kernel_rfl))
  f310 := Tryz.func145.trans (congrArg some (by kernel_rfl))
  f329 := Tryz.func158.trans (congrArg some (by kernel_rfl))
  f330 := Tryz.func159.trans (congrArg some (by kernel_rfl))
  f333 := Tryz.func168.trans (congrArg some (by kernel_rfl))
  f334 := Tryz.func169.trans (congrArg some (by kernel_rfl))
  f335 := Tryz.func170.trans (congrArg some (by kernel_rfl))
  f336 := Tryz.func171.trans (congrArg some (by kernel_rfl))
  f344 := Tryz.func187.trans (congrArg some (by kernel_rfl))
  t0 := Tryz.underlying0
  a0 := Tryz.isAgg0
  z0 := Tryz.sizeOf0
  v0 := Tryz.zeroValue0
  t3 := Tryz.underlying3
  a3 := Tryz.isAgg3
  z3 := Tryz.sizeOf3
  v3 := Tryz.zeroValue3
  t4 := Tryz.underlying4
  a4 := Tryz.isAgg4
  z4 := Tryz.sizeOf4
  v4 := Tryz.zeroValue4
  t5 := Tryz.underlying5
  a5 := Tryz.isAgg5
  z5 := Tryz.sizeOf5
  v5 := Tryz.zeroValue5
  t9 := Tryz.underlying9
  a9 := Tryz.isAgg9
  z9 := Tryz.sizeOf9
  v9 := Tryz.zeroValue9
  t31 := Tryz.underlying57
  a31 := Tryz.isAgg57
  z31 := Tryz.sizeOf57
  v31 := Tryz.zeroValue57
  t46 := Tryz.underlying150
  a46 := Tryz.isAgg150
  z46 := Tryz.sizeOf150
  v46 := Tryz.zeroValue150
  t51 := Tryz.underlying181
  a51 := Tryz.isAgg181
  z51 := Tryz.sizeOf181
  v51 := Tryz.zeroValue181
  t53 := Tryz.underlying183
  a53 := Tryz.isAgg183
  z53 := Tryz.sizeOf183
  v53 := Tryz.zeroValue183
  t131 := Tryz.underlying90
  a131 := Tryz.isAgg90
  z131 := Tryz.sizeOf90
  v131 := Tryz.zeroValue90
  t182 := Tryz.underlying174
  a182 := Tryz.isAgg174
  z182 := Tryz.sizeOf174
  v182 := Tryz.zeroValue174
  t183 := Tryz.underlying175
  a183 := Tryz.isAgg175
  z183 := Tryz.sizeOf175
  v183 := Tryz.zeroValue175
  t218 := Tryz.underlying206
  a218 := Tryz.isAgg206
  z218 := Tryz.sizeOf206
  v218 := Tryz.zeroValue206
  t222 := Tryz.underlying210
  a222 := Tryz.isAgg210
  z222 := Tryz.sizeOf210
  v222 := Tryz.zeroValue210
  t228 := Tryz.underlying227
  a228 := Tryz.isAgg227
  z228 := Tryz.sizeOf227
  v228 := Tryz.zeroValue227
  t229 := Tryz.underlying228
  a229 := Tryz.isAgg228
  z229 := Tryz.sizeOf228
  v229 := Tryz.zeroValue228 }
open Go.Sort Go.RowKit in
theorem Tryz.slices_Sort_string (blk off cap : Nat) (ss : List (List UInt8)) (w : World) (hH : Holds encStr w blk off ss.toArray) (hblk : blk < w.heap.size) (hsz : ss.length < 4611686018427387904) :
    Calls Tryz.prog 66 #[.slice (some ⟨blk, off, none⟩) ss.length cap] w fun e w' =>
      e = .returned (.tuple #[]) ∧ ∃ n os, w' = grow (putRow encStr (Sort.ahead w n) blk off (ss.mergeSort fun x y => decide (x ≤ y)).toArray) os := Any.slices_Sort_string Tryz.lays190 blk off cap ss w hH hblk hsz
open Go.RowKit Go.Sort in
/-- .. and plain. (LAID: no walk: one application.) -/
theorem Tryz.slices_Sort_string_none (p : Option Addr) (cap : Nat) (w : World) :
    Calls Tryz.prog 66 #[.slice p 0 cap] w fun e w' => e = .returned (.tuple #[]) ∧ w' = w := Any.slices_Sort_string_none Tryz.lays190 p cap w
def Tryz.lays160_ren : Go.Shelf.Ren := ⟨fun | 160 => 150 | 232 => 175 | 231 => 174 | 227 => 176 | 234 => 178 | 233 => 177 | 236 => 180 | 235 => 179 | 228 => 189 | 271 => 192 | 151 => 191 | 197 => 190 | 120 => 199 | 152 => 198 | 260 => 197 | 137 => 202 | 119 => 203 | 224 => 195 | 225 => 194 | 217 => 193 | 266 => 200 | n => n, fun | 9 => 9 | 4 => 4 | 3 => 3 | 5 => 5 | 117 => 222 | 116 => 221 | 0 => 0 | 124 => 225 | 21 => 21 | 105 => 234 | 46 => 150 | 119 => 241 | 139 => 244 | 138 => 243 | n => n, fun | 3 => 1 | 4 => 2 | n => n⟩
theorem Tryz.lays160 : Go.Proofs.Lays.n160 Tryz.prog Tryz.lays160_ren := {
  mixed := by kernel_rfl
  f119 := Tryz.func203.trans (congrArg some (by kernel_rfl))
  f120 := Tryz.func199.trans (congrArg some (by kernel_rfl))
  f137 := Tryz.func202.trans (congrArg some (by kernel_rfl))
  f151 := Tryz.func191.trans (congrArg some (by kernel_rfl))
  f152 := Tryz.func198.trans (congrArg some (by kernel_rfl))
  f160 := Tryz.func150.trans (congrArg some (by kernel_rfl))
  f197 := Tryz.func190.trans (congrArg some (by kernel_rfl))
  f217 := Tryz.func193.trans (congrArg some (by kernel_rfl))
  f224 := Tryz.func195.trans (congrArg some (by kernel_rfl))
  f225 := Tryz.func194.trans (congrArg some (by kernel_rfl))
  f227 := Tryz.func176.trans (congrArg some (by kernel_rfl))
  f228 := Tryz.func189.trans (congrArg some (by kernel_rfl))
  f231 := Tryz.func174.trans (congrArg some (by kernel_rfl))
  f232 := Tryz.func175.trans (congrArg some (by kernel_rfl))
  f233 := Tryz.func177.trans (congrArg some (by kernel_rfl))
  f234 := Tryz.func178.trans (congrArg some (by kernel_rfl))
  f235 := Tryz.func179.trans (congrArg some (by kernel_rfl))
  f236 := Tryz.func180.trans (congrArg some (by kernel_rfl))
  f260 := Tryz.func197.trans (congrArg some (by kernel_rfl))
  f266 := Tryz.func200.trans (congrArg some (by kernel_rfl))
  f271 := Tryz.func192.trans (congrArg some (by kernel_rfl))
  t0 := Tryz.underlying0
  a0 := Tryz.isAgg0
  z0 := Tryz.sizeOf0
  v0 := Tryz.zeroValue0
  t3 := Tryz.underlying3
  a3 := Tryz.isAgg3
  z3 := Tryz.sizeOf3
  v3 := Tryz.zeroValue3
  t4 := Tryz.underlying4
  a4 := Tryz.isAgg4
  z4 := Tryz.sizeOf4
  v4 := Tryz.zeroValue4
  t5 := Tryz.underlying5
  a5 := Tryz.isAgg5
  z5 := Tryz.sizeOf5
  v5 := Tryz.zeroValue5
  t9 := Tryz.underlying9
  a9 := Tryz.isAgg9
  z9 := Tryz.sizeOf9
  v9 := Tryz.zeroValue9
  t21 := Tryz.underlying21
  a21 := Tryz.isAgg21
  z21 := Tryz.sizeOf21
  v21 := Tryz.zeroValue21
  t46 := Tryz.underlying150
  a46 := Tryz.isAgg150
  z46 := Tryz.sizeOf150
  v46 := Tryz.zeroValue150
  t105 := Tryz.underlying234
  a105 := Tryz.isAgg234
  z105 := Tryz.sizeOf234
  v105 := Tryz.zeroValue234
  t116 := Tryz.underlying221
  a116 := Tryz.isAgg221
  z116 := Tryz.sizeOf221
  t117 := Tryz.underlying222
  a117 := Tryz.isAgg222
  z117 := Tryz.sizeOf222
  v117 := Tryz.zeroValue222
  t119 := Tryz.underlying241
  a119 := Tryz.isAgg241
  z119 := Tryz.sizeOf241
  t124 := Tryz.underlying225
  a124 := Tryz.isAgg225
  z124 := Tryz.sizeOf225
  v124 := Tryz.zeroValue225
  t138 := Tryz.underlying243
  a138 := Tryz.isAgg243
  z138 := Tryz.sizeOf243
  v138 := Tryz.zeroValue243
  t139 := Tryz.underlying244
  a139 := Tryz.isAgg244
  z139 := Tryz.sizeOf244
  v139 := Tryz.zeroValue244
  g3 := by kernel_rfl
  g4 := by kernel_rfl }
open Go.RowKit Go.Lib in
theorem Tryz.strings_Trim (s cutset : ByteArray) (w : World) (hs : s.size ≤ 9223372036854775807) (hcs : cutset.size < 4294967281) (hascii : ∀ (j : Nat) b, cutset.data.toList[j]? = some b → b.toNat < 128) :
    Calls Tryz.prog 150 #[.string s, .string cutset] w fun e w' => e = .returned (.string ⟨(Lib.trimS s.data.toList cutset.data.toList).toArray⟩) ∧ Below w.heap.size w w' := Any.strings_Trim_laid Tryz.lays160 (by kernel_rfl) s cutset w hs hcs hascii
def Tryz.laysSortRow_ren : Go.Shelf.Ren := ⟨fun | 6 => 63 | 15 => 82 | 14 => 93 | 28 => 120 | 29 => 121 | 20 => 109 | 21 => 130 | 22 => 131 | 23 => 132 | 24 => 133 | 25 => 134 | 26 => 135 | 27 => 136 | 46 => 165 | 47 => 158 | 48 => 159 | 49 => 166 | 50 => 167 | 57 => 186 | n => n, fun | 22 => 24 | 24 => 63 | 25 => 95 | 3 => 3 | 39 => 150 | 0 => 0 | 53 => 181 | 55 => 183 | 4 => 4 | 46 => 175 | 45 => 174 | 50 => 90 | 5 => 5 | 9 => 9 | 66 => 206 | 70 => 210 | 76 => 227 | 77 => 228 | n => n, fun | n => n⟩
theorem Tryz.laysSortRow : Go.Proofs.SlLaysF0.n6 Tryz.prog Tryz.laysSortRow_ren := {
  mixed := by kernel_rfl
  f6 := ⟨Tryz.f63.name, by decide, Tryz.func63.trans (congrArg some (by kernel_rfl))⟩
  f14 := ⟨Tryz.f93.name, by decide, Tryz.func93.trans (congrArg some (by kernel_rfl))⟩
  f15 := Tryz.func82.trans (congrArg some (by kernel_rfl))
  f20 := ⟨Tryz.f109.name, by decide, Tryz.func109.trans (congrArg some (by kernel_rfl))⟩
  f21 := ⟨Tryz.f130.name, by decide, Tryz.func130.trans (congrArg some (by kernel_rfl))⟩
  f22 := ⟨Tryz.f131.name, by decide, Tryz.func131.trans (congrArg some (by kernel_rfl))⟩
  f23 := ⟨Tryz.f132.name, by decide, Tryz.func132.trans (congrArg some (by kernel_rfl))⟩
  f24 := ⟨Tryz.f133.name, by decide, Tryz.func133.trans (congrArg some (by kernel_rfl))⟩
  f25 := ⟨Tryz.f134.name, by decide, Tryz.func134.trans (congrArg some (by kernel_rfl))⟩
  f26 := ⟨Tryz.f135.name, by decide, Tryz.func135.trans (congrArg some (by kernel_rfl))⟩
  f27 := ⟨Tryz.f136.name, by decide, Tryz.func136.trans (congrArg some (by kernel_rfl))⟩
  f28 := Tryz.func120.trans (congrArg some (by kernel_rfl))
  f29 := Tryz.func121.trans (congrArg some (by kernel_rfl))
  f46 := ⟨Tryz.f165.name, by decide, Tryz.func165.trans (congrArg some (by kernel_rfl))⟩
  f47 := Tryz.func158.trans (congrArg some (by kernel_rfl))
  f48 := Tryz.func159.trans (congrArg some (by kernel_rfl))
  f49 := ⟨Tryz.f166.name, by decide, Tryz.func166.trans (congrArg some (by kernel_rfl))⟩
  f50 := ⟨Tryz.f167.name, by decide, Tryz.func167.trans (congrArg some (by kernel_rfl))⟩
  f57 := ⟨Tryz.f186.name, by decide, Tryz.func186.trans (congrArg some (by kernel_rfl))⟩
  t0 := Tryz.underlying0
  a0 := Tryz.isAgg0
  z0 := Tryz.sizeOf0
  v0 := Tryz.zeroValue0
  t3 := Tryz.underlying3
  a3 := Tryz.isAgg3
  z3 := Tryz.sizeOf3
  v3 := Tryz.zeroValue3
  t4 := Tryz.underlying4
  a4 := Tryz.isAgg4
  z4 := Tryz.sizeOf4
  v4 := Tryz.zeroValue4
  t5 := Tryz.underlying5
  a5 := Tryz.isAgg5
  z5 := Tryz.sizeOf5
  v5 := Tryz.zeroValue5
  t9 := Tryz.underlying9
  a9 := Tryz.isAgg9
  z9 := Tryz.sizeOf9
  v9 := Tryz.zeroValue9
  t22 := Tryz.underlying24
  a22 := Tryz.isAgg24
  z22 := Tryz.sizeOf24
  v22 := Tryz.zeroValue24
  t25 := Tryz.underlying95
  a25 := Tryz.isAgg95
  z25 := Tryz.sizeOf95
  v25 := Tryz.zeroValue95
  t39 := Tryz.underlying150
  a39 := Tryz.isAgg150
  z39 := Tryz.sizeOf150
  v39 := Tryz.zeroValue150
  t45 := Tryz.underlying174
  a45 := Tryz.isAgg174
  z45 := Tryz.sizeOf174
  v45 := Tryz.zeroValue174
  t46 := Tryz.underlying175
  a46 := Tryz.isAgg175
  z46 := Tryz.sizeOf175
  v46 := Tryz.zeroValue175
  t50 := Tryz.underlying90
  a50 := Tryz.isAgg90
  z50 := Tryz.sizeOf90
  v50 := Tryz.zeroValue90
  t53 := Tryz.underlying181
  a53 := Tryz.isAgg181
  z53 := Tryz.sizeOf181
  v53 := Tryz.zeroValue181
  t55 := Tryz.underlying183
  a55 := Tryz.isAgg183
  z55 := Tryz.sizeOf183
  v55 := Tryz.zeroValue183
  t66 := Tryz.underlying206
  a66 := Tryz.isAgg206
  z66 := Tryz.sizeOf206
  v66 := Tryz.zeroValue206
  t70 := Tryz.underlying210
  a70 := Tryz.isAgg210
  z70 := Tryz.sizeOf210
  v70 := Tryz.zeroValue210
  t76 := Tryz.underlying227
  a76 := Tryz.isAgg227
  z76 := Tryz.sizeOf227
  v76 := Tryz.zeroValue227
  t77 := Tryz.underlying228
  a77 := Tryz.isAgg228
  z77 := Tryz.sizeOf228
  v77 := Tryz.zeroValue228 }
end Go.Proofs
end
section
set_option linter.unusedVariables false
set_option linter.unusedSimpArgs false
namespace Go.Proofs.YtojjnfhgldjgbaaGreatDoor.Store
open Go.RowKit Go.Por Go.Sort Go.Proofs.YtojjnfhgldjgbaaGreatDoor.Watch Go.Por.Tupl

/-- What strings.Cut gives at a sign. -/
def cutB (s : ByteArray) (c : UInt8) : ByteArray × ByteArray × Bool :=
  if 0 ≤ Lib.indexByte s.data.toList c then (⟨(s.data.toList.take (Lib.indexByte s.data.toList c).toNat).toArray⟩, ⟨(s.data.toList.drop ((Lib.indexByte s.data.toList c).toNat + 1)).toArray⟩, true) else (s, ⟨#[]⟩, false)
theorem extract_take (s : ByteArray) (k : Nat) : s.extract 0 k = ⟨(s.data.toList.take k).toArray⟩ := by
  apply ByteArray.ext
  rw [ByteArray.data_extract]
  apply Array.toList_inj.1
  simp [Array.toList_extract]
theorem extract_drop (s : ByteArray) (k : Nat) : s.extract k s.size = ⟨(s.data.toList.drop k).toArray⟩ := by
  apply ByteArray.ext
  rw [ByteArray.data_extract]
  apply Array.toList_inj.1
  simp [Array.toList_extract]
  exact List.take_of_length_le (by simp)
set_option maxRecDepth 100000 in
set_option maxHeartbeats 800000 in
theorem slcut_any (w : World) (s : ByteArray) (hs : s.size ≤ 9223372036854775807) (c : UInt8) : Calls Tryz.prog 173 #[.string s, .string ⟨#[c]⟩] w fun e w' => e = .returned (.tuple #[.string (cutB s c).1, .string (cutB s c).2.1, .bool (cutB s c).2.2]) ∧ Below w.heap.size w w' := by
  have hi : ∀ W : World, Calls Tryz.prog 188 #[.string s, .string ⟨#[c]⟩] W fun e w' => e = .returned (.int .i64 (Lib.indexByte s.data.toList c)) ∧ w' = W := fun W => Tryz.stringslite_Index_one s c W
  obtain ⟨i, hI⟩ : ∃ i, Lib.indexByte s.data.toList c = i := ⟨_, rfl⟩
  have h1 := indexByte_lo s.data.toList c
  have h2 : 0 ≤ i → i.toNat < s.size := fun h => by
    rw [← hI] at h ⊢
    have := indexByte_lt h
    simpa using this
  unfold cutB
  rw [hI] at hi h1 ⊢
  have HH := Lib.hid (And.intro hi hI)
  clear hi hI
  by_cases h0 : 0 ≤ i
  · rw [if_pos h0]
    obtain ⟨k, rfl⟩ := Int.eq_ofNat_of_zero_le h0
    have hk := h2 h0
    rw [Int.toNat_natCast] at hk ⊢
    obtain ⟨z, hz⟩ : ∃ z, s.size = z := ⟨_, rfl⟩
    rw [hz] at hs hk
    clear h0 h1 h2
    have e1 : ((k : Int) + 1).toNat = k + 1 := by omega
    have HZ := Lib.hid (And.intro hz hk)
    clear hz hk
    go_enter Tryz.func173, Tryz.ntmps173
    go_wp2_with fail
    refine (HH.out.1 _).mono ?_
    rintro e w1 ⟨rfl, rfl⟩
    go_upto_region 3 with fail
    refine wp_region_held_drew (S := fun w' => Below w1.heap.size w1 w') (by kernel_rfl) ((Below.refl _ w1).drew) (fun hS => ?_)
    refine takeD (i := 0) rfl (by kernel_rfl) (by kernel_rfl) (by kernel_rfl) (fun _ _ _ h => h) hS (Or.inl ⟨by rfl, fun w hSw => by go_simp; rfl⟩) ?_
    simp only [Act.put, List.setIfInBounds_toArray, List.set_cons_zero, List.set_cons_succ]
    refine takeD (i := 1) rfl (by kernel_rfl) (by kernel_rfl) (by kernel_rfl) (fun _ _ _ h => h) hS (Or.inl ⟨by rfl, fun w hSw => by go_simp; rfl⟩) ?_
    simp only [Act.put, List.setIfInBounds_toArray, List.set_cons_zero, List.set_cons_succ]
    refine takeD (i := 2) (v := (.string (s.extract 0 k))) rfl (by kernel_rfl) (by kernel_rfl) (by kernel_rfl) (fun _ _ _ h => h) hS (Or.inl ⟨by rfl, fun w hSw => by have q1 := HZ.out.1; have q2 := HZ.out.2; go_simp; exact fun h => absurd h (by omega)⟩) ?_
    simp only [Act.put, List.setIfInBounds_toArray, List.set_cons_zero, List.set_cons_succ]
    refine takeD (i := 3) rfl (by kernel_rfl) (by kernel_rfl) (by kernel_rfl) (fun _ _ _ h => h) hS (Or.inl ⟨by rfl, fun w hSw => by go_simp; rfl⟩) ?_
    simp only [Act.put, List.setIfInBounds_toArray, List.set_cons_zero, List.set_cons_succ]
    refine takeD (i := 4) rfl (by kernel_rfl) (by kernel_rfl) (by kernel_rfl) (fun _ _ _ h => h) hS (Or.inl ⟨by rfl, fun w hSw => by go_simp; rfl⟩) ?_
    simp only [Act.put, List.setIfInBounds_toArray, List.set_cons_zero, List.set_cons_succ]
    refine takeD (i := 5) rfl (by kernel_rfl) (by kernel_rfl) (by kernel_rfl) (fun _ _ _ h => h) hS (Or.inl ⟨by rfl, fun w hSw => by go_simp; rfl⟩) ?_
    simp only [Act.put, List.setIfInBounds_toArray, List.set_cons_zero, List.set_cons_succ]
    refine takeD (i := 6) (v := (.int .i64 1)) rfl (by kernel_rfl) (by kernel_rfl) (by kernel_rfl) (fun _ _ _ h => h) hS (Or.inl ⟨by rfl, fun w hSw => by go_simp⟩) ?_
    simp only [Act.put, List.setIfInBounds_toArray, List.set_cons_zero, List.set_cons_succ]
    refine takeD (i := 7) (v := (.int .i64 ((k : Int) + 1))) rfl (by kernel_rfl) (by kernel_rfl) (by kernel_rfl) (fun _ _ _ h => h) hS (Or.inl ⟨by rfl, fun w hSw => by have q1 := HZ.out.1; have q2 := HZ.out.2; go_simp; rw [IntKind.wrap_i64]; omega⟩) ?_
    simp only [Act.put, List.setIfInBounds_toArray, List.set_cons_zero, List.set_cons_succ]
    refine takeD (i := 8) (v := (.string (s.extract (k + 1) s.size))) rfl (by kernel_rfl) (by kernel_rfl) (by kernel_rfl) (fun _ _ _ h => h) hS (Or.inl ⟨by rfl, fun w hSw => by have q1 := HZ.out.1; have q2 := HZ.out.2; go_simp; exact fun h => absurd (h (by omega)) (by omega)⟩) ?_
    simp only [Act.put, List.setIfInBounds_toArray, List.set_cons_zero, List.set_cons_succ]
    refine takeD (i := 9) rfl (by kernel_rfl) (by kernel_rfl) (by kernel_rfl) (fun _ _ _ h => h) hS (Or.inl ⟨by rfl, fun w hSw => by go_simp; rfl⟩) ?_
    simp only [Act.put, List.setIfInBounds_toArray, List.set_cons_zero, List.set_cons_succ]
    refine takeD (i := 10) rfl (by kernel_rfl) (by kernel_rfl) (by kernel_rfl) (fun _ _ _ h => h) hS (Or.inl ⟨by rfl, fun w hSw => by go_simp; rfl⟩) ?_
    simp only [Act.put, List.setIfInBounds_toArray, List.set_cons_zero, List.set_cons_succ]
    refine takeD (i := 11) rfl (by kernel_rfl) (by kernel_rfl) (by kernel_rfl) (fun _ _ _ h => h) hS (Or.inl ⟨by rfl, fun w hSw => by go_simp; rfl⟩) ?_
    simp only [Act.put, List.setIfInBounds_toArray, List.set_cons_zero, List.set_cons_succ]
    refine wpAnyH_done (by kernel_rfl) ?_ _
    simp only [Exit.then]
    go_wp2
    refine bodyPost_ret (results_tmp3 rfl _ _ _) rfl ?_
    rw [extract_take, extract_drop]
    exact ⟨rfl, (Below.refl _ w1).drew⟩
  · rw [if_neg h0]
    go_enter Tryz.func173, Tryz.ntmps173
    go_wp2_with fail
    refine (HH.out.1 _).mono ?_
    rintro e w1 ⟨rfl, rfl⟩
    go_wp2
    refine bodyPost_ret (results_tmp3 rfl _ _ _) rfl ?_
    exact ⟨rfl, Below.refl _ _⟩
set_option maxRecDepth 100000 in
set_option maxHeartbeats 800000 in
theorem name_any (w : World) (s : ByteArray) (hs : s.size ≤ 9223372036854775807) : Calls Tryz.prog 100 #[.string s] w fun e w' => e = .returned (.bool (nameL s.data.toList)) ∧ Below w.heap.size w w' := by
  have ht : ∀ W : World, Calls Tryz.prog 150 #[.string s, .string ⟨cset.toArray⟩] W fun e w' => e = .returned (.string ⟨(Lib.trimS s.data.toList cset).toArray⟩) ∧ Below W.heap.size W w' := fun W => Tryz.strings_Trim s ⟨cset.toArray⟩ W hs (by decide) (by
    intro j b hj
    have h1 : ∀ b ∈ cset, b.toNat < 128 := by decide
    exact h1 b (List.mem_of_getElem? (by simpa using hj)))
  have HH := Lib.hid ht
  clear ht
  have he := ByteArray.toList_eq s
  have hz : s.data.toList.length = s.size := by simp
  by_cases h0 : s.data.toList = []
  · have h1 : s.toList.isEmpty = true := by rw [he, h0]; rfl
    have h2 : nameL s.data.toList = false := by rw [h0]; rfl
    rw [h2]
    clear he h0 h2 hz
    go_enter Tryz.func100, Tryz.ntmps100
    go_wp2
    go_ret
    exact ⟨rfl, Below.refl _ _⟩
  · have h1 : s.toList.isEmpty = false := by rw [he]; simpa using h0
    by_cases h3 : s.size ≤ 32
    · have h2 : nameL s.data.toList = (Lib.trimS s.data.toList cset).isEmpty := by
        rw [trim_name]
        unfold nameL
        rw [hz, decide_eq_true h3]
        cases hh : s.data.toList with
        | nil => exact absurd hh h0
        | cons a b => rfl
      rw [h2]
      obtain ⟨q, hq⟩ : ∃ q, Lib.trimS s.data.toList cset = q := ⟨_, rfl⟩
      rw [hq] at HH ⊢
      have h4 : (⟨q.toArray⟩ : ByteArray).toList.isEmpty = q.isEmpty := by rw [ByteArray.toList_eq]
      have h32 : (s.size : Int) ≤ 32 := by omega
      clear he h0 h2 hz h3
      go_enter Tryz.func100, Tryz.ntmps100
      go_wp2_with fail
      refine (HH.out _).mono ?_
      rintro e w1 ⟨rfl, hb⟩
      have H1 := Lib.hid hb
      clear hb
      go_wp2
      go_ret
      exact ⟨by simp [h4], H1.out⟩
    · have h2 : nameL s.data.toList = false := by
        unfold nameL
        rw [hz, decide_eq_false h3]
        simp
      rw [h2]
      have h32 : ¬ (s.size : Int) ≤ 32 := by omega
      clear he h0 h2 hz h3
      go_enter Tryz.func100, Tryz.ntmps100
      go_wp2
      go_ret
      exact ⟨rfl, Below.refl _ _⟩
set_option maxRecDepth 100000 in
set_option maxHeartbeats 800000 in
theorem cut_any (w : World) (s : ByteArray) (hs : s.size ≤ 9223372036854775807) (c : UInt8) : Calls Tryz.prog 149 #[.string s, .string ⟨#[c]⟩] w fun e w' => e = .returned (.tuple #[.string (cutB s c).1, .string (cutB s c).2.1, .bool (cutB s c).2.2]) ∧ Below w.heap.size w w' := by
  have HH := Lib.hid (slcut_any w s hs c)
  obtain ⟨⟨a, b, o⟩, hq⟩ : ∃ q, cutB s c = q := ⟨_, rfl⟩
  rw [hq] at HH ⊢
  go_enter Tryz.func149, Tryz.ntmps149
  go_wp2_with fail
  refine (HH.out).mono ?_
  rintro e w1 ⟨rfl, hb⟩
  have H1 := Lib.hid hb
  clear hb
  go_wp2
  refine bodyPost_ret (results_tmp3 rfl _ _ _) rfl ?_
  exact ⟨rfl, H1.out⟩
theorem cutB_size (s : ByteArray) (c : UInt8) : (cutB s c).1.size ≤ s.size ∧ (cutB s c).2.1.size ≤ s.size := by
  unfold cutB
  split
  · refine ⟨?_, ?_⟩
    · show (List.toArray _).size ≤ s.data.size
      rw [List.size_toArray, List.length_take, Array.length_toList]
      omega
    · show (List.toArray _).size ≤ s.data.size
      rw [List.size_toArray, List.length_drop, Array.length_toList]
      omega
  · exact ⟨Nat.le_refl _, Nat.zero_le _⟩
theorem objE_cut (s : ByteArray) : objE s.data.toList = if (cutB s 58).2.2 = true then (if nameL (cutB s 58).1.data.toList && nameL (cutB s 58).2.1.data.toList then 0 else 50) else 51 := by
  unfold objE cutB
  by_cases h : 0 ≤ Lib.indexByte s.data.toList 58
  · rw [if_neg (by omega), if_pos h]
    simp
  · rw [if_pos (by omega), if_neg h]
    simp
theorem usrE_cut (s : ByteArray) : usrE s.data.toList = if objE (cutB s 35).1.data.toList = 0 then (if (cutB s 35).2.2 && !nameL (cutB s 35).2.1.data.toList then 50 else 0) else objE (cutB s 35).1.data.toList := by
  unfold usrE cutB
  by_cases h : 0 ≤ Lib.indexByte s.data.toList 35
  · rw [if_neg (by omega), if_pos h]
    simp only [Bool.true_and]
    congr 1
    cases nameL (List.drop ((Lib.indexByte s.data.toList 35).toNat + 1) s.data.toList) <;> rfl
  · rw [if_pos (by omega), if_neg h]
    simp only [Bool.false_and]
    by_cases h2 : objE s.data.toList = 0
    · rw [if_pos h2, h2]; rfl
    · rw [if_neg h2]
set_option maxRecDepth 100000 in
set_option maxHeartbeats 800000 in
theorem object_any (w : World) (s : ByteArray) (hs : s.size ≤ 9223372036854775807) : Calls Tryz.prog 99 #[.string s] w fun e w' => ∃ a b, e = .returned (.tuple #[.string a, .string b, .int .i64 (objE s.data.toList)]) ∧ Below w.heap.size w w' := by
  have hc : ∀ W : World, Calls Tryz.prog 149 #[.string s, .string ⟨#[58]⟩] W fun e w' => e = .returned (.tuple #[.string (cutB s 58).1, .string (cutB s 58).2.1, .bool (cutB s 58).2.2]) ∧ Below W.heap.size W w' := fun W => cut_any W s hs 58
  have h1 : ∀ W : World, Calls Tryz.prog 100 #[.string (cutB s 58).1] W fun e w' => e = .returned (.bool (nameL (cutB s 58).1.data.toList)) ∧ Below W.heap.size W w' := fun W => name_any W _ (Nat.le_trans (cutB_size s 58).1 hs)
  have h2 : ∀ W : World, Calls Tryz.prog 100 #[.string (cutB s 58).2.1] W fun e w' => e = .returned (.bool (nameL (cutB s 58).2.1.data.toList)) ∧ Below W.heap.size W w' := fun W => name_any W _ (Nat.le_trans (cutB_size s 58).2 hs)
  rw [objE_cut]
  obtain ⟨n1, hn1⟩ : ∃ n, nameL (cutB s 58).1.data.toList = n := ⟨_, rfl⟩
  obtain ⟨n2, hn2⟩ : ∃ n, nameL (cutB s 58).2.1.data.toList = n := ⟨_, rfl⟩
  rw [hn1] at h1 ⊢
  rw [hn2] at h2 ⊢
  clear hn1 hn2
  obtain ⟨⟨a, b, o⟩, hq⟩ : ∃ q, cutB s 58 = q := ⟨_, rfl⟩
  rw [hq] at h1 h2 hc ⊢
  have HH := Lib.hid (And.intro hc (And.intro h1 h2))
  clear hc h1 h2 hq
  cases o with
  | false =>
    go_enter Tryz.func99, Tryz.ntmps99
    go_wp2_with fail
    refine (HH.out.1 _).mono ?_
    rintro e w1 ⟨rfl, hb⟩
    have H1 := Lib.hid hb
    clear hb
    go_wp2
    refine bodyPost_ret (results_tmp3 rfl _ _ _) rfl ?_
    first | exact ⟨⟨_, _, rfl⟩, H1.out⟩ | exact ⟨_, _, rfl, H1.out⟩
  | true =>
    cases n1 with
    | false =>
      go_enter Tryz.func99, Tryz.ntmps99
      go_wp2_with fail
      refine (HH.out.1 _).mono ?_
      rintro e w1 ⟨rfl, hb⟩
      have H1 := Lib.hid hb
      clear hb
      go_wp2_with fail
      refine (HH.out.2.1 _).mono ?_
      rintro e w2 ⟨rfl, hb⟩
      have H2 := Lib.hid hb
      clear hb
      go_wp2
      refine bodyPost_ret (results_tmp3 rfl _ _ _) rfl ?_
      first | exact ⟨⟨_, _, rfl⟩, H1.out.trans (H2.out.mono H1.out.size)⟩ | exact ⟨_, _, rfl, H1.out.trans (H2.out.mono H1.out.size)⟩
    | true =>
      go_enter Tryz.func99, Tryz.ntmps99
      go_wp2_with fail
      refine (HH.out.1 _).mono ?_
      rintro e w1 ⟨rfl, hb⟩
      have H1 := Lib.hid hb
      clear hb
      go_wp2_with fail
      refine (HH.out.2.1 _).mono ?_
      rintro e w2 ⟨rfl, hb⟩
      have H2 := Lib.hid hb
      clear hb
      go_wp2_with fail
      refine (HH.out.2.2 _).mono ?_
      rintro e w3 ⟨rfl, hb⟩
      have H3 := Lib.hid hb
      clear hb
      cases n2 with
      | false =>
        go_wp2
        refine bodyPost_ret (results_tmp3 rfl _ _ _) rfl ?_
        first | exact ⟨⟨_, _, rfl⟩, (H1.out.trans (H2.out.mono H1.out.size)).trans (H3.out.mono (Nat.le_trans H1.out.size H2.out.size))⟩ | exact ⟨_, _, rfl, (H1.out.trans (H2.out.mono H1.out.size)).trans (H3.out.mono (Nat.le_trans H1.out.size H2.out.size))⟩
      | true =>
        go_wp2
        refine bodyPost_ret (results_tmp3 rfl _ _ _) rfl ?_
        first | exact ⟨⟨_, _, rfl⟩, (H1.out.trans (H2.out.mono H1.out.size)).trans (H3.out.mono (Nat.le_trans H1.out.size H2.out.size))⟩ | exact ⟨_, _, rfl, (H1.out.trans (H2.out.mono H1.out.size)).trans (H3.out.mono (Nat.le_trans H1.out.size H2.out.size))⟩
set_option maxRecDepth 100000 in
set_option maxHeartbeats 800000 in
theorem user_any (w : World) (s : ByteArray) (hs : s.size ≤ 9223372036854775807) : Calls Tryz.prog 101 #[.string s] w fun e w' => ∃ a b, e = .returned (.tuple #[.string a, .string b, .int .i64 (usrE s.data.toList)]) ∧ Below w.heap.size w w' := by
  have hc : ∀ W : World, Calls Tryz.prog 149 #[.string s, .string ⟨#[35]⟩] W fun e w' => e = .returned (.tuple #[.string (cutB s 35).1, .string (cutB s 35).2.1, .bool (cutB s 35).2.2]) ∧ Below W.heap.size W w' := fun W => cut_any W s hs 35
  have h1 : ∀ W : World, Calls Tryz.prog 99 #[.string (cutB s 35).1] W fun e w' => ∃ a b, e = .returned (.tuple #[.string a, .string b, .int .i64 (objE (cutB s 35).1.data.toList)]) ∧ Below W.heap.size W w' := fun W => object_any W _ (Nat.le_trans (cutB_size s 35).1 hs)
  have h2 : ∀ W : World, Calls Tryz.prog 100 #[.string (cutB s 35).2.1] W fun e w' => e = .returned (.bool (nameL (cutB s 35).2.1.data.toList)) ∧ Below W.heap.size W w' := fun W => name_any W _ (Nat.le_trans (cutB_size s 35).2 hs)
  rw [usrE_cut]
  obtain ⟨n1, hn1⟩ : ∃ n, objE (cutB s 35).1.data.toList = n := ⟨_, rfl⟩
  obtain ⟨n2, hn2⟩ : ∃ n, nameL (cutB s 35).2.1.data.toList = n := ⟨_, rfl⟩
  rw [hn1] at h1 ⊢
  rw [hn2] at h2 ⊢
  clear hn1 hn2
  obtain ⟨⟨a, b, o⟩, hq⟩ : ∃ q, cutB s 35 = q := ⟨_, rfl⟩
  rw [hq] at h1 h2 hc ⊢
  have HH := Lib.hid (And.intro hc (And.intro h1 h2))
  clear hc h1 h2 hq
  by_cases h0 : n1 = 0
  · subst h0
    cases o with
    | false =>
      go_enter Tryz.func101, Tryz.ntmps101
      go_wp2_with fail
      refine (HH.out.1 _).mono ?_
      rintro e w1 ⟨rfl, hb⟩
      have H1 := Lib.hid hb
      clear hb
      go_wp2_with fail
      refine (HH.out.2.1 _).mono ?_
      rintro e w2 ⟨x, y, rfl, hb⟩
      have H2 := Lib.hid hb
      clear hb
      go_wp2
      refine bodyPost_ret (results_tmp3 rfl _ _ _) rfl ?_
      first | exact ⟨⟨_, _, rfl⟩, H1.out.trans (H2.out.mono H1.out.size)⟩ | exact ⟨_, _, rfl, H1.out.trans (H2.out.mono H1.out.size)⟩
    | true =>
      go_enter Tryz.func101, Tryz.ntmps101
      go_wp2_with fail
      refine (HH.out.1 _).mono ?_
      rintro e w1 ⟨rfl, hb⟩
      have H1 := Lib.hid hb
      clear hb
      go_wp2_with fail
      refine (HH.out.2.1 _).mono ?_
      rintro e w2 ⟨x, y, rfl, hb⟩
      have H2 := Lib.hid hb
      clear hb
      go_wp2_with fail
      refine (HH.out.2.2 _).mono ?_
      rintro e w3 ⟨rfl, hb⟩
      have H3 := Lib.hid hb
      clear hb
      cases n2 with
      | false =>
        go_wp2
        refine bodyPost_ret (results_tmp3 rfl _ _ _) rfl ?_
        first | exact ⟨⟨_, _, rfl⟩, (H1.out.trans (H2.out.mono H1.out.size)).trans (H3.out.mono (Nat.le_trans H1.out.size H2.out.size))⟩ | exact ⟨_, _, rfl, (H1.out.trans (H2.out.mono H1.out.size)).trans (H3.out.mono (Nat.le_trans H1.out.size H2.out.size))⟩
      | true =>
        go_wp2
        refine bodyPost_ret (results_tmp3 rfl _ _ _) rfl ?_
        first | exact ⟨⟨_, _, rfl⟩, (H1.out.trans (H2.out.mono H1.out.size)).trans (H3.out.mono (Nat.le_trans H1.out.size H2.out.size))⟩ | exact ⟨_, _, rfl, (H1.out.trans (H2.out.mono H1.out.size)).trans (H3.out.mono (Nat.le_trans H1.out.size H2.out.size))⟩
  · have hn : (n1 == 0) = false := by simp [h0]
    rw [if_neg h0]
    go_enter Tryz.func101, Tryz.ntmps101
    go_wp2_with fail
    refine (HH.out.1 _).mono ?_
    rintro e w1 ⟨rfl, hb⟩
    have H1 := Lib.hid hb
    clear hb
    go_wp2_with fail
    refine (HH.out.2.1 _).mono ?_
    rintro e w2 ⟨x, y, rfl, hb⟩
    have H2 := Lib.hid hb
    clear hb
    go_wp2
    refine bodyPost_ret (results_tmp3 rfl _ _ _) rfl ?_
    first | exact ⟨⟨_, _, rfl⟩, H1.out.trans (H2.out.mono H1.out.size)⟩ | exact ⟨_, _, rfl, H1.out.trans (H2.out.mono H1.out.size)⟩
set_option maxRecDepth 100000 in
set_option maxHeartbeats 1600000 in
/-- tuple.Check of one tuple. -/
theorem check_one {w : World} {v : Value} (t : Tup) (hr : OwnS tupC 3 w 41 v [t]) (h0 : t.1.size ≤ 9223372036854775807) (h1 : t.2.1.size ≤ 9223372036854775807) (h2 : t.2.2.size ≤ 9223372036854775807) : Calls Tryz.prog 71 #[v] w fun e w' => e = .returned (.int .i64 (tchk t)) ∧ Below w.heap.size w w' := by
  obtain ⟨t0, t1, t2⟩ := t
  obtain ⟨g, cap, rfl⟩ : ∃ g cap, v = .slice (some ⟨g, 0, none⟩) 1 cap := by
    rcases hr.form with ⟨_, h⟩ | ⟨g, cap, h, _⟩
    · cases h
    · exact ⟨g, cap, h⟩
  have hrange := hr.range tupC_len (i := 0) rfl
  have hg := hr.lt
  have a1 : ∀ W : World, Calls Tryz.prog 99 #[.string t0] W fun e w' => ∃ a b, e = .returned (.tuple #[.string a, .string b, .int .i64 (objE t0.data.toList)]) ∧ Below W.heap.size W w' := fun W => object_any W _ h0
  have a2 : ∀ W : World, Calls Tryz.prog 100 #[.string t1] W fun e w' => e = .returned (.bool (nameL t1.data.toList)) ∧ Below W.heap.size W w' := fun W => name_any W _ h1
  have a3 : ∀ W : World, Calls Tryz.prog 101 #[.string t2] W fun e w' => ∃ a b, e = .returned (.tuple #[.string a, .string b, .int .i64 (usrE t2.data.toList)]) ∧ Below W.heap.size W w' := fun W => user_any W _ h2
  unfold tchk
  obtain ⟨n1, hn1⟩ : ∃ n, objE t0.data.toList = n := ⟨_, rfl⟩
  obtain ⟨n2, hn2⟩ : ∃ n, nameL t1.data.toList = n := ⟨_, rfl⟩
  obtain ⟨n3, hn3⟩ : ∃ n, usrE t2.data.toList = n := ⟨_, rfl⟩
  rw [hn1] at a1 ⊢
  rw [hn2] at a2 ⊢
  rw [hn3] at a3 ⊢
  obtain ⟨R, hR⟩ : ∃ R, (if n1 = 0 then (if n2 = true then n3 else 50) else n1) = R := ⟨_, rfl⟩
  simp only [hR]
  have HH := Lib.hid (And.intro a1 (And.intro a2 (And.intro a3 (And.intro hrange hg))))
  have HR := Lib.hid hR
  clear a1 a2 a3 hn1 hn2 hn3 hr h0 h1 h2 hrange hg hR
  go_enter Tryz.func71, Tryz.ntmps71
  go_wp2
  go_loopg [13] 1 (fun gg vi wx => ∃ (t : Nat), t + gg = 1 ∧ vi = .int .i64 (t : Int) ∧ Below w.heap.size w wx ∧ (t = 1 → n1 = 0 ∧ n2 = true ∧ n3 = 0))
  case atStart => exact ⟨0, rfl, rfl, Below.refl _ _, fun h => by omega⟩
  case round =>
    obtain ⟨t, htg, rfl, hbel, hd⟩ := hrel
    by_cases hg : gk = 0
    · have ht : t = 1 := by omega
      subst ht
      have HE := Lib.hid (And.intro hbel (hd rfl))
      clear hbel hd htg hg
      go_wp2
      go_ret
      obtain ⟨h1, h2, h3, h4⟩ := HE.out
      refine ⟨?_, h1⟩
      rw [← HR.out, if_pos h2, if_pos h3, h4]
      rfl
    · have ht : t = 0 := by omega
      subst ht
      have hr2 : wr.rangeAt g 0 (tupC (t0, t1, t2)) := range_below (by simpa using HH.out.2.2.2.1) hbel HH.out.2.2.2.2
      have HE := Lib.hid (And.intro hbel (And.intro hr2 htg))
      clear hbel hd htg hg hr2
      go_upto_region 4 with (first
        | (refine wpList_load_mid rfl 41 (.tmp 15) rfl g 0 rfl (tupC (t0, t1, t2)) _ HE.out.2.1 Tryz.underlying41 rfl infoTup0 ?_; unfold tupC))
      obtain ⟨Q, hQ⟩ : ∃ Q, wr.heap.size = Q := ⟨_, rfl⟩
      have hRb := block_new wr (.cells #[.string t0, .string t1, .string t2] 41)
      have hW : ∃ W4, wr.alloc (.cells #[.string t0, .string t1, .string t2] 41) = W4 := ⟨_, rfl⟩
      have hb4 : Below w.heap.size w (wr.alloc (.cells #[.string t0, .string t1, .string t2] 41)) := HE.out.1.alloc HE.out.1.size _
      have hs4 : Q < (wr.alloc (.cells #[.string t0, .string t1, .string t2] 41)).heap.size := by rw [World.size_alloc]; omega
      rw [hQ] at hRb ⊢
      generalize hW4 : wr.alloc (.cells #[.string t0, .string t1, .string t2] 41) = W4 at *
      clear hW hW4 hQ
      have c0 : W4.cell? ⟨Q, 0, none⟩ = some (.string t0) := cell_of hRb rfl
      have HB := Lib.hid (And.intro hRb (And.intro hb4 hs4))
      clear hRb hb4 hs4
      go_wp2_with fail
      refine (HH.out.1 _).mono ?_
      rintro e w5 ⟨x5, y5, rfl, hb5⟩
      have b5 : Mod (fun _ => False) W4 w5 := Mod.of_below hb5 _
      have H5 := Lib.hid hb5
      clear hb5 c0
      by_cases hn : n1 = 0
      · subst hn
        have c1 : w5.cell? ⟨Q, 1, none⟩ = some (.string t1) := cell_of (b5.old HB.out.1 id) rfl
        have B5 := Lib.hid b5
        clear b5
        go_wp2_with fail
        refine (HH.out.2.1 _).mono ?_
        rintro e w6 ⟨rfl, hb6⟩
        have b6 : Mod (fun _ => False) w5 w6 := Mod.of_below hb6 _
        have H6 := Lib.hid hb6
        clear hb6 c1
        cases n2 with
        | true =>
          have c2 : w6.cell? ⟨Q, 2, none⟩ = some (.string t2) := cell_of (b6.old (B5.out.old HB.out.1 id) id) rfl
          have B6 := Lib.hid b6
          clear b6
          go_wp2_with fail
          refine (HH.out.2.2.1 _).mono ?_
          rintro e w7 ⟨x7, y7, rfl, hb7⟩
          have H7 := Lib.hid hb7
          clear hb7 c2
          by_cases hn3 : n3 = 0
          · subst hn3
            go_wp2
            go_roundg (gk - 1)
            case measure => have := HE.out.2.2; omega
            case rel =>
              refine ⟨1, by have := HE.out.2.2; omega, by go_num, ?_, fun _ => by simp⟩
              exact ((HB.out.2.1.trans (H5.out.mono HB.out.2.1.size)).trans (H6.out.mono (Nat.le_trans HB.out.2.1.size H5.out.size))).trans (H7.out.mono (Nat.le_trans (Nat.le_trans HB.out.2.1.size H5.out.size) H6.out.size))
          · have hn3' : (n3 == 0) = false := by simp [hn3]
            go_wp2
            go_ret
            refine ⟨?_, ((HB.out.2.1.trans (H5.out.mono HB.out.2.1.size)).trans (H6.out.mono (Nat.le_trans HB.out.2.1.size H5.out.size))).trans (H7.out.mono (Nat.le_trans (Nat.le_trans HB.out.2.1.size H5.out.size) H6.out.size))⟩
            rw [← HR.out]
            rfl
        | false =>
          go_wp2
          go_ret
          refine ⟨?_, (HB.out.2.1.trans (H5.out.mono HB.out.2.1.size)).trans (H6.out.mono (Nat.le_trans HB.out.2.1.size H5.out.size))⟩
          rw [← HR.out]
          rfl
      · have hn' : (n1 == 0) = false := by simp [hn]
        go_wp2
        go_ret
        refine ⟨?_, HB.out.2.1.trans (H5.out.mono HB.out.2.1.size)⟩
        rw [← HR.out, if_neg hn]
        rfl
end Go.Proofs.YtojjnfhgldjgbaaGreatDoor.Store
end
