/- WatchNet, where what came in is of bulk at most 1048576: what leads from some tuples to others does so in a store, and n: part 7 of 32: what it leans on. -/
import Derived.Shelf.Small.Bits
import Derived.Shelf.Small.Strs
import Derived.Shelf.Strings.Search1
import Derived.Shelf.Strings.Search2
import Derived.Shelf.Sort.Plain
import Derived.Shelf.Slices.In.SortNone
import Derived.Shelf.Strings.SlTrimAscii
import Derived.Shelf.SlSortCmp.NoneTotal
import Derived.Ground.SlsfProg
import Derived.Shelf.SlGeneric
import Derived.Test.YtojjnfhgldjgbaaGreatDoorProg
import Derived.Test.YtojjnfhgldjgbaaGreatDoorNtA
import Derived.Test.YtojjnfhgldjgbaaGreatDoorNtB
import Derived.Test.YtojjnfhgldjgbaaGreatDoorNtC
import Derived.Test.YtojjnfhgldjgbaaGreatDoorNtD
import Derived.Test.YtojjnfhgldjgbaaGreatDoorNtE
import Derived.Test.YtojjnfhgldjgbaaGreatDoorNtF
section
set_option linter.unusedVariables false
set_option linter.unusedSimpArgs false
namespace Go.Proofs.YtojjnfhgldjgbaaGreatDoor.Store
open Go.RowKit Go.Por Go.Sort Go.Proofs.YtojjnfhgldjgbaaGreatDoor.Watch

def spanC (x : Span) : List Value := [.int .i64 x.1, .int .i64 x.2]
theorem spanC_len (x : Span) : (spanC x).length = 2 := rfl
theorem spanC_one (x : Span) : ∀ u ∈ spanC x, u.oneCell' = true := by
  intro v hv
  simp only [spanC, List.mem_cons, List.not_mem_nil, or_false] at hv
  rcases hv with rfl | rfl <;> rfl
theorem elemSpan : Elem Tryz.prog 116 119 spanC 2 16 :=
  Elem.mk' (z := .agg #[.int .i64 0, .int .i64 0]) Tryz.underlying116 (by kernel_rfl) rfl spanC_len spanC_one (by decide)
theorem infoSpan : (Tryz.prog.info? 119).map (·.size) = some 2 := by kernel_rfl
theorem zeroSpans (w : World) : (zeroValue 116).run Tryz.prog w = .ok (.slice none 0 0) w := by kernel_rfl
/-- The blocks of a store. -/
structure StMem (w : World) (s O U M MO MU : Nat) (F : Nat → Prop) (lm : List (Tup × (Value × List Span))) (lo : List (PairT × (Value × List Tup))) (lu : List (ByteArray × (Value × List Tup))) (wm : Int) : Prop where
  hs : w.heap[s]? = some (.cells #[.map (some M), .pointer (some ⟨O, 0, none⟩), .pointer (some ⟨U, 0, none⟩), .int .i64 wm] 111 (0, 0))
  hO : w.heap[O]? = some (.cells #[.map (some MO)] 124 (0, 0))
  hU : w.heap[U]? = some (.cells #[.map (some MU)] 128 (0, 0))
  m : SlMap w M encT spanC 2 119 F lm
  o : SlMap w MO encP tupC 3 41 F lo
  u : SlMap w MU (fun s => .string s) tupC 3 41 F lu
  dis : ∀ e ∈ lo, ∀ e' ∈ lu, ∀ b, e.2.1.ownBlock = some b → e'.2.1.ownBlock ≠ some b
  ne1 : M ≠ MO
  ne2 : M ≠ MU
  ne3 : MO ≠ MU
  fs : F s
  fO : F O
  fU : F U
  fM : F M
  fMO : F MO
  fMU : F MU
  lt : ∀ b, F b → b < w.heap.size
def StoreIs (w : World) (s : Nat) (F : Nat → Prop) (sp : Sp) (ob : List (PairT × List Tup)) (us : List (ByteArray × List Tup)) (wm : Int) : Prop :=
  ∃ O U M MO MU lm lo lu, StMem w s O U M MO MU F lm lo lu wm ∧ smc lm = sp ∧ smc lo = ob ∧ smc lu = us
theorem StMem.mod {w w' : World} {s O U M MO MU : Nat} {F S : Nat → Prop} {lm : List (Tup × (Value × List Span))} {lo : List (PairT × (Value × List Tup))} {lu : List (ByteArray × (Value × List Tup))} {wm : Int}
    (h : StMem w s O U M MO MU F lm lo lu wm) (hm : Mod S w w') (hS : ∀ b, F b → ¬ S b) : StMem w' s O U M MO MU F lm lo lu wm :=
  ⟨hm.old h.hs (hS _ h.fs), hm.old h.hO (hS _ h.fO), hm.old h.hU (hS _ h.fU), h.m.mod hm (hS _ h.fM) (fun e he b hb => hS _ (h.m.foot e he b hb)), h.o.mod hm (hS _ h.fMO) (fun e he b hb => hS _ (h.o.foot e he b hb)), h.u.mod hm (hS _ h.fMU) (fun e he b hb => hS _ (h.u.foot e he b hb)), h.dis, h.ne1, h.ne2, h.ne3, h.fs, h.fO, h.fU, h.fM, h.fMO, h.fMU, fun b hb => Nat.lt_of_lt_of_le (h.lt b hb) hm.size⟩
theorem StoreIs.mod {w w' : World} {s : Nat} {F S : Nat → Prop} {sp : Sp} {ob : List (PairT × List Tup)} {us : List (ByteArray × List Tup)} {wm : Int} (h : StoreIs w s F sp ob us wm) (hm : Mod S w w') (hS : ∀ b, F b → ¬ S b) : StoreIs w' s F sp ob us wm := by
  obtain ⟨O, U, M, MO, MU, lm, lo, lu, h, h1, h2, h3⟩ := h
  exact ⟨O, U, M, MO, MU, lm, lo, lu, h.mod hm hS, h1, h2, h3⟩
theorem StoreIs.below {w w' : World} {s : Nat} {F : Nat → Prop} {sp : Sp} {ob : List (PairT × List Tup)} {us : List (ByteArray × List Tup)} {wm : Int} (h : StoreIs w s F sp ob us wm) (hb : Below w.heap.size w w') : StoreIs w' s F sp ob us wm :=
  h.mod (Mod.of_below hb (fun _ => False)) (fun _ _ h => h)

set_option maxRecDepth 100000 in
set_option maxHeartbeats 1600000 in
theorem newIndexO (w : World) : Calls Tryz.prog 52 #[] w fun e w' => ∃ m b, e = .returned (.pointer (some ⟨b, 0, none⟩)) ∧ w'.heap[m]? = some (.map #[] 0) ∧ w'.heap[b]? = some (.cells #[.map (some m)] 124 (0, 0)) ∧ w.heap.size ≤ m ∧ w.heap.size ≤ b ∧ b < w'.heap.size ∧ m < w'.heap.size ∧ Below w.heap.size w w' := by
  go_enter Tryz.func52, Tryz.ntmps52
  have hmm := @run_makeMap Tryz.prog
  go_wp2
  go_ret
  refine ⟨w.heap.size, w.heap.size + 1, rfl, block_alloc (block_new w _) _, ?_, by omega, by omega, ?_, ?_, ((Below.refl _ w).alloc (Nat.le_refl _) _).alloc (by simp) _⟩
  · have h1 := block_new (w.alloc (.map #[] 0)) (.cells #[.map (some w.heap.size)] 124)
    rwa [World.size_alloc] at h1
  · rw [World.size_alloc, World.size_alloc]; omega
  · rw [World.size_alloc, World.size_alloc]; omega
set_option maxRecDepth 100000 in
set_option maxHeartbeats 1600000 in
theorem newIndexU (w : World) : Calls Tryz.prog 53 #[] w fun e w' => ∃ m b, e = .returned (.pointer (some ⟨b, 0, none⟩)) ∧ w'.heap[m]? = some (.map #[] 0) ∧ w'.heap[b]? = some (.cells #[.map (some m)] 128 (0, 0)) ∧ w.heap.size ≤ m ∧ w.heap.size ≤ b ∧ b < w'.heap.size ∧ m < w'.heap.size ∧ Below w.heap.size w w' := by
  go_enter Tryz.func53, Tryz.ntmps53
  have hmm := @run_makeMap Tryz.prog
  go_wp2
  go_ret
  refine ⟨w.heap.size, w.heap.size + 1, rfl, block_alloc (block_new w _) _, ?_, by omega, by omega, ?_, ?_, ((Below.refl _ w).alloc (Nat.le_refl _) _).alloc (by simp) _⟩
  · have h1 := block_new (w.alloc (.map #[] 0)) (.cells #[.map (some w.heap.size)] 128)
    rwa [World.size_alloc] at h1
  · rw [World.size_alloc, World.size_alloc]; omega
  · rw [World.size_alloc, World.size_alloc]; omega
/-- An empty store's blocks. -/
theorem StoreIs.made {w w' : World} {s O U M MO MU : Nat} (hb : Below w.heap.size w w') (h1 : w'.heap[M]? = some (.map #[] 0)) (h2 : w'.heap[MO]? = some (.map #[] 0)) (h3 : w'.heap[MU]? = some (.map #[] 0))
    (h4 : w'.heap[O]? = some (.cells #[.map (some MO)] 124 (0, 0))) (h5 : w'.heap[U]? = some (.cells #[.map (some MU)] 128 (0, 0)))
    (h6 : w'.heap[s]? = some (.cells #[.map (some M), .pointer (some ⟨O, 0, none⟩), .pointer (some ⟨U, 0, none⟩), .int .i64 0] 111 (0, 0)))
    (n1 : M ≠ MO) (n2 : M ≠ MU) (n3 : MO ≠ MU) (l1 : w.heap.size ≤ M) (l2 : w.heap.size ≤ MO) (l3 : w.heap.size ≤ MU) (l4 : w.heap.size ≤ O) (l5 : w.heap.size ≤ U) (l6 : w.heap.size ≤ s) :
    StoreIs w' s (fun b => w.heap.size ≤ b ∧ b < w'.heap.size) [] [] [] 0 :=
  ⟨O, U, M, MO, MU, [], [], [], ⟨h6, h4, h5, ⟨⟨#[], 0, h1, rfl, List.nodup_nil, (fun e he => by cases he), List.nodup_nil⟩, fun e he => (by cases he), fun e he => (by cases he), fun e he => (by cases he)⟩, ⟨⟨#[], 0, h2, rfl, List.nodup_nil, (fun e he => by cases he), List.nodup_nil⟩, fun e he => (by cases he), fun e he => (by cases he), fun e he => (by cases he)⟩, ⟨⟨#[], 0, h3, rfl, List.nodup_nil, (fun e he => by cases he), List.nodup_nil⟩, fun e he => (by cases he), fun e he => (by cases he), fun e he => (by cases he)⟩,
    fun e he => (by cases he), n1, n2, n3, ⟨l6, lt_block h6⟩, ⟨l4, lt_block h4⟩, ⟨l5, lt_block h5⟩, ⟨l1, lt_block h1⟩, ⟨l2, lt_block h2⟩, ⟨l3, lt_block h3⟩, fun b hb => hb.2⟩, rfl, rfl, rfl⟩
set_option maxRecDepth 100000 in
set_option maxHeartbeats 1600000 in
/-- store.New. -/
theorem new_any (w : World) : Calls Tryz.prog 24 #[] w fun e w' => ∃ s, e = .returned (.pointer (some ⟨s, 0, none⟩)) ∧ StoreIs w' s (fun b => w.heap.size ≤ b ∧ b < w'.heap.size) [] [] [] 0 ∧ Below w.heap.size w w' := by
  go_enter Tryz.func24, Tryz.ntmps24
  have hmm := @run_makeMap Tryz.prog
  go_wp2_with (first | (go_at_call 52; refine (newIndexO _).mono ?_; rintro e w1 ⟨m1, b1, rfl, hm1, hb1, lm1, lb1, ub1, um1, below1⟩) | (go_at_call 53; refine (newIndexU _).mono ?_; rintro e w2 ⟨m2, b2, rfl, hm2, hb2, lm2, lb2, ub2, um2, below2⟩))
  go_ret
  clear hmm
  have m0 : Mod (fun _ => False) (w.alloc (.map #[] 0)) w1 := Mod.of_below below1 _
  have m1' : Mod (fun _ => False) w1 w2 := Mod.of_below below2 _
  have hs0 : (w.alloc (.map #[] 0)).heap.size = w.heap.size + 1 := by rw [World.size_alloc]
  have h0 := block_alloc (m1'.old (m0.old (block_new w (.map #[] 0)) id) id) (.cells #[.map (some w.heap.size), .pointer (some ⟨b1, 0, none⟩), .pointer (some ⟨b2, 0, none⟩), .int .i64 0] 111)
  refine ⟨w2.heap.size, rfl, StoreIs.made (M := w.heap.size) (MO := m1) (MU := m2) (O := b1) (U := b2) ?_ h0 (block_alloc (m1'.old hm1 id) _) (block_alloc hm2 _) (block_alloc (m1'.old hb1 id) _) (block_alloc hb2 _) (block_new w2 _) ?_ ?_ ?_ ?_ ?_ ?_ ?_ ?_ ?_, ?_⟩
  any_goals omega
  all_goals exact ((((Below.refl _ w).alloc (Nat.le_refl _) _).trans (below1.mono (by omega))).trans (below2.mono (by omega))).alloc (by omega) _
end Go.Proofs.YtojjnfhgldjgbaaGreatDoor.Store
end
section
set_option linter.unusedVariables false
set_option linter.unusedSimpArgs false
namespace Go.Proofs.YtojjnfhgldjgbaaGreatDoor.Store
open Go.RowKit Go.Por Go.Sort Go.Proofs.YtojjnfhgldjgbaaGreatDoor.Watch
theorem lastOf_snoc (P : List Span) (x : Span) : lastOf (P ++ [x]) = max x.1 x.2 := by unfold lastOf; rw [List.getLast?_concat]
theorem thereOf_snoc (P : List Span) (x : Span) : thereOf (P ++ [x]) = decide (x.2 = 0) := by unfold thereOf; rw [List.getLast?_concat]
section
variable {w : World} {s O U M MO MU : Nat} {F : Nat → Prop} {lm : List (Tup × (Value × List Span))} {lo : List (PairT × (Value × List Tup))} {lu : List (ByteArray × (Value × List Tup))} {wm : Int}
/-- A tuple's spans: none, or a last one. -/
theorem spans_last (h : StMem w s O U M MO MU F lm lo lu wm) (t : Tup) : (slv lm t = .slice none 0 0 ∧ aget (smc lm) t = []) ∨ (∃ g cap, slv lm t = .slice (some ⟨g, 0, none⟩) 0 cap ∧ aget (smc lm) t = []) ∨ ∃ g cap n P x, slv lm t = .slice (some ⟨g, 0, none⟩) (n + 1) cap ∧ aget (smc lm) t = P ++ [x] ∧ P.length = n ∧ n + 1 ≤ maxLen ∧ w.cell? ⟨g, n * 2 + 0, none⟩ = some (.int .i64 x.1) ∧ w.cell? ⟨g, n * 2 + 1, none⟩ = some (.int .i64 x.2) ∧ F g := by
  have h1 := (h.m.at t).1
  rcases h1.form with ⟨h2, h3⟩ | ⟨g, cap, h2, h5, h6⟩
  · exact .inl ⟨h2, h3⟩
  · rcases List.eq_nil_or_concat (aget (smc lm) t) with h4 | ⟨P, x, h4⟩
    · rw [h4] at h2
      exact .inr (.inl ⟨g, cap, h2, h4⟩)
    · rw [List.concat_eq_append] at h4
      rw [h2, h4] at h1
      rw [h4, List.length_append, List.length_singleton] at h2 h5
      have hx : (P ++ [x])[P.length]? = some x := by simp
      exact .inr (.inr ⟨g, cap, P.length, P, x, h2, h4, rfl, by omega, h1.cell spanC_len hx (j := 0) (by omega) rfl, h1.cell spanC_len hx (j := 1) (by omega) rfl, (h.m.at t).2.1 g (by rw [h2]; rfl)⟩)
set_option maxRecDepth 100000 in
set_option maxHeartbeats 1600000 in
theorem last_any (h : StMem w s O U M MO MU F lm lo lu wm) (t : Tup) : Calls Tryz.prog 87 #[.pointer (some ⟨s, 0, none⟩), .agg (tupC t).toArray] w fun e w' => e = .returned (.int .i64 (lastOf (aget (smc lm) t))) ∧ Below w.heap.size w w' := by
  obtain ⟨t0, t1, t2⟩ := t
  obtain ⟨K, hK⟩ : ∃ K, w.heap.size = K := ⟨_, rfl⟩
  obtain ⟨v, hv⟩ : ∃ v, slv lm (t0, t1, t2) = v := ⟨_, rfl⟩
  obtain ⟨L, hL⟩ : ∃ L, aget (smc lm) (t0, t1, t2) = L := ⟨_, rfl⟩
  obtain ⟨W1, hW1⟩ : ∃ W1, w.alloc (.cells #[.string t0, .string t1, .string t2] 41) = W1 := ⟨_, rfl⟩
  have m1 : Mod (fun _ => False) w W1 := by rw [← hW1]; exact (Mod.refl _ w).alloc _
  have hb1 : Below K w W1 := by rw [← hW1, ← hK]; exact (Below.refl _ w).alloc (Nat.le_refl _) _
  have hT1 : W1.heap[K]? = some (.cells #[.string t0, .string t1, .string t2] 41 (0, 0)) := by rw [← hW1, ← hK]; exact block_new w _
  have hcl := spans_last h (t0, t1, t2)
  have hlook : ∀ W : World, SlMap W M encT spanC 2 119 F lm → (Instr.lookup 104 (.map (some M)) (.agg #[.string t0, .string t1, .string t2]) false).run Tryz.prog W = .ok v W := fun W hW => by
    rw [← hv]
    exact hW.look keyTup Tryz.underlying104 (zeroSpans W) (t0, t1, t2)
  rw [hv, hL] at hcl
  rw [hL]
  have HH := Lib.hid (And.intro h (And.intro hlook (And.intro m1 (And.intro hb1 (And.intro hT1 (And.intro hK (h.m.mod m1 id (fun _ _ _ _ h => h))))))))
  have HC := Lib.hid hcl
  clear h hlook m1 hb1 hT1 hv hL hcl
  unfold tupC
  go_enter Tryz.func87, Tryz.ntmps87
  go_upto_region 1 with fail
  clear hW1 hK
  refine wp_region_held_drew (S := fun w' => Mod (fun _ => False) W1 w') (by kernel_rfl) ((Mod.refl _ W1).drew) (fun hS => ?_)
  refine takeD (i := 0) rfl (by kernel_rfl) (by kernel_rfl) (by kernel_rfl) (fun _ _ _ h => h) hS (Or.inl ⟨by rfl, fun w hSw => by go_simp; rfl⟩) ?_
  simp only [Act.put, List.setIfInBounds_toArray, List.set_cons_zero, List.set_cons_succ]
  refine takeD (i := 1) rfl (by kernel_rfl) (by kernel_rfl) (by kernel_rfl) (fun _ _ _ h => h) hS (Or.inl ⟨by rfl, fun w hSw => by go_simp; rfl⟩) ?_
  simp only [Act.put, List.setIfInBounds_toArray, List.set_cons_zero, List.set_cons_succ]
  refine takeD (i := 2) rfl (by kernel_rfl) (by kernel_rfl) (by kernel_rfl) (fun _ _ _ h => h) hS (Or.inl ⟨by rfl, fun w hSw => by go_simp; rfl⟩) ?_
  simp only [Act.put, List.setIfInBounds_toArray, List.set_cons_zero, List.set_cons_succ]
  refine takeD (i := 3) (v := (.map (some M))) rfl (by kernel_rfl) (by kernel_rfl) (by kernel_rfl) (fun _ _ _ h => h) hS (Or.inl ⟨by rfl, fun w hSw => by have c := cell_of (i := 0) (hSw.old (HH.out.2.2.1.old HH.out.1.hs id) id) rfl; go_simp⟩) ?_
  simp only [Act.put, List.setIfInBounds_toArray, List.set_cons_zero, List.set_cons_succ]
  refine takeD (i := 4) rfl (by kernel_rfl) (by kernel_rfl) (by kernel_rfl) (fun _ _ _ h => h) hS (yieldsIf_load_mid (by rfl) 41 (.tmp 3) rfl K 0 rfl ([.string t0, .string t1, .string t2]) _ (fun w hSw => row_range (hSw.old HH.out.2.2.2.2.1 id)) Tryz.underlying41 rfl infoTup0) ?_
  simp only [Act.put, List.setIfInBounds_toArray, List.set_cons_zero, List.set_cons_succ]
  refine takeD (i := 5) (v := v) rfl (by kernel_rfl) (by kernel_rfl) (by kernel_rfl) (fun _ _ _ h => h) hS (Or.inl ⟨by rfl, fun w hSw => by have c := HH.out.2.1 w (HH.out.2.2.2.2.2.2.mod hSw id (fun _ _ _ _ h => h)); go_simp⟩) ?_
  simp only [Act.put, List.setIfInBounds_toArray, List.set_cons_zero, List.set_cons_succ]
  refine takeD (i := 6) rfl (by kernel_rfl) (by kernel_rfl) (by kernel_rfl) (fun _ _ _ h => h) hS (Or.inl ⟨by rfl, fun w hSw => by go_simp; rfl⟩) ?_
  simp only [Act.put, List.setIfInBounds_toArray, List.set_cons_zero, List.set_cons_succ]
  refine wpAnyH_done (by kernel_rfl) ?_ _
  rcases HC.out with ⟨rfl, rfl⟩ | ⟨g, cap, rfl, rfl⟩ | ⟨g, cap, n, P, x, rfl, rfl, hn, hnm, c0, c1, hg⟩
  · clear HC
    simp only [Exit.then]
    go_wp2
    go_ret
    exact ⟨rfl, HH.out.2.2.2.2.2.1 ▸ HH.out.2.2.2.1.drew⟩
  · clear HC
    simp only [Exit.then]
    go_wp2
    go_ret
    exact ⟨rfl, HH.out.2.2.2.2.2.1 ▸ HH.out.2.2.2.1.drew⟩
  · clear HC
    have hgl := HH.out.1.lt _ hg
    have c0' := (hS.cell (Nat.lt_of_lt_of_le hgl HH.out.2.2.1.size) id).trans ((HH.out.2.2.1.cell hgl id).trans c0)
    have c1' := (hS.cell (Nat.lt_of_lt_of_le hgl HH.out.2.2.1.size) id).trans ((HH.out.2.2.1.cell hgl id).trans c1)
    have hgl' := Nat.lt_of_lt_of_le (Nat.lt_of_lt_of_le hgl HH.out.2.2.1.size) hS.size
    have HG := Lib.hid (And.intro hn (And.intro hnm (And.intro c0 (And.intro c1 (And.intro hgl (And.intro c0' (And.intro c1' hgl')))))))
    clear hn hnm c0 c1 hg hgl c0' c1' hgl'
    simp only [Exit.then]
    go_upto_region 4 with fail
    generalize hW2 : W1.drew = W2 at *
    refine wp_region_held_drew (S := fun w' => Mod (fun _ => False) W2 w') (by kernel_rfl) ((Mod.refl _ W2).drew) (fun hS => ?_)
    refine takeD (i := 0) rfl (by kernel_rfl) (by kernel_rfl) (by kernel_rfl) (fun _ _ _ h => h) hS (Or.inl ⟨by rfl, fun w hSw => by go_simp; rfl⟩) ?_
    simp only [Act.put, List.setIfInBounds_toArray, List.set_cons_zero, List.set_cons_succ]
    refine takeD (i := 1) rfl (by kernel_rfl) (by kernel_rfl) (by kernel_rfl) (fun _ _ _ h => h) hS (Or.inl ⟨by rfl, fun w hSw => by go_simp; rfl⟩) ?_
    simp only [Act.put, List.setIfInBounds_toArray, List.set_cons_zero, List.set_cons_succ]
    refine takeD (i := 2) (v := (.int .i64 ((n : Int) + 1))) rfl (by kernel_rfl) (by kernel_rfl) (by kernel_rfl) (fun _ _ _ h => h) hS (Or.inl ⟨by rfl, fun w hSw => by go_simp⟩) ?_
    simp only [Act.put, List.setIfInBounds_toArray, List.set_cons_zero, List.set_cons_succ]
    refine takeD (i := 3) (v := (.int .i64 (n : Int))) rfl (by kernel_rfl) (by kernel_rfl) (by kernel_rfl) (fun _ _ _ h => h) hS (Or.inl ⟨by rfl, fun w hSw => by have e1 : (n : Int) + 1 - 1 = (n : Int) := (by omega); have e2 := HG.out.2.1; simp only [maxLen] at e2; go_simp; rw [IntKind.wrap_i64]; omega⟩) ?_
    simp only [Act.put, List.setIfInBounds_toArray, List.set_cons_zero, List.set_cons_succ]
    refine takeD (i := 4) (v := (.pointer (some ⟨g, n * 2, none⟩))) rfl (by kernel_rfl) (by kernel_rfl) (by kernel_rfl) (fun _ _ _ h => h) hS (Or.inl ⟨by rfl, fun w hSw => by have e1 : (n : Int) + 1 - 1 = (n : Int) := (by omega); have e2 := HG.out.2.1; simp only [maxLen] at e2; go_simp; exact fun h => absurd h (by omega)⟩) ?_
    simp only [Act.put, List.setIfInBounds_toArray, List.set_cons_zero, List.set_cons_succ]
    refine takeD (i := 5) (v := (.pointer (some ⟨g, n * 2 + 0, none⟩))) rfl (by kernel_rfl) (by kernel_rfl) (by kernel_rfl) (fun _ _ _ h => h) hS (Or.inl ⟨by rfl, fun w hSw => by go_simp⟩) ?_
    simp only [Act.put, List.setIfInBounds_toArray, List.set_cons_zero, List.set_cons_succ]
    refine takeD (i := 6) (v := (.int .i64 x.1)) rfl (by kernel_rfl) (by kernel_rfl) (by kernel_rfl) (fun _ _ _ h => h) hS (Or.inl ⟨by rfl, fun w hSw => by have c : w.cell? ⟨g, n * 2, none⟩ = _ := (hSw.cell HG.out.2.2.2.2.2.2.2 id).trans HG.out.2.2.2.2.2.1; go_simp⟩) ?_
    simp only [Act.put, List.setIfInBounds_toArray, List.set_cons_zero, List.set_cons_succ]
    refine takeD (i := 7) rfl (by kernel_rfl) (by kernel_rfl) (by kernel_rfl) (fun _ _ _ h => h) hS (Or.inl ⟨by rfl, fun w hSw => by go_simp; rfl⟩) ?_
    simp only [Act.put, List.setIfInBounds_toArray, List.set_cons_zero, List.set_cons_succ]
    refine takeD (i := 8) rfl (by kernel_rfl) (by kernel_rfl) (by kernel_rfl) (fun _ _ _ h => h) hS (Or.inl ⟨by rfl, fun w hSw => by go_simp; rfl⟩) ?_
    simp only [Act.put, List.setIfInBounds_toArray, List.set_cons_zero, List.set_cons_succ]
    refine takeD (i := 9) (v := (.int .i64 ((n : Int) + 1))) rfl (by kernel_rfl) (by kernel_rfl) (by kernel_rfl) (fun _ _ _ h => h) hS (Or.inl ⟨by rfl, fun w hSw => by go_simp⟩) ?_
    simp only [Act.put, List.setIfInBounds_toArray, List.set_cons_zero, List.set_cons_succ]
    refine takeD (i := 10) (v := (.int .i64 (n : Int))) rfl (by kernel_rfl) (by kernel_rfl) (by kernel_rfl) (fun _ _ _ h => h) hS (Or.inl ⟨by rfl, fun w hSw => by have e1 : (n : Int) + 1 - 1 = (n : Int) := (by omega); have e2 := HG.out.2.1; simp only [maxLen] at e2; go_simp; rw [IntKind.wrap_i64]; omega⟩) ?_
    simp only [Act.put, List.setIfInBounds_toArray, List.set_cons_zero, List.set_cons_succ]
    refine takeD (i := 11) (v := (.pointer (some ⟨g, n * 2, none⟩))) rfl (by kernel_rfl) (by kernel_rfl) (by kernel_rfl) (fun _ _ _ h => h) hS (Or.inl ⟨by rfl, fun w hSw => by have e1 : (n : Int) + 1 - 1 = (n : Int) := (by omega); have e2 := HG.out.2.1; simp only [maxLen] at e2; go_simp; exact fun h => absurd h (by omega)⟩) ?_
    simp only [Act.put, List.setIfInBounds_toArray, List.set_cons_zero, List.set_cons_succ]
    refine takeD (i := 12) (v := (.pointer (some ⟨g, n * 2 + 1, none⟩))) rfl (by kernel_rfl) (by kernel_rfl) (by kernel_rfl) (fun _ _ _ h => h) hS (Or.inl ⟨by rfl, fun w hSw => by go_simp⟩) ?_
    simp only [Act.put, List.setIfInBounds_toArray, List.set_cons_zero, List.set_cons_succ]
    refine takeD (i := 13) (v := (.int .i64 x.2)) rfl (by kernel_rfl) (by kernel_rfl) (by kernel_rfl) (fun _ _ _ h => h) hS (Or.inl ⟨by rfl, fun w hSw => by have c := (hSw.cell HG.out.2.2.2.2.2.2.2 id).trans HG.out.2.2.2.2.2.2.1; go_simp⟩) ?_
    simp only [Act.put, List.setIfInBounds_toArray, List.set_cons_zero, List.set_cons_succ]
    refine takeD (i := 14) (v := (.int .i64 (max x.1 x.2))) rfl (by kernel_rfl) (by kernel_rfl) (by kernel_rfl) (fun _ _ _ h => h) hS (Or.inl ⟨by rfl, fun w hSw => by go_simp⟩) ?_
    simp only [Act.put, List.setIfInBounds_toArray, List.set_cons_zero, List.set_cons_succ]
    refine takeD (i := 15) rfl (by kernel_rfl) (by kernel_rfl) (by kernel_rfl) (fun _ _ _ h => h) hS (Or.inl ⟨by rfl, fun w hSw => by go_simp; rfl⟩) ?_
    simp only [Act.put, List.setIfInBounds_toArray, List.set_cons_zero, List.set_cons_succ]
    refine wpAnyH_done (by kernel_rfl) ?_ _
    simp only [Exit.then]
    go_wp2
    go_ret
    refine ⟨?_, ?_⟩
    · rw [lastOf_snoc]; rfl
    · rw [HH.out.2.2.2.2.2.1]
      refine HH.out.2.2.2.1.trans (Below.trans (b := W2) ?_ ((Below.refl K W2).drew))
      rw [← hW2]
      exact (Below.refl K W1).drew
set_option maxRecDepth 100000 in
set_option maxHeartbeats 1600000 in
theorem there_any (h : StMem w s O U M MO MU F lm lo lu wm) (t : Tup) : Calls Tryz.prog 59 #[.pointer (some ⟨s, 0, none⟩), .agg (tupC t).toArray] w fun e w' => e = .returned (.bool (thereOf (aget (smc lm) t))) ∧ Below w.heap.size w w' := by
  obtain ⟨t0, t1, t2⟩ := t
  obtain ⟨K, hK⟩ : ∃ K, w.heap.size = K := ⟨_, rfl⟩
  obtain ⟨v, hv⟩ : ∃ v, slv lm (t0, t1, t2) = v := ⟨_, rfl⟩
  obtain ⟨L, hL⟩ : ∃ L, aget (smc lm) (t0, t1, t2) = L := ⟨_, rfl⟩
  obtain ⟨W1, hW1⟩ : ∃ W1, w.alloc (.cells #[.string t0, .string t1, .string t2] 41) = W1 := ⟨_, rfl⟩
  have m1 : Mod (fun _ => False) w W1 := by rw [← hW1]; exact (Mod.refl _ w).alloc _
  have hb1 : Below K w W1 := by rw [← hW1, ← hK]; exact (Below.refl _ w).alloc (Nat.le_refl _) _
  have hT1 : W1.heap[K]? = some (.cells #[.string t0, .string t1, .string t2] 41 (0, 0)) := by rw [← hW1, ← hK]; exact block_new w _
  have hcl := spans_last h (t0, t1, t2)
  have hlook : ∀ W : World, SlMap W M encT spanC 2 119 F lm → (Instr.lookup 104 (.map (some M)) (.agg #[.string t0, .string t1, .string t2]) false).run Tryz.prog W = .ok v W := fun W hW => by
    rw [← hv]
    exact hW.look keyTup Tryz.underlying104 (zeroSpans W) (t0, t1, t2)
  rw [hv, hL] at hcl
  rw [hL]
  have HH := Lib.hid (And.intro h (And.intro hlook (And.intro m1 (And.intro hb1 (And.intro hT1 (And.intro hK (h.m.mod m1 id (fun _ _ _ _ h => h))))))))
  have HC := Lib.hid hcl
  clear h hlook m1 hb1 hT1 hv hL hcl
  unfold tupC
  go_enter Tryz.func59, Tryz.ntmps59
  go_upto_region 1 with fail
  clear hW1 hK
  refine wp_region_held_drew (S := fun w' => Mod (fun _ => False) W1 w') (by kernel_rfl) ((Mod.refl _ W1).drew) (fun hS => ?_)
  refine takeD (i := 0) rfl (by kernel_rfl) (by kernel_rfl) (by kernel_rfl) (fun _ _ _ h => h) hS (Or.inl ⟨by rfl, fun w hSw => by go_simp; rfl⟩) ?_
  simp only [Act.put, List.setIfInBounds_toArray, List.set_cons_zero, List.set_cons_succ]
  refine takeD (i := 1) rfl (by kernel_rfl) (by kernel_rfl) (by kernel_rfl) (fun _ _ _ h => h) hS (Or.inl ⟨by rfl, fun w hSw => by go_simp; rfl⟩) ?_
  simp only [Act.put, List.setIfInBounds_toArray, List.set_cons_zero, List.set_cons_succ]
  refine takeD (i := 2) rfl (by kernel_rfl) (by kernel_rfl) (by kernel_rfl) (fun _ _ _ h => h) hS (Or.inl ⟨by rfl, fun w hSw => by go_simp; rfl⟩) ?_
  simp only [Act.put, List.setIfInBounds_toArray, List.set_cons_zero, List.set_cons_succ]
  refine takeD (i := 3) (v := (.map (some M))) rfl (by kernel_rfl) (by kernel_rfl) (by kernel_rfl) (fun _ _ _ h => h) hS (Or.inl ⟨by rfl, fun w hSw => by have c := cell_of (i := 0) (hSw.old (HH.out.2.2.1.old HH.out.1.hs id) id) rfl; go_simp⟩) ?_
  simp only [Act.put, List.setIfInBounds_toArray, List.set_cons_zero, List.set_cons_succ]
  refine takeD (i := 4) rfl (by kernel_rfl) (by kernel_rfl) (by kernel_rfl) (fun _ _ _ h => h) hS (yieldsIf_load_mid (by rfl) 41 (.tmp 3) rfl K 0 rfl ([.string t0, .string t1, .string t2]) _ (fun w hSw => row_range (hSw.old HH.out.2.2.2.2.1 id)) Tryz.underlying41 rfl infoTup0) ?_
  simp only [Act.put, List.setIfInBounds_toArray, List.set_cons_zero, List.set_cons_succ]
  refine takeD (i := 5) (v := v) rfl (by kernel_rfl) (by kernel_rfl) (by kernel_rfl) (fun _ _ _ h => h) hS (Or.inl ⟨by rfl, fun w hSw => by have c := HH.out.2.1 w (HH.out.2.2.2.2.2.2.mod hSw id (fun _ _ _ _ h => h)); go_simp⟩) ?_
  simp only [Act.put, List.setIfInBounds_toArray, List.set_cons_zero, List.set_cons_succ]
  refine takeD (i := 6) rfl (by kernel_rfl) (by kernel_rfl) (by kernel_rfl) (fun _ _ _ h => h) hS (Or.inl ⟨by rfl, fun w hSw => by go_simp; rfl⟩) ?_
  simp only [Act.put, List.setIfInBounds_toArray, List.set_cons_zero, List.set_cons_succ]
  refine wpAnyH_done (by kernel_rfl) ?_ _
  rcases HC.out with ⟨rfl, rfl⟩ | ⟨g, cap, rfl, rfl⟩ | ⟨g, cap, n, P, x, rfl, rfl, hn, hnm, c0, c1, hg⟩
  · clear HC
    simp only [Exit.then]
    go_wp2
    go_ret
    exact ⟨rfl, HH.out.2.2.2.2.2.1 ▸ HH.out.2.2.2.1.drew⟩
  · clear HC
    simp only [Exit.then]
    go_wp2
    go_ret
    exact ⟨rfl, HH.out.2.2.2.2.2.1 ▸ HH.out.2.2.2.1.drew⟩
  · clear HC
    have hgl := HH.out.1.lt _ hg
    have c0' := (hS.cell (Nat.lt_of_lt_of_le hgl HH.out.2.2.1.size) id).trans ((HH.out.2.2.1.cell hgl id).trans c0)
    have c1' := (hS.cell (Nat.lt_of_lt_of_le hgl HH.out.2.2.1.size) id).trans ((HH.out.2.2.1.cell hgl id).trans c1)
    have hgl' := Nat.lt_of_lt_of_le (Nat.lt_of_lt_of_le hgl HH.out.2.2.1.size) hS.size
    have HG := Lib.hid (And.intro hn (And.intro hnm (And.intro c0 (And.intro c1 (And.intro hgl (And.intro c0' (And.intro c1' hgl')))))))
    clear hn hnm c0 c1 hg hgl c0' c1' hgl'
    simp only [Exit.then]
    have c1 := HG.out.2.2.2.2.2.2.1
    have hm := HG.out.2.1
    simp only [maxLen] at hm
    have hwn : wrap64 (n : Int) = n := by unfold wrap64; omega
    go_wp2
    go_ret
    refine ⟨?_, ?_⟩
    · rw [thereOf_snoc]; simp [BEq.beq]
    · rw [HH.out.2.2.2.2.2.1]
      exact HH.out.2.2.2.1.drew
set_option maxRecDepth 100000 in
set_option maxHeartbeats 1600000 in
theorem readable_any (h : StMem w s O U M MO MU F lm lo lu wm) (rev : Int) : Calls Tryz.prog 61 #[.pointer (some ⟨s, 0, none⟩), .int .i64 rev] w fun e w' => e = .returned (.int .i64 (readA wm rev)) ∧ w' = w := by
  have c := cell_of (i := 3) h.hs rfl
  unfold readA
  go_enter Tryz.func61, Tryz.ntmps61
  go_wp2
  all_goals go_ret
  all_goals exact ⟨rfl, rfl⟩
set_option maxRecDepth 100000 in
set_option maxHeartbeats 1600000 in
theorem spanHas_any (w : World) (x : Span) (rev : Int) : Calls Tryz.prog 92 #[.agg (spanC x).toArray, .int .i64 rev] w fun e w' => e = .returned (.bool (hasS rev x)) ∧ Below w.heap.size w w' := by
  obtain ⟨a, b⟩ := x
  unfold spanC hasS
  go_enter Tryz.func92, Tryz.ntmps92
  go_wp2
  all_goals go_ret
  all_goals refine ⟨?_, (Below.refl _ w).alloc (Nat.le_refl _) _⟩
  all_goals congr 1
  all_goals (try simp [*])
  all_goals (try omega)
end
end Go.Proofs.YtojjnfhgldjgbaaGreatDoor.Store
end
section
namespace Go.Proofs
open Go.Shelf
def Tryz.lays219_ren : Go.Shelf.Ren := ⟨fun | 219 => 188 | 217 => 193 | 225 => 194 | 224 => 195 | 267 => 196 | 266 => 200 | 314 => 201 | n => n, fun | 9 => 9 | 3 => 3 | 4 => 4 | 5 => 5 | 46 => 150 | 146 => 239 | 51 => 181 | n => n, fun | 1 => 0 | n => n⟩
theorem Tryz.lays219 : Go.Proofs.Lays.n219 Tryz.prog Tryz.lays219_ren := {
  mixed := by kernel_rfl
  f217 := Tryz.func193.trans (congrArg some (by kernel_rfl))
  f219 := Tryz.func188.trans (congrArg some (by kernel_rfl))
  f224 := Tryz.func195.trans (congrArg some (by kernel_rfl))
  f225 := Tryz.func194.trans (congrArg some (by kernel_rfl))
  f266 := Tryz.func200.trans (congrArg some (by kernel_rfl))
  f267 := Tryz.func196.trans (congrArg some (by kernel_rfl))
  f314 := Tryz.func201.trans (congrArg some (by kernel_rfl))
  t3 := Tryz.underlying3
  a3 := Tryz.isAgg3
  z3 := Tryz.sizeOf3
  v3 := Tryz.zeroValue3
  t4 := Tryz.underlying4
  a4 := Tryz.isAgg4
  z4 := Tryz.sizeOf4
  v4 := Tryz.zeroValue4
  t5 := Tryz.underlying5
  a5 := Tryz.isAgg5
  z5 := Tryz.sizeOf5
  v5 := Tryz.zeroValue5
  t9 := Tryz.underlying9
  a9 := Tryz.isAgg9
  z9 := Tryz.sizeOf9
  v9 := Tryz.zeroValue9
  t46 := Tryz.underlying150
  a46 := Tryz.isAgg150
  z46 := Tryz.sizeOf150
  v46 := Tryz.zeroValue150
  t51 := Tryz.underlying181
  a51 := Tryz.isAgg181
  z51 := Tryz.sizeOf181
  v51 := Tryz.zeroValue181
  t146 := Tryz.underlying239
  a146 := Tryz.isAgg239
  z146 := Tryz.sizeOf239
  v146 := Tryz.zeroValue239
  g1 := by kernel_rfl }
open Go.RowKit Go.Lib in
/-- internal/stringslite.Index (what strings.Index calls) AT A substr OF ONE BYTE c: IT RETURNS 'Lib.indexByte s c'; the world is as it was. (LAID: no walk: one application.) -/
theorem Tryz.stringslite_Index_one (s : ByteArray) (c : UInt8) (w : World) :
    Calls Tryz.prog 188 #[.string s, .string ⟨#[c]⟩] w fun e w' => e = .returned (.int .i64 (Lib.indexByte s.data.toList c)) ∧ w' = w := Any.stringslite_Index_one Tryz.lays219 s c w
def Tryz.lays160_ren : Go.Shelf.Ren := ⟨fun | 160 => 150 | 232 => 175 | 231 => 174 | 227 => 176 | 234 => 178 | 233 => 177 | 236 => 180 | 235 => 179 | 228 => 189 | 271 => 192 | 151 => 191 | 197 => 190 | 120 => 199 | 152 => 198 | 260 => 197 | 137 => 202 | 119 => 203 | 224 => 195 | 225 => 194 | 217 => 193 | 266 => 200 | n => n, fun | 9 => 9 | 4 => 4 | 3 => 3 | 5 => 5 | 117 => 222 | 116 => 221 | 0 => 0 | 124 => 225 | 21 => 21 | 105 => 234 | 46 => 150 | 119 => 241 | 139 => 244 | 138 => 243 | n => n, fun | 3 => 1 | 4 => 2 | n => n⟩
theorem Tryz.lays160 : Go.Proofs.Lays.n160 Tryz.prog Tryz.lays160_ren := {
  mixed := by kernel_rfl
  f119 := Tryz.func203.trans (congrArg some (by kernel_rfl))
  f120 := Tryz.func199.trans (congrArg some (by kernel_rfl))
  f137 := Tryz.func202.trans (congrArg some (by kernel_rfl))
  f151 := Tryz.func191.trans (congrArg some (by kernel_rfl))
  f152 := Tryz.func198.trans (congrArg some (by kernel_rfl))
  f160 := Tryz.func150.trans (congrArg some (by kernel_rfl))
  f197 := Tryz.func190.trans (congrArg some (by kernel_rfl))
  f217 := Tryz.func193.trans (congrArg some (by kernel_rfl))
  f224 := Tryz.func195.trans (congrArg some (by kernel_rfl))
  f225 := Tryz.func194.trans (congrArg some (by kernel_rfl))
  f227 := Tryz.func176.trans (congrArg some (by kernel_rfl))
  f228 := Tryz.func189.trans (congrArg some (by kernel_rfl))
  f231 := Tryz.func174.trans (congrArg some (by kernel_rfl))
  f232 := Tryz.func175.trans (congrArg some (by kernel_rfl))
  f233 := Tryz.func177.trans (congrArg some (by kernel_rfl))
  f234 := Tryz.func178.trans (congrArg some (by kernel_rfl))
  f235 := Tryz.func179.trans (congrArg some (by kernel_rfl))
  f236 := Tryz.func180.trans (congrArg some (by kernel_rfl))
  f260 := Tryz.func197.trans (congrArg some (by kernel_rfl))
  f266 := Tryz.func200.trans (congrArg some (by kernel_rfl))
  f271 := Tryz.func192.trans (congrArg some (by kernel_rfl))
  t0 := Tryz.underlying0
  a0 := Tryz.isAgg0
  z0 := Tryz.sizeOf0
  v0 := Tryz.zeroValue0
  t3 := Tryz.underlying3
  a3 := Tryz.isAgg3
  z3 := Tryz.sizeOf3
  v3 := Tryz.zeroValue3
  t4 := Tryz.underlying4
  a4 := Tryz.isAgg4
  z4 := Tryz.sizeOf4
  v4 := Tryz.zeroValue4
  t5 := Tryz.underlying5
  a5 := Tryz.isAgg5
  z5 := Tryz.sizeOf5
  v5 := Tryz.zeroValue5
  t9 := Tryz.underlying9
  a9 := Tryz.isAgg9
  z9 := Tryz.sizeOf9
  v9 := Tryz.zeroValue9
  t21 := Tryz.underlying21
  a21 := Tryz.isAgg21
  z21 := Tryz.sizeOf21
  v21 := Tryz.zeroValue21
  t46 := Tryz.underlying150
  a46 := Tryz.isAgg150
  z46 := Tryz.sizeOf150
  v46 := Tryz.zeroValue150
  t105 := Tryz.underlying234
  a105 := Tryz.isAgg234
  z105 := Tryz.sizeOf234
  v105 := Tryz.zeroValue234
  t116 := Tryz.underlying221
  a116 := Tryz.isAgg221
  z116 := Tryz.sizeOf221
  t117 := Tryz.underlying222
  a117 := Tryz.isAgg222
  z117 := Tryz.sizeOf222
  v117 := Tryz.zeroValue222
  t119 := Tryz.underlying241
  a119 := Tryz.isAgg241
  z119 := Tryz.sizeOf241
  t124 := Tryz.underlying225
  a124 := Tryz.isAgg225
  z124 := Tryz.sizeOf225
  v124 := Tryz.zeroValue225
  t138 := Tryz.underlying243
  a138 := Tryz.isAgg243
  z138 := Tryz.sizeOf243
  v138 := Tryz.zeroValue243
  t139 := Tryz.underlying244
  a139 := Tryz.isAgg244
  z139 := Tryz.sizeOf244
  v139 := Tryz.zeroValue244
  g3 := by kernel_rfl
  g4 := by kernel_rfl }
open Go.RowKit Go.Lib in
theorem Tryz.strings_Trim (s cutset : ByteArray) (w : World) (hs : s.size ≤ 9223372036854775807) (hcs : cutset.size < 4294967281) (hascii : ∀ (j : Nat) b, cutset.data.toList[j]? = some b → b.toNat < 128) :
    Calls Tryz.prog 150 #[.string s, .string cutset] w fun e w' => e = .returned (.string ⟨(Lib.trimS s.data.toList cutset.data.toList).toArray⟩) ∧ Below w.heap.size w w' := Any.strings_Trim_laid Tryz.lays160 (by kernel_rfl) s cutset w hs hcs hascii
def Tryz.laysSortRow_ren : Go.Shelf.Ren := ⟨fun | 6 => 63 | 15 => 82 | 14 => 93 | 28 => 120 | 29 => 121 | 20 => 109 | 21 => 130 | 22 => 131 | 23 => 132 | 24 => 133 | 25 => 134 | 26 => 135 | 27 => 136 | 46 => 165 | 47 => 158 | 48 => 159 | 49 => 166 | 50 => 167 | 57 => 186 | n => n, fun | 22 => 24 | 24 => 63 | 25 => 95 | 3 => 3 | 39 => 150 | 0 => 0 | 53 => 181 | 55 => 183 | 4 => 4 | 46 => 175 | 45 => 174 | 50 => 90 | 5 => 5 | 9 => 9 | 66 => 206 | 70 => 210 | 76 => 227 | 77 => 228 | n => n, fun | n => n⟩
theorem Tryz.laysSortRow : Go.Proofs.SlLaysF0.n6 Tryz.prog Tryz.laysSortRow_ren := {
  mixed := by kernel_rfl
  f6 := ⟨Tryz.f63.name, by decide, Tryz.func63.trans (congrArg some (by kernel_rfl))⟩
  f14 := ⟨Tryz.f93.name, by decide, Tryz.func93.trans (congrArg some (by kernel_rfl))⟩
  f15 := Tryz.func82.trans (congrArg some (by kernel_rfl))
  f20 := ⟨Tryz.f109.name, by decide, Tryz.func109.trans (congrArg some (by kernel_rfl))⟩
  f21 := ⟨Tryz.f130.name, by decide, Tryz.func130.trans (congrArg some (by kernel_rfl))⟩
  f22 := ⟨Tryz.f131.name, by decide, Tryz.func131.trans (congrArg some (by kernel_rfl))⟩
  f23 := ⟨Tryz.f132.name, by decide, Tryz.func132.trans (congrArg some (by kernel_rfl))⟩
  f24 := ⟨Tryz.f133.name, by decide, Tryz.func133.trans (congrArg some (by kernel_rfl))⟩
  f25 := ⟨Tryz.f134.name, by decide, Tryz.func134.trans (congrArg some (by kernel_rfl))⟩
  f26 := ⟨Tryz.f135.name, by decide, Tryz.func135.trans (congrArg some (by kernel_rfl))⟩
  f27 := ⟨Tryz.f136.name, by decide, Tryz.func136.trans (congrArg some (by kernel_rfl))⟩
  f28 := Tryz.func120.trans (congrArg some (by kernel_rfl))
  f29 := Tryz.func121.trans (congrArg some (by kernel_rfl))
  f46 := ⟨Tryz.f165.name, by decide, Tryz.func165.trans (congrArg some (by kernel_rfl))⟩
  f47 := Tryz.func158.trans (congrArg some (by kernel_rfl))
  f48 := Tryz.func159.trans (congrArg some (by kernel_rfl))
  f49 := ⟨Tryz.f166.name, by decide, Tryz.func166.trans (congrArg some (by kernel_rfl))⟩
  f50 := ⟨Tryz.f167.name, by decide, Tryz.func167.trans (congrArg some (by kernel_rfl))⟩
  f57 := ⟨Tryz.f186.name, by decide, Tryz.func186.trans (congrArg some (by kernel_rfl))⟩
  t0 := Tryz.underlying0
  a0 := Tryz.isAgg0
  z0 := Tryz.sizeOf0
  v0 := Tryz.zeroValue0
  t3 := Tryz.underlying3
  a3 := Tryz.isAgg3
  z3 := Tryz.sizeOf3
  v3 := Tryz.zeroValue3
  t4 := Tryz.underlying4
  a4 := Tryz.isAgg4
  z4 := Tryz.sizeOf4
  v4 := Tryz.zeroValue4
  t5 := Tryz.underlying5
  a5 := Tryz.isAgg5
  z5 := Tryz.sizeOf5
  v5 := Tryz.zeroValue5
  t9 := Tryz.underlying9
  a9 := Tryz.isAgg9
  z9 := Tryz.sizeOf9
  v9 := Tryz.zeroValue9
  t22 := Tryz.underlying24
  a22 := Tryz.isAgg24
  z22 := Tryz.sizeOf24
  v22 := Tryz.zeroValue24
  t25 := Tryz.underlying95
  a25 := Tryz.isAgg95
  z25 := Tryz.sizeOf95
  v25 := Tryz.zeroValue95
  t39 := Tryz.underlying150
  a39 := Tryz.isAgg150
  z39 := Tryz.sizeOf150
  v39 := Tryz.zeroValue150
  t45 := Tryz.underlying174
  a45 := Tryz.isAgg174
  z45 := Tryz.sizeOf174
  v45 := Tryz.zeroValue174
  t46 := Tryz.underlying175
  a46 := Tryz.isAgg175
  z46 := Tryz.sizeOf175
  v46 := Tryz.zeroValue175
  t50 := Tryz.underlying90
  a50 := Tryz.isAgg90
  z50 := Tryz.sizeOf90
  v50 := Tryz.zeroValue90
  t53 := Tryz.underlying181
  a53 := Tryz.isAgg181
  z53 := Tryz.sizeOf181
  v53 := Tryz.zeroValue181
  t55 := Tryz.underlying183
  a55 := Tryz.isAgg183
  z55 := Tryz.sizeOf183
  v55 := Tryz.zeroValue183
  t66 := Tryz.underlying206
  a66 := Tryz.isAgg206
  z66 := Tryz.sizeOf206
  v66 := Tryz.zeroValue206
  t70 := Tryz.underlying210
  a70 := Tryz.isAgg210
  z70 := Tryz.sizeOf210
  v70 := Tryz.zeroValue210
  t76 := Tryz.underlying227
  a76 := Tryz.isAgg227
  z76 := Tryz.sizeOf227
  v76 := Tryz.zeroValue227
  t77 := Tryz.underlying228
  a77 := Tryz.isAgg228
  z77 := Tryz.sizeOf228
  v77 := Tryz.zeroValue228 }
end Go.Proofs
end
