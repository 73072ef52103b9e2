/- The store in memory. -/
import Derived.Test.YtojjnfhgldjgbaaDoorPutO
import Derived.Test.YtojjnfhgldjgbaaDoorPutU
import Derived.Test.YtojjnfhgldjgbaaDoorStoreP
set_option linter.unusedVariables false
set_option linter.unusedSimpArgs false
namespace Go.Proofs.YtojjnfhgldjgbaaDoor.Store
open Go.RowKit Go.Por Go.Sort Go.Proofs.YtojjnfhgldjgbaaDoor.Watch

def spanC (x : Span) : List Value := [.int .i64 x.1, .int .i64 x.2]
theorem spanC_len (x : Span) : (spanC x).length = 2 := rfl
theorem spanC_one (x : Span) : ∀ u ∈ spanC x, u.oneCell' = true := by
  intro v hv
  simp only [spanC, List.mem_cons, List.not_mem_nil, or_false] at hv
  rcases hv with rfl | rfl <;> rfl
theorem elemSpan : Elem Tryd.prog 53 56 spanC 2 16 :=
  Elem.mk' (z := .agg #[.int .i64 0, .int .i64 0]) Tryd.underlying53 (by kernel_rfl) rfl spanC_len spanC_one (by decide)
theorem infoSpan : (Tryd.prog.info? 56).map (·.size) = some 2 := by kernel_rfl
theorem zeroSpans (w : World) : (zeroValue 53).run Tryd.prog w = .ok (.slice none 0 0) w := by kernel_rfl
abbrev encS (s : ByteArray) : Value := .string s
/-- The blocks of a store. -/
structure StMem (w : World) (s O U M MO MU : Nat) (F : Nat → Prop) (lm : List (Tup × (Value × List Span))) (lo : List (PairT × (Value × List Tup))) (lu : List (ByteArray × (Value × List Tup))) (wm : Int) : Prop where
  hs : w.heap[s]? = some (.cells #[.map (some M), .pointer (some ⟨O, 0, none⟩), .pointer (some ⟨U, 0, none⟩), .int .i64 wm] 52 (0, 0))
  hO : w.heap[O]? = some (.cells #[.map (some MO)] 66 (0, 0))
  hU : w.heap[U]? = some (.cells #[.map (some MU)] 70 (0, 0))
  m : SlMap w M encT spanC 2 56 F lm
  o : SlMap w MO encP tupC 3 27 F lo
  u : SlMap w MU (fun s => .string s) tupC 3 27 F lu
  dis : ∀ e ∈ lo, ∀ e' ∈ lu, ∀ b, e.2.1.ownBlock = some b → e'.2.1.ownBlock ≠ some b
  ne1 : M ≠ MO
  ne2 : M ≠ MU
  ne3 : MO ≠ MU
  fs : F s
  fO : F O
  fU : F U
  fM : F M
  fMO : F MO
  fMU : F MU
  lt : ∀ b, F b → b < w.heap.size
def StoreIs (w : World) (s : Nat) (F : Nat → Prop) (sp : Sp) (ob : List (PairT × List Tup)) (us : List (ByteArray × List Tup)) (wm : Int) : Prop :=
  ∃ O U M MO MU lm lo lu, StMem w s O U M MO MU F lm lo lu wm ∧ smc lm = sp ∧ smc lo = ob ∧ smc lu = us
theorem StMem.mod {w w' : World} {s O U M MO MU : Nat} {F S : Nat → Prop} {lm : List (Tup × (Value × List Span))} {lo : List (PairT × (Value × List Tup))} {lu : List (ByteArray × (Value × List Tup))} {wm : Int}
    (h : StMem w s O U M MO MU F lm lo lu wm) (hm : Mod S w w') (hS : ∀ b, F b → ¬ S b) : StMem w' s O U M MO MU F lm lo lu wm :=
  ⟨hm.old h.hs (hS _ h.fs), hm.old h.hO (hS _ h.fO), hm.old h.hU (hS _ h.fU), h.m.mod hm (hS _ h.fM) (fun e he b hb => hS _ (h.m.foot e he b hb)), h.o.mod hm (hS _ h.fMO) (fun e he b hb => hS _ (h.o.foot e he b hb)), h.u.mod hm (hS _ h.fMU) (fun e he b hb => hS _ (h.u.foot e he b hb)), h.dis, h.ne1, h.ne2, h.ne3, h.fs, h.fO, h.fU, h.fM, h.fMO, h.fMU, fun b hb => Nat.lt_of_lt_of_le (h.lt b hb) hm.size⟩
theorem StoreIs.mod {w w' : World} {s : Nat} {F S : Nat → Prop} {sp : Sp} {ob : List (PairT × List Tup)} {us : List (ByteArray × List Tup)} {wm : Int} (h : StoreIs w s F sp ob us wm) (hm : Mod S w w') (hS : ∀ b, F b → ¬ S b) : StoreIs w' s F sp ob us wm := by
  obtain ⟨O, U, M, MO, MU, lm, lo, lu, h, h1, h2, h3⟩ := h
  exact ⟨O, U, M, MO, MU, lm, lo, lu, h.mod hm hS, h1, h2, h3⟩
theorem StoreIs.lt {w : World} {s : Nat} {F : Nat → Prop} {sp : Sp} {ob : List (PairT × List Tup)} {us : List (ByteArray × List Tup)} {wm : Int} (h : StoreIs w s F sp ob us wm) : ∀ b, F b → b < w.heap.size := by
  obtain ⟨O, U, M, MO, MU, lm, lo, lu, h, _⟩ := h
  exact h.lt
theorem StoreIs.below {w w' : World} {s : Nat} {F : Nat → Prop} {sp : Sp} {ob : List (PairT × List Tup)} {us : List (ByteArray × List Tup)} {wm : Int} (h : StoreIs w s F sp ob us wm) (hb : Below w.heap.size w w') : StoreIs w' s F sp ob us wm :=
  h.mod (Mod.of_below hb (fun _ => False)) (fun _ _ h => h)

set_option maxRecDepth 100000 in
set_option maxHeartbeats 1600000 in
theorem newIndexO (w : World) : Calls Tryd.prog 13 #[] w fun e w' => ∃ m b, e = .returned (.pointer (some ⟨b, 0, none⟩)) ∧ w'.heap[m]? = some (.map #[] 0) ∧ w'.heap[b]? = some (.cells #[.map (some m)] 66 (0, 0)) ∧ w.heap.size ≤ m ∧ w.heap.size ≤ b ∧ b < w'.heap.size ∧ m < w'.heap.size ∧ Below w.heap.size w w' := by
  go_enter Tryd.func13, Tryd.ntmps13
  have hmm := @run_makeMap Tryd.prog
  go_wp2
  go_ret
  refine ⟨w.heap.size, w.heap.size + 1, rfl, block_alloc (block_new w _) _, ?_, by omega, by omega, ?_, ?_, ((Below.refl _ w).alloc (Nat.le_refl _) _).alloc (by simp) _⟩
  · have h1 := block_new (w.alloc (.map #[] 0)) (.cells #[.map (some w.heap.size)] 66)
    rwa [World.size_alloc] at h1
  · rw [World.size_alloc, World.size_alloc]; omega
  · rw [World.size_alloc, World.size_alloc]; omega
set_option maxRecDepth 100000 in
set_option maxHeartbeats 1600000 in
theorem newIndexU (w : World) : Calls Tryd.prog 14 #[] w fun e w' => ∃ m b, e = .returned (.pointer (some ⟨b, 0, none⟩)) ∧ w'.heap[m]? = some (.map #[] 0) ∧ w'.heap[b]? = some (.cells #[.map (some m)] 70 (0, 0)) ∧ w.heap.size ≤ m ∧ w.heap.size ≤ b ∧ b < w'.heap.size ∧ m < w'.heap.size ∧ Below w.heap.size w w' := by
  go_enter Tryd.func14, Tryd.ntmps14
  have hmm := @run_makeMap Tryd.prog
  go_wp2
  go_ret
  refine ⟨w.heap.size, w.heap.size + 1, rfl, block_alloc (block_new w _) _, ?_, by omega, by omega, ?_, ?_, ((Below.refl _ w).alloc (Nat.le_refl _) _).alloc (by simp) _⟩
  · have h1 := block_new (w.alloc (.map #[] 0)) (.cells #[.map (some w.heap.size)] 70)
    rwa [World.size_alloc] at h1
  · rw [World.size_alloc, World.size_alloc]; omega
  · rw [World.size_alloc, World.size_alloc]; omega
/-- An empty store's blocks. -/
theorem StoreIs.made {w w' : World} {s O U M MO MU : Nat} (hb : Below w.heap.size w w') (h1 : w'.heap[M]? = some (.map #[] 0)) (h2 : w'.heap[MO]? = some (.map #[] 0)) (h3 : w'.heap[MU]? = some (.map #[] 0))
    (h4 : w'.heap[O]? = some (.cells #[.map (some MO)] 66 (0, 0))) (h5 : w'.heap[U]? = some (.cells #[.map (some MU)] 70 (0, 0)))
    (h6 : w'.heap[s]? = some (.cells #[.map (some M), .pointer (some ⟨O, 0, none⟩), .pointer (some ⟨U, 0, none⟩), .int .i64 0] 52 (0, 0)))
    (n1 : M ≠ MO) (n2 : M ≠ MU) (n3 : MO ≠ MU) (l1 : w.heap.size ≤ M) (l2 : w.heap.size ≤ MO) (l3 : w.heap.size ≤ MU) (l4 : w.heap.size ≤ O) (l5 : w.heap.size ≤ U) (l6 : w.heap.size ≤ s) :
    StoreIs w' s (fun b => w.heap.size ≤ b ∧ b < w'.heap.size) [] [] [] 0 :=
  ⟨O, U, M, MO, MU, [], [], [], ⟨h6, h4, h5, ⟨⟨#[], 0, h1, rfl, List.nodup_nil, (fun e he => by cases he), List.nodup_nil⟩, fun e he => (by cases he), fun e he => (by cases he), fun e he => (by cases he)⟩, ⟨⟨#[], 0, h2, rfl, List.nodup_nil, (fun e he => by cases he), List.nodup_nil⟩, fun e he => (by cases he), fun e he => (by cases he), fun e he => (by cases he)⟩, ⟨⟨#[], 0, h3, rfl, List.nodup_nil, (fun e he => by cases he), List.nodup_nil⟩, fun e he => (by cases he), fun e he => (by cases he), fun e he => (by cases he)⟩,
    fun e he => (by cases he), n1, n2, n3, ⟨l6, lt_block h6⟩, ⟨l4, lt_block h4⟩, ⟨l5, lt_block h5⟩, ⟨l1, lt_block h1⟩, ⟨l2, lt_block h2⟩, ⟨l3, lt_block h3⟩, fun b hb => hb.2⟩, rfl, rfl, rfl⟩
set_option maxRecDepth 100000 in
set_option maxHeartbeats 1600000 in
/-- store.New. -/
theorem new_any (w : World) : Calls Tryd.prog 6 #[] w fun e w' => ∃ s, e = .returned (.pointer (some ⟨s, 0, none⟩)) ∧ StoreIs w' s (fun b => w.heap.size ≤ b ∧ b < w'.heap.size) [] [] [] 0 ∧ Below w.heap.size w w' := by
  go_enter Tryd.func6, Tryd.ntmps6
  have hmm := @run_makeMap Tryd.prog
  go_wp2_with (first | (go_at_call 13; refine (newIndexO _).mono ?_; rintro e w1 ⟨m1, b1, rfl, hm1, hb1, lm1, lb1, ub1, um1, below1⟩) | (go_at_call 14; refine (newIndexU _).mono ?_; rintro e w2 ⟨m2, b2, rfl, hm2, hb2, lm2, lb2, ub2, um2, below2⟩))
  go_ret
  clear hmm
  have m0 : Mod (fun _ => False) (w.alloc (.map #[] 0)) w1 := Mod.of_below below1 _
  have m1' : Mod (fun _ => False) w1 w2 := Mod.of_below below2 _
  have hs0 : (w.alloc (.map #[] 0)).heap.size = w.heap.size + 1 := by rw [World.size_alloc]
  have h0 := block_alloc (m1'.old (m0.old (block_new w (.map #[] 0)) id) id) (.cells #[.map (some w.heap.size), .pointer (some ⟨b1, 0, none⟩), .pointer (some ⟨b2, 0, none⟩), .int .i64 0] 52)
  refine ⟨w2.heap.size, rfl, StoreIs.made (M := w.heap.size) (MO := m1) (MU := m2) (O := b1) (U := b2) ?_ h0 (block_alloc (m1'.old hm1 id) _) (block_alloc hm2 _) (block_alloc (m1'.old hb1 id) _) (block_alloc hb2 _) (block_new w2 _) ?_ ?_ ?_ ?_ ?_ ?_ ?_ ?_ ?_, ?_⟩
  any_goals omega
  all_goals exact ((((Below.refl _ w).alloc (Nat.le_refl _) _).trans (below1.mono (by omega))).trans (below2.mono (by omega))).alloc (by omega) _
end Go.Proofs.YtojjnfhgldjgbaaDoor.Store
