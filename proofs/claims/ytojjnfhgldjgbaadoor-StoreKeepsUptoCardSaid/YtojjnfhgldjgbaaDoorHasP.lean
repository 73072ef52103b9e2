/- Has. -/
import Derived.Test.YtojjnfhgldjgbaaDoorAtP
set_option linter.unusedVariables false
set_option linter.unusedSimpArgs false
namespace Go.Proofs.YtojjnfhgldjgbaaDoor.Store
open Go.RowKit Go.Por Go.Sort Go.Proofs.YtojjnfhgldjgbaaDoor.Watch
section
variable {w : World} {s O U M MO MU : Nat} {F : Nat → Prop} {lm : List (Tup × (Value × List Span))} {lo : List (PairT × (Value × List Tup))} {lu : List (ByteArray × (Value × List Tup))} {wm : Int}
theorem StMem.below {w' : World} (h : StMem w s O U M MO MU F lm lo lu wm) (hb : Below w.heap.size w w') : StMem w' s O U M MO MU F lm lo lu wm := h.mod (Mod.of_below hb (fun _ => False)) (fun _ _ h => h)
set_option maxRecDepth 100000 in
set_option maxHeartbeats 800000 in
theorem has_mem (h : StMem w s O U M MO MU F lm lo lu wm) (t : Tup) (rev : Int) (hlen : (aget (smc lm) t).length ≤ 1099511627776) : Calls Tryd.prog 11 #[.pointer (some ⟨s, 0, none⟩), .agg (tupC t).toArray, .int .i64 rev] w fun e w' => e = .returned (.tuple #[.bool (decide (readA wm rev = 0) && atA (smc lm) t rev), .int .i64 (readA wm rev)]) ∧ Below w.heap.size w w' := by
  obtain ⟨t0, t1, t2⟩ := t
  have HH := Lib.hid (And.intro h hlen)
  clear h hlen
  have har : ∀ W, StMem W s O U M MO MU F lm lo lu wm → Calls Tryd.prog 21 #[.pointer (some ⟨s, 0, none⟩), .int .i64 rev] W fun e w' => e = .returned (.int .i64 (readA wm rev)) ∧ w' = W := fun W hW => readable_any hW rev
  have hat : ∀ W, StMem W s O U M MO MU F lm lo lu wm → Calls Tryd.prog 22 #[.pointer (some ⟨s, 0, none⟩), .agg #[.string t0, .string t1, .string t2], .int .i64 rev] W fun e w' => e = .returned (.bool (atA (smc lm) (t0, t1, t2) rev)) ∧ Below W.heap.size W w' := fun W hW => at_any hW (t0, t1, t2) rev HH.out.2
  obtain ⟨q, hq⟩ : ∃ q, readA wm rev = q := ⟨_, rfl⟩
  obtain ⟨b, hb⟩ : ∃ b, atA (smc lm) (t0, t1, t2) rev = b := ⟨_, rfl⟩
  rw [hq] at har ⊢
  rw [hb] at hat ⊢
  have HC := Lib.hid (And.intro har hat)
  clear har hat hq hb
  unfold tupC
  go_enter Tryd.func11, Tryd.ntmps11
  go_wp2_with fail
  have hb1 : Below w.heap.size w (w.alloc (.cells #[.string t0, .string t1, .string t2] 27)) := (Below.refl _ w).alloc (Nat.le_refl _) _
  have hm1 := HH.out.1.below hb1
  refine (HC.out.1 _ hm1).mono ?_
  rintro e w1 ⟨rfl, rfl⟩
  have H1 := Lib.hid (And.intro hb1 hm1)
  clear hb1 hm1
  by_cases h0 : q = 0
  · subst h0
    go_wp2_with fail
    refine (HC.out.2 _ H1.out.2).mono ?_
    rintro e w2 ⟨rfl, hb2⟩
    have H2 := Lib.hid hb2
    clear hb2
    go_wp2
    go_ret2
    refine ⟨?_, H1.out.1.trans (H2.out.mono (by rw [World.size_alloc]; omega))⟩
    simp
  · have h1 : (q == 0) = false := by simp [h0]
    go_wp2
    go_ret2
    refine ⟨?_, H1.out.1⟩
    simp [h0]
end
end Go.Proofs.YtojjnfhgldjgbaaDoor.Store
