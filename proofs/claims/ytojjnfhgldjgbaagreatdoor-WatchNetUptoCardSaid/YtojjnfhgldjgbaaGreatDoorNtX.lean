/- WatchNet, where what came in is of bulk at most 1048576: what leads from some tuples to others does so in a store, and n: part 24 of 32: what it leans on. -/
import Derived.Test.YtojjnfhgldjgbaaGreatDoorNtA
import Derived.Test.YtojjnfhgldjgbaaGreatDoorNtB
import Derived.Test.YtojjnfhgldjgbaaGreatDoorNtC
import Derived.Test.YtojjnfhgldjgbaaGreatDoorNtD
import Derived.Test.YtojjnfhgldjgbaaGreatDoorNtE
import Derived.Test.YtojjnfhgldjgbaaGreatDoorNtK
import Derived.Test.YtojjnfhgldjgbaaGreatDoorNtL
import Derived.Test.YtojjnfhgldjgbaaGreatDoorNtM
import Derived.Test.YtojjnfhgldjgbaaGreatDoorNtN
import Derived.Test.YtojjnfhgldjgbaaGreatDoorNtO
import Derived.Test.YtojjnfhgldjgbaaGreatDoorNtP
import Derived.Test.YtojjnfhgldjgbaaGreatDoorNtQ
import Derived.Test.YtojjnfhgldjgbaaGreatDoorNtR
import Derived.Test.YtojjnfhgldjgbaaGreatDoorNtS
import Derived.Test.YtojjnfhgldjgbaaGreatDoorNtT
import Derived.Test.YtojjnfhgldjgbaaGreatDoorNtU
import Derived.Test.YtojjnfhgldjgbaaGreatDoorNtV
import Derived.Test.YtojjnfhgldjgbaaGreatDoorNtW
section
set_option linter.unusedVariables false
set_option linter.unusedSimpArgs false
namespace Go.Proofs.YtojjnfhgldjgbaaGreatDoor.Watch
open Go.RowKit Go.Por Go.Sort

/-- Of a sorted list the compact one is sorted, without repetitions. -/
theorem compactP_sorted : ∀ (l : List Tup) (p : Option Tup), l.Pairwise (fun x y => tle x y = true) → (∀ q, p = some q → ∀ x ∈ l, tle q x = true) →
    (compactP p l).Pairwise (fun x y => tle x y = true ∧ x ≠ y) ∧ (∀ x ∈ compactP p l, x ∈ l ∧ ∀ q, p = some q → x ≠ q)
  | [], p, _, _ => by simp [compactP]
  | y :: l, p, hs, hp => by
    obtain ⟨h1, h2⟩ := List.pairwise_cons.1 hs
    have ih := compactP_sorted l (some y) h2 (fun q hq x hx => by cases hq; exact h1 x hx)
    rw [compactP]
    by_cases hy : p = some y
    · rw [if_pos hy, List.nil_append]
      refine ⟨ih.1, fun x hx => ⟨List.mem_cons_of_mem _ (ih.2 x hx).1, fun q hq => ?_⟩⟩
      rw [hy] at hq
      cases hq
      exact (ih.2 x hx).2 y rfl
    · rw [if_neg hy]
      refine ⟨List.pairwise_append.2 ⟨List.pairwise_singleton _ _, ih.1, fun a ha b hb => ?_⟩, fun x hx => ?_⟩
      · rw [List.mem_singleton.1 ha]
        exact ⟨h1 b (ih.2 b hb).1, fun e => (ih.2 b hb).2 y rfl e.symm⟩
      · rcases List.mem_append.1 hx with hx | hx
        · rw [List.mem_singleton.1 hx]
          exact ⟨List.mem_cons_self, fun q hq e => hy (by rw [hq, e])⟩
        · refine ⟨List.mem_cons_of_mem _ (ih.2 x hx).1, fun q hq e => ?_⟩
          have hqy := hp q hq y List.mem_cons_self
          have hyx := h1 x (ih.2 x hx).1
          rw [e] at hyx
          have hyq := tle_anti hyx hqy
          exact (ih.2 x hx).2 y rfl (e.trans hyq.symm)
/-- A list of tuples in order, each once. -/
def Rising (l : List Tup) : Prop := l.Pairwise (fun x y => tle x y = true ∧ x ≠ y)
theorem atL_rising (rows : List RowT) (rev : Int) : Rising (atL rows rev) :=
  (compactP_sorted ((thereL rows rev).mergeSort tle) none (List.pairwise_mergeSort (le := tle) (fun a b c h k => tle_trans h k) tle_total (thereL rows rev)) (fun q h => by cases h)).1
theorem Rising.nodup {l : List Tup} (h : Rising l) : l.Nodup := List.Pairwise.imp (R := fun x y => tle x y = true ∧ x ≠ y) (S := fun x y => x ≠ y) (fun h => h.2) h
theorem netU_same (l : List Tup) : netU l l = [] := by
  have : ∀ d, outOf d l l = [] := fun d => by
    unfold outOf
    rw [List.map_eq_nil_iff, List.filter_eq_nil_iff]
    intro x hx
    simp [tin_iff.2 hx]
  unfold netU
  rw [this, this]
  rfl
end Go.Proofs.YtojjnfhgldjgbaaGreatDoor.Watch
end
