/- StoreBoth, where what came in is of bulk at most 1048576: who has a relation, what a user has, and Has say the same: part 12 of 14: what it leans on. -/
import Derived.Test.YtojjnfhgldjgbaaGreatDoorBoA
import Derived.Test.YtojjnfhgldjgbaaGreatDoorBoB
import Derived.Test.YtojjnfhgldjgbaaGreatDoorBoC
import Derived.Test.YtojjnfhgldjgbaaGreatDoorBoD
import Derived.Test.YtojjnfhgldjgbaaGreatDoorBoE
section
set_option linter.unusedVariables false
set_option linter.unusedSimpArgs false
namespace Go.Proofs.YtojjnfhgldjgbaaGreatDoor.Watch
open Go.RowKit Go.Por Go.Sort

/-- The tuples are sorted in place (a nil slice is left). -/
theorem sort_tup {w : World} {v : Value} {l : List Tup} (h : OwnS tupC 3 w 41 v l) (hl : l.length < 4611686018427387904) :
    Calls Tryz.prog 46 #[v, .func (.func 44) #[] #[]] w fun e w' =>
      e = .returned (.tuple #[]) ∧ OwnS tupC 3 w' 41 v (l.mergeSort tle) ∧ Mod (fun x => some x = v.ownBlock) w w' := by
  rcases h.form with ⟨rfl, rfl⟩ | ⟨g, cap, rfl, hc1, hc2⟩
  · refine (AnyF.slices_SortFunc_none Tryz.laysSortTuple none 0 _ w).mono ?_
    rintro e w' ⟨he, rfl⟩
    exact ⟨he, by simpa using h, Mod.refl _ _⟩
  · have eg : ∀ args w, (callFunc 44 args).run Tryz.prog w = .ok (.enter 44 args) w := enters_of Tryz.func44 (by kernel_rfl) rfl
    have hcon := AnyQ.slices_SortFunc_total Tryz.laysSortTuple 3 aggTup sizeTup tupC tupC_len tupC_one tcmp tupSwo 44 #[] g 0 cap l.toArray w eg (fun _ _ _ _ x y => compare_any x y _) (h.holds tupC_len) h.lt (by simpa using hl) tupTotal
    refine hcon.mono ?_
    rintro e w' ⟨he, n, os, rfl⟩
    have := h.sorted tupC_len (l' := l.mergeSort tle) (List.mergeSort_perm _ _).length_eq n os
    exact ⟨he, this.1, this.2.mono (fun x _ hx => by rw [show x = g from hx]; rfl)⟩
end Go.Proofs.YtojjnfhgldjgbaaGreatDoor.Watch
end
