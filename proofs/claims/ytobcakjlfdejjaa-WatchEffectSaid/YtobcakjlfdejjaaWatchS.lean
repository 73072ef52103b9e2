/- slices.SortFunc over tuples and over mutations. -/
import Derived.Test.YtobcakjlfdejjaaWatchO
set_option linter.unusedVariables false
set_option linter.unusedSimpArgs false
namespace Go.Proofs.Ytobcakjlfdejjaa.Watch
open Go.RowKit Go.Por Go.Sort

def tle (x y : Tup) : Bool := !(ltOf tcmp) y x
theorem tle_iff (x y : Tup) : tle x y = true ↔ ¬ tlt y x := by
  unfold tle
  cases h : ltOf tcmp y x with
  | false =>
    simp only [Bool.not_false, true_iff]
    exact fun k => by rw [(tupLt y x).2 k] at h; cases h
  | true =>
    simp only [Bool.not_true, Bool.false_eq_true, false_iff]
    exact fun k => k ((tupLt y x).1 h)
theorem aggTup : ∀ w, (isAgg 37).run Try.prog w = .ok true w := fun w => by kernel_rfl
theorem sizeTup : ∀ w, (Go.sizeOf 37).run Try.prog w = .ok 3 w := fun w => by kernel_rfl
theorem tupC_one (x : Tup) : ∀ v ∈ tupC x, v.oneCell' = true := by
  intro v hv
  simp only [tupC, List.mem_cons, List.not_mem_nil, or_false] at hv
  rcases hv with rfl | rfl | rfl <;> rfl
/-- The tuples are sorted in place (a nil slice is left). -/
theorem sort_tup {w : World} {v : Value} {l : List Tup} (h : OwnS tupC 3 w 37 v l) (hl : l.length < 4611686018427387904) :
    Calls Try.prog 30 #[v, .func (.func 31) #[] #[]] w fun e w' =>
      e = .returned (.tuple #[]) ∧ OwnS tupC 3 w' 37 v (l.mergeSort tle) ∧ Mod (fun x => some x = v.ownBlock) w w' := by
  rcases h.form with ⟨rfl, rfl⟩ | ⟨g, cap, rfl, hc1, hc2⟩
  · refine (AnyF.slices_SortFunc_none Try.laysSortTuple none 0 _ w).mono ?_
    rintro e w' ⟨he, rfl⟩
    exact ⟨he, by simpa using h, Mod.refl _ _⟩
  · have eg : ∀ args w, (callFunc 31 args).run Try.prog w = .ok (.enter 31 args) w := enters_of Try.func31 (by kernel_rfl) rfl
    have hcon := AnyQ.slices_SortFunc_total Try.laysSortTuple 3 aggTup sizeTup tupC tupC_len tupC_one tcmp tupSwo 31 #[] g 0 cap l.toArray w eg (fun _ _ _ _ x y => compare_any x y _) (h.holds tupC_len) h.lt (by simpa using hl) tupTotal
    refine hcon.mono ?_
    rintro e w' ⟨he, n, os, rfl⟩
    have := h.sorted tupC_len (l' := l.mergeSort tle) (List.mergeSort_perm _ _).length_eq n os
    exact ⟨he, this.1, this.2.mono (fun x _ hx => by rw [show x = g from hx]; rfl)⟩
end Go.Proofs.Ytobcakjlfdejjaa.Watch
