/- WatchEmpty, plain. -/
import Derived.Test.YtobcakjlfdejjaaNetX
set_option linter.unusedVariables false
set_option linter.unusedSimpArgs false
namespace Go.Proofs.Ytobcakjlfdejjaa.Watch
open Go.RowKit Go.Por Go.Sort

theorem outL_none (rows : List RowT) (fr up : Int) (h : up ≤ fr) : outL fr up rows = [] := by
  have ha : ∀ rev del x, addL fr up rev del x = [] := fun rev del x => if_neg (fun ⟨h1, h2⟩ => by omega)
  unfold outL
  rw [List.flatMap_eq_nil_iff]
  intro r _
  unfold rowAdd
  split
  · rfl
  · rw [ha, ha]
    split <;> rfl
theorem stab_nil {α : Type} {lt : α → α → Bool} (h : SWO lt) {l : List α} (hs : Stab.Stab lt [] l) : l = [] := by
  cases l with
  | nil => rfl
  | cons x l => exact absurd ((hs.mem h x).1 (by simp)) (by simp)
theorem tle_trans {x y z : Tup} (h1 : tle x y = true) (h2 : tle y z = true) : tle x z = true := by
  unfold tle at *
  simp only [Bool.not_eq_true'] at *
  exact tupSwo.ntrans _ _ _ h2 h1
theorem tle_total (x y : Tup) : (tle x y || tle y x) = true := by
  unfold tle
  cases h1 : ltOf tcmp y x with
  | false => rfl
  | true => rw [Stab.SWO.asymm' tupSwo h1]; rfl
theorem tle_anti {x y : Tup} (h1 : tle x y = true) (h2 : tle y x = true) : x = y := by
  unfold tle at *
  simp only [Bool.not_eq_true'] at *
  exact tupTotal x y h2 h1
/-- Of a sorted list the compact one is sorted, without repetitions. -/
theorem compactP_sorted : ∀ (l : List Tup) (p : Option Tup), l.Pairwise (fun x y => tle x y = true) → (∀ q, p = some q → ∀ x ∈ l, tle q x = true) →
    (compactP p l).Pairwise (fun x y => tle x y = true ∧ x ≠ y) ∧ (∀ x ∈ compactP p l, x ∈ l ∧ ∀ q, p = some q → x ≠ q)
  | [], p, _, _ => by simp [compactP]
  | y :: l, p, hs, hp => by
    obtain ⟨h1, h2⟩ := List.pairwise_cons.1 hs
    have ih := compactP_sorted l (some y) h2 (fun q hq x hx => by cases hq; exact h1 x hx)
    rw [compactP]
    by_cases hy : p = some y
    · rw [if_pos hy, List.nil_append]
      refine ⟨ih.1, fun x hx => ⟨List.mem_cons_of_mem _ (ih.2 x hx).1, fun q hq => ?_⟩⟩
      rw [hy] at hq
      cases hq
      exact (ih.2 x hx).2 y rfl
    · rw [if_neg hy]
      refine ⟨List.pairwise_append.2 ⟨List.pairwise_singleton _ _, ih.1, fun a ha b hb => ?_⟩, fun x hx => ?_⟩
      · rw [List.mem_singleton.1 ha]
        exact ⟨h1 b (ih.2 b hb).1, fun e => (ih.2 b hb).2 y rfl e.symm⟩
      · rcases List.mem_append.1 hx with hx | hx
        · rw [List.mem_singleton.1 hx]
          exact ⟨List.mem_cons_self, fun q hq e => hy (by rw [hq, e])⟩
        · refine ⟨List.mem_cons_of_mem _ (ih.2 x hx).1, fun q hq e => ?_⟩
          have hqy := hp q hq y List.mem_cons_self
          have hyx := h1 x (ih.2 x hx).1
          rw [e] at hyx
          have hyq := tle_anti hyx hqy
          exact (ih.2 x hx).2 y rfl (e.trans hyq.symm)
/-- A list of tuples in order, each once. -/
def Rising (l : List Tup) : Prop := l.Pairwise (fun x y => tle x y = true ∧ x ≠ y)
theorem atL_rising (rows : List RowT) (rev : Int) : Rising (atL rows rev) :=
  (compactP_sorted ((thereL rows rev).mergeSort tle) none (List.pairwise_mergeSort (le := tle) (fun a b c h k => tle_trans h k) tle_total (thereL rows rev)) (fun q h => by cases h)).1
theorem Rising.nodup {l : List Tup} (h : Rising l) : l.Nodup := List.Pairwise.imp (R := fun x y => tle x y = true ∧ x ≠ y) (S := fun x y => x ≠ y) (fun h => h.2) h
theorem Rising.sorted {l : List Tup} (h : Rising l) : l.Pairwise (fun x y => tle x y = true) := List.Pairwise.imp (R := fun x y => tle x y = true ∧ x ≠ y) (S := fun x y => tle x y = true) (fun h => h.1) h
theorem kput_nodup : ∀ (l ks : List Tup), (ks ++ l).Nodup → l.foldl kput ks = ks ++ l
  | [], ks, _ => by simp
  | x :: l, ks, h => by
    have hx : x ∉ ks := fun hk => by
      have := (List.nodup_append.1 h).2.2 x hk x List.mem_cons_self
      exact this rfl
    have e : kput ks x = ks ++ [x] := by unfold kput kputG; rw [if_neg hx]
    rw [List.foldl_cons, e, kput_nodup l (ks ++ [x]) (by simpa using h)]
    simp
theorem playL_rising {l : List Tup} (h : Rising l) : playL l [] = l := by
  unfold playL playK
  rw [List.foldl_nil, kput_nodup l [] (by simpa using h.nodup), List.nil_append]
  exact List.mergeSort_of_pairwise h.sorted
theorem netU_same (l : List Tup) : netU l l = [] := by
  have : ∀ d, outOf d l l = [] := fun d => by
    unfold outOf
    rw [List.map_eq_nil_iff, List.filter_eq_nil_iff]
    intro x hx
    simp [tin_iff.2 hx]
  unfold netU
  rw [this, this]
  rfl
end Go.Proofs.Ytobcakjlfdejjaa.Watch
