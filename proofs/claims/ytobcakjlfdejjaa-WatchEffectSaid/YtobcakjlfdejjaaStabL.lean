/- The orders of changes and rows are strict weak ones; laws of merging sorted parts. Plain. -/
import Derived.Test.YtobcakjlfdejjaaStab
import Derived.Test.YtobcakjlfdejjaaWatchN
import Derived.Sort.LotA
set_option linter.unusedVariables false
set_option linter.unusedSimpArgs false
namespace Go.Por.Stab
open Go.Sort Go.Proofs
section
variable {α : Type} {lt : α → α → Bool}
theorem lt_of_le_lt (h : SWO lt) {x y z : α} (h1 : lt y x = false) (h2 : lt y z = true) : lt x z = true := by
  cases k : lt x z with
  | true => rfl
  | false => rw [h.ntrans y x z h1 k] at h2; cases h2
theorem lt_of_lt_le (h : SWO lt) {x y z : α} (h1 : lt x y = true) (h2 : lt z y = false) : lt x z = true := by
  cases k : lt x z with
  | true => rfl
  | false => rw [h.ntrans x z y k h2] at h1; cases h1
theorem Sorted.at (h : SWO lt) {l : List α} (hs : Sorted lt l) {i j : Nat} {x y : α} (hi : l[i]? = some x) (hj : l[j]? = some y) (hij : i ≤ j) : lt y x = false := by
  obtain ⟨i1, rfl⟩ := List.getElem?_eq_some_iff.1 hi
  obtain ⟨j1, rfl⟩ := List.getElem?_eq_some_iff.1 hj
  rcases Nat.lt_or_eq_of_le hij with k | rfl
  · exact List.pairwise_iff_getElem.1 hs i j i1 j1 k
  · exact h.irrefl _
/-- What stands at or ahead of one that is less is less. -/
theorem Sorted.low (h : SWO lt) {l : List α} (hs : Sorted lt l) {k t : Nat} {y z x : α} (hk : l[k]? = some y) (hl : lt y x = true) (ht : l[t]? = some z) (htk : t ≤ k) : lt z x = true :=
  lt_of_le_lt h (hs.at h ht hk htk) hl
theorem Sorted.high (h : SWO lt) {l : List α} (hs : Sorted lt l) {k t : Nat} {y z x : α} (hk : l[k]? = some y) (hl : lt y x = false) (ht : l[t]? = some z) (htk : k ≤ t) : lt z x = false :=
  h.ntrans _ _ _ (hs.at h hk ht htk) hl
/-- What stands at or behind one that is greater is greater. -/
theorem Sorted.above (h : SWO lt) {l : List α} (hs : Sorted lt l) {k t : Nat} {y z x : α} (hk : l[k]? = some y) (hl : lt x y = true) (ht : l[t]? = some z) (htk : k ≤ t) : lt x z = true :=
  lt_of_lt_le h hl (hs.at h hk ht htk)
theorem Sorted.beneath (h : SWO lt) {l : List α} (hs : Sorted lt l) {k t : Nat} {y z x : α} (hk : l[k]? = some y) (hl : lt x y = false) (ht : l[t]? = some z) (htk : t ≤ k) : lt x z = false :=
  h.ntrans _ _ _ hl (hs.at h ht hk htk)
theorem SWO.asymm' (h : SWO lt) {x y : α} (hxy : lt x y = true) : lt y x = false := by
  cases k : lt y x with
  | false => rfl
  | true => have := h.trans x y x hxy k; rw [h.irrefl] at this; cases this
theorem no_eqv (h : SWO lt) {x y : α} (hyx : lt y x = true) : eqv lt x y = false := by simp [eqv, hyx]
theorem no_eqv' (h : SWO lt) {x y : α} (hxy : lt x y = true) : eqv lt x y = false := by simp [eqv, hxy]
/-- One element goes behind those of a sorted part that are less. -/
theorem one_left (h : SWO lt) {x : α} {Y : List α} (hs : Sorted lt Y) {i : Nat} (hi : i ≤ Y.length) (hlo : ∀ t y, t < i → Y[t]? = some y → lt y x = true) (hhi : ∀ t y, i ≤ t → Y[t]? = some y → lt y x = false) :
    Sorted lt (Y.take i ++ (x :: Y.drop i)) ∧ Stab lt (x :: Y) (Y.take i ++ (x :: Y.drop i)) := by
  have hs2 : Sorted lt (Y.take i ++ Y.drop i) := by rw [List.take_append_drop]; exact hs
  have l1 : ∀ y ∈ Y.take i, lt y x = true := fun y hy => by
    obtain ⟨t, ht⟩ := List.getElem?_of_mem hy
    rw [List.getElem?_take] at ht
    split at ht
    · exact hlo t y (by assumption) ht
    · cases ht
  have l2 : ∀ y ∈ Y.drop i, lt y x = false := fun y hy => by
    obtain ⟨t, ht⟩ := List.getElem?_of_mem hy
    rw [List.getElem?_drop] at ht
    exact hhi _ y (by omega) ht
  refine ⟨List.pairwise_append.2 ⟨hs2.left, List.pairwise_cons.2 ⟨l2, hs2.right⟩, fun a ha b hb => ?_⟩, ?_⟩
  · rcases List.mem_cons.1 hb with rfl | hb
    · exact SWO.asymm' h (l1 a ha)
    · exact hs2.cross a ha b hb
  · have e : x :: Y = [x] ++ Y.take i ++ Y.drop i := by rw [List.append_assoc, List.take_append_drop]; rfl
    have e2 : Y.take i ++ (x :: Y.drop i) = Y.take i ++ [x] ++ Y.drop i := by simp
    rw [e, e2]
    exact Stab.append (Stab.swap h (fun a ha b hb => by rw [List.mem_singleton.1 ha]; exact no_eqv h (l1 b hb))) (Stab.refl _)
theorem one_right (h : SWO lt) {y : α} {X : List α} (hs : Sorted lt X) {i : Nat} (hi : i ≤ X.length) (hlo : ∀ t x, t < i → X[t]? = some x → lt y x = false) (hhi : ∀ t x, i ≤ t → X[t]? = some x → lt y x = true) :
    Sorted lt (X.take i ++ (y :: X.drop i)) ∧ Stab lt (X ++ [y]) (X.take i ++ (y :: X.drop i)) := by
  have hs2 : Sorted lt (X.take i ++ X.drop i) := by rw [List.take_append_drop]; exact hs
  have l1 : ∀ x ∈ X.take i, lt y x = false := fun x hx => by
    obtain ⟨t, ht⟩ := List.getElem?_of_mem hx
    rw [List.getElem?_take] at ht
    split at ht
    · exact hlo t x (by assumption) ht
    · cases ht
  have l2 : ∀ x ∈ X.drop i, lt y x = true := fun x hx => by
    obtain ⟨t, ht⟩ := List.getElem?_of_mem hx
    rw [List.getElem?_drop] at ht
    exact hhi _ x (by omega) ht
  refine ⟨List.pairwise_append.2 ⟨hs2.left, List.pairwise_cons.2 ⟨fun x hx => SWO.asymm' h (l2 x hx), hs2.right⟩, fun a ha b hb => ?_⟩, ?_⟩
  · rcases List.mem_cons.1 hb with rfl | hb
    · exact l1 a ha
    · exact hs2.cross a ha b hb
  · have e : X ++ [y] = X.take i ++ (X.drop i ++ [y]) := by rw [← List.append_assoc, List.take_append_drop]
    have e2 : X.take i ++ (y :: X.drop i) = X.take i ++ ([y] ++ X.drop i) := rfl
    rw [e, e2]
    exact Stab.append (Stab.refl _) (Stab.swap h (fun a ha b hb => by rw [List.mem_singleton.1 hb]; exact no_eqv h (l2 a ha)))
/-- Two sorted parts, cut where all of the one's rear is behind all of the other's front. -/
theorem four (h : SWO lt) {X1 X2 Y1 Y2 Z1 Z2 : List α} (hX : Sorted lt (X1 ++ X2)) (hY : Sorted lt (Y1 ++ Y2)) (h1 : ∀ x ∈ X1, ∀ y ∈ Y2, lt y x = false) (h2 : ∀ x ∈ X2, ∀ y ∈ Y1, lt y x = true)
    (s1 : Sorted lt Z1) (k1 : Stab lt (X1 ++ Y1) Z1) (s2 : Sorted lt Z2) (k2 : Stab lt (X2 ++ Y2) Z2) : Sorted lt (Z1 ++ Z2) ∧ Stab lt ((X1 ++ X2) ++ (Y1 ++ Y2)) (Z1 ++ Z2) := by
  refine ⟨Sorted.append s1 s2 (fun x hx y hy => ?_), ?_⟩
  · rw [k1.mem h] at hx
    rw [k2.mem h] at hy
    rcases List.mem_append.1 hx with hx | hx <;> rcases List.mem_append.1 hy with hy | hy
    · exact hX.cross x hx y hy
    · exact h1 x hx y hy
    · exact SWO.asymm' h (h2 y hy x hx)
    · exact hY.cross x hx y hy
  · have m : Stab lt ((X1 ++ X2) ++ (Y1 ++ Y2)) ((X1 ++ Y1) ++ (X2 ++ Y2)) := by
      have : Stab lt (X1 ++ ((X2 ++ Y1) ++ Y2)) (X1 ++ ((Y1 ++ X2) ++ Y2)) := Stab.append (Stab.refl _) (Stab.append (Stab.swap h (fun a ha b hb => no_eqv h (h2 a ha b hb))) (Stab.refl _))
      simpa using this
    exact m.trans (Stab.append k1 k2)
end
/-- Where the search ends the fronts are no later than the rears. -/
theorem cut_ok {α : Type} {lt : α → α → Bool} (h : SWO lt) {X Y : List α} (hX : Sorted lt X) (hY : Sorted lt Y) (i j : Nat)
    (lo : i = 0 ∨ Y.length ≤ j ∨ ∃ x y, 1 ≤ i ∧ X[i - 1]? = some x ∧ Y[j]? = some y ∧ lt y x = false)
    (up : X.length ≤ i ∨ j = 0 ∨ ∃ x y, 1 ≤ j ∧ X[i]? = some x ∧ Y[j - 1]? = some y ∧ lt y x = true) :
    (∀ x ∈ X.take i, ∀ y ∈ Y.drop j, lt y x = false) ∧ (∀ x ∈ X.drop i, ∀ y ∈ Y.take j, lt y x = true) := by
  constructor
  · intro x hx y hy
    obtain ⟨t, ht⟩ := List.getElem?_of_mem hx
    obtain ⟨r, hr⟩ := List.getElem?_of_mem hy
    rw [List.getElem?_take] at ht
    rw [List.getElem?_drop] at hr
    split at ht
    · rename_i hti
      rcases lo with rfl | hj | ⟨x0, y0, h1, hx0, hy0, hl⟩
      · omega
      · have := (List.getElem?_eq_some_iff.1 hr).1; omega
      · exact h.ntrans y x0 x (h.ntrans y y0 x0 (hY.at h hy0 hr (by omega)) hl) (hX.at h ht hx0 (by omega))
    · cases ht
  · intro x hx y hy
    obtain ⟨t, ht⟩ := List.getElem?_of_mem hx
    obtain ⟨r, hr⟩ := List.getElem?_of_mem hy
    rw [List.getElem?_drop] at ht
    rw [List.getElem?_take] at hr
    split at hr
    · rename_i hti
      rcases up with hi | rfl | ⟨x0, y0, h1, hx0, hy0, hl⟩
      · have := (List.getElem?_eq_some_iff.1 ht).1; omega
      · omega
      · exact lt_of_lt_le h (lt_of_le_lt h (hY.at h hr hy0 (by omega)) hl) (hX.at h hx0 ht (by omega))
    · cases hr
/-- By one first, then by another. -/
theorem lexSwo {α β γ : Type} {c1 : β → β → Int} {c2 : γ → γ → Int} {p : α → β} {q : α → γ} (t1 : SWO (ltOf c1)) (z1 : ∀ a b, c1 a b = 0 ↔ a = b) (n1 : ∀ a b, ltOf c1 a b = false → ltOf c1 b a = false → a = b) (t2 : SWO (ltOf c2)) (or2 : Int → Int → Int)
    (ho : ∀ a b, or2 a b = if a = 0 then b else a) : SWO (ltOf (fun x y : α => or2 (c1 (p x) (p y)) (c2 (q x) (q y)))) := by
  have key : ∀ x y : α, ltOf (fun x y : α => or2 (c1 (p x) (p y)) (c2 (q x) (q y))) x y = true ↔ (ltOf c1 (p x) (p y) = true ∨ p x = p y ∧ ltOf c2 (q x) (q y) = true) := by
    intro x y
    simp only [ltOf, ho, decide_eq_true_eq]
    by_cases e : c1 (p x) (p y) = 0
    · rw [if_pos e]
      have := (z1 _ _).1 e
      rw [e]
      simp [this]
    · rw [if_neg e]
      have : ¬ p x = p y := fun k => e ((z1 _ _).2 k)
      simp [this]
  have neg : ∀ x y : α, ltOf (fun x y : α => or2 (c1 (p x) (p y)) (c2 (q x) (q y))) x y = false ↔ (ltOf c1 (p y) (p x) = true ∨ p x = p y ∧ ltOf c2 (q x) (q y) = false) := by
    intro x y
    rw [← Bool.not_eq_true, key]
    constructor
    · intro h
      cases k : ltOf c1 (p y) (p x) with
      | true => exact .inl rfl
      | false =>
        cases k2 : ltOf c1 (p x) (p y) with
        | true => exact absurd (.inl k2) h
        | false =>
          have e := n1 _ _ k2 k
          refine .inr ⟨e, ?_⟩
          cases k3 : ltOf c2 (q x) (q y) with
          | false => rfl
          | true => exact absurd (.inr ⟨e, k3⟩) h
    · rintro (h | ⟨e, h⟩) (k | ⟨e', k⟩)
      · have := t1.trans _ _ _ h k; rw [t1.irrefl] at this; cases this
      · rw [e', t1.irrefl] at h; cases h
      · rw [e, t1.irrefl] at k; cases k
      · rw [h] at k; cases k
  refine ⟨fun x => (neg x x).2 (.inr ⟨rfl, t2.irrefl _⟩), fun x y z h k => ?_, fun x y z h k => ?_⟩
  · rw [key] at *
    rcases h with h | ⟨e, h⟩ <;> rcases k with k | ⟨e', k⟩
    · exact .inl (t1.trans _ _ _ h k)
    · exact .inl (e' ▸ h)
    · exact .inl (e ▸ k)
    · exact .inr ⟨e.trans e', t2.trans _ _ _ h k⟩
  · rw [neg] at *
    rcases h with h | ⟨e, h⟩ <;> rcases k with k | ⟨e', k⟩
    · exact .inl (t1.trans _ _ _ k h)
    · exact .inl (e' ▸ h)
    · exact .inl (e ▸ k)
    · exact .inr ⟨e.trans e', t2.ntrans _ _ _ h k⟩
end Go.Por.Stab
namespace Go.Proofs.Ytobcakjlfdejjaa.Watch
open Go.Por Go.Sort
theorem cmpInt_neg (a b : Int) : ltOf Lib.compareInt a b = true ↔ a < b := by
  unfold ltOf Lib.compareInt
  repeat' split
  all_goals simp <;> omega
theorem cmpInt_no (a b : Int) : ltOf Lib.compareInt a b = false ↔ b ≤ a := by
  rw [← Bool.not_eq_true, cmpInt_neg]; omega
theorem intSwo : SWO (ltOf Lib.compareInt) := ⟨fun x => (cmpInt_no x x).2 (Int.le_refl _), fun x y z h k => by rw [cmpInt_neg] at *; omega, fun x y z h k => by rw [cmpInt_no] at *; omega⟩
theorem chgSwo : SWO (ltOf ccmp) :=
  Stab.lexSwo (c1 := Lib.compareInt) (c2 := tcmp) (p := fun x : Chg => x.1) (q := fun x : Chg => x.2.2) intSwo (fun a b => by unfold Lib.compareInt; repeat' split <;> simp <;> omega) (fun a b h k => by rw [cmpInt_no] at *; omega) tupSwo or2v (fun _ _ => rfl)
theorem rowSwo : SWO (ltOf rcmp) :=
  Stab.lexSwo (c1 := tcmp) (c2 := Lib.compareInt) (p := fun x : RowT => x.1) (q := fun x : RowT => x.2.1) tupSwo (fun a b => tcmp_zero) tupTotal intSwo or2v (fun _ _ => rfl)
theorem mutSwo : SWO (ltOf mcmp) :=
  ⟨fun x => tupSwo.irrefl x.2, fun x y z h k => tupSwo.trans x.2 y.2 z.2 h k, fun x y z h k => tupSwo.ntrans x.2 y.2 z.2 h k⟩
end Go.Proofs.Ytobcakjlfdejjaa.Watch
