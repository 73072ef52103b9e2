/- Stable sorting, plain: what a stable order is, and that there is one. No program in sight. -/
import Derived.Shelf.SlSortCmp.NoneTotal
set_option linter.unusedVariables false
set_option linter.unusedSimpArgs false
namespace Go.Por.Stab
open Go.Sort

variable {α : Type} {lt : α → α → Bool}
/-- Neither stands ahead of the other. -/
def eqv (lt : α → α → Bool) (x y : α) : Bool := !lt x y && !lt y x
def le (lt : α → α → Bool) (x y : α) : Bool := !lt y x
/-- Of each class the same, in the same order. -/
def Stab (lt : α → α → Bool) (l l' : List α) : Prop := ∀ x, l'.filter (eqv lt x) = l.filter (eqv lt x)
def Sorted (lt : α → α → Bool) (l : List α) : Prop := l.Pairwise (fun x y => lt y x = false)

theorem eqv_iff {x y : α} : eqv lt x y = true ↔ lt x y = false ∧ lt y x = false := by simp [eqv]
theorem eqv_refl (h : SWO lt) (x : α) : eqv lt x x = true := eqv_iff.2 ⟨h.irrefl x, h.irrefl x⟩
theorem eqv_symm {x y : α} (h : eqv lt x y = true) : eqv lt y x = true := eqv_iff.2 ⟨(eqv_iff.1 h).2, (eqv_iff.1 h).1⟩
theorem eqv_trans (h : SWO lt) {x y z : α} (h1 : eqv lt x y = true) (h2 : eqv lt y z = true) : eqv lt x z = true :=
  eqv_iff.2 ⟨h.ntrans _ _ _ (eqv_iff.1 h1).1 (eqv_iff.1 h2).1, h.ntrans _ _ _ (eqv_iff.1 h2).2 (eqv_iff.1 h1).2⟩
theorem Stab.refl (l : List α) : Stab lt l l := fun _ => rfl
theorem Stab.symm {a b : List α} (h : Stab lt a b) : Stab lt b a := fun x => (h x).symm
theorem Stab.trans {a b c : List α} (h : Stab lt a b) (k : Stab lt b c) : Stab lt a c := fun x => (k x).trans (h x)
theorem Stab.append {a a' b b' : List α} (h : Stab lt a a') (k : Stab lt b b') : Stab lt (a ++ b) (a' ++ b') := fun x => by
  rw [List.filter_append, List.filter_append, h x, k x]
theorem Stab.mem (h : SWO lt) {a b : List α} (k : Stab lt a b) (x : α) : x ∈ b ↔ x ∈ a := by
  have e := k x
  constructor
  · intro hx
    have : x ∈ b.filter (eqv lt x) := List.mem_filter.2 ⟨hx, eqv_refl h x⟩
    rw [e] at this
    exact (List.mem_filter.1 this).1
  · intro hx
    have : x ∈ a.filter (eqv lt x) := List.mem_filter.2 ⟨hx, eqv_refl h x⟩
    rw [← e] at this
    exact (List.mem_filter.1 this).1
/-- Two parts that share no class may change places. -/
theorem Stab.swap (h : SWO lt) {X Y : List α} (hd : ∀ x ∈ X, ∀ y ∈ Y, eqv lt x y = false) : Stab lt (X ++ Y) (Y ++ X) := fun z => by
  rw [List.filter_append, List.filter_append]
  by_cases hx : X.filter (eqv lt z) = []
  · rw [hx]; simp
  · have hy : Y.filter (eqv lt z) = [] := by
      rw [List.filter_eq_nil_iff]
      intro y hy hzy
      obtain ⟨x, hxm⟩ := List.exists_mem_of_ne_nil _ hx
      obtain ⟨hx1, hx2⟩ := List.mem_filter.1 hxm
      have := hd x hx1 y hy
      rw [eqv_trans h (eqv_symm hx2) hzy] at this
      cases this
    rw [hy]; simp
/-- There is one sorted list with the same classes. -/
theorem uniq (h : SWO lt) : ∀ (a b : List α), Sorted lt a → Sorted lt b → Stab lt a b → a = b
  | [], b, _, _, k => by
    cases b with
    | nil => rfl
    | cons y b => exact absurd ((k.mem h y).1 (by simp)) (by simp)
  | x :: a, b, ha, hb, k => by
    cases b with
    | nil => exact absurd ((k.mem h x).2 (by simp)) (by simp)
    | cons y b =>
      have h1 : lt y x = false := by
        rcases List.mem_cons.1 ((k.mem h y).1 (by simp)) with e | hy
        · rw [e]; exact h.irrefl x
        · exact (List.pairwise_cons.1 ha).1 y hy
      have h2 : lt x y = false := by
        rcases List.mem_cons.1 ((k.mem h x).2 (by simp)) with e | hx
        · rw [e]; exact h.irrefl y
        · exact (List.pairwise_cons.1 hb).1 x hx
      have e := k x
      rw [List.filter_cons_of_pos (eqv_iff.2 ⟨h2, h1⟩), List.filter_cons_of_pos (eqv_refl h x)] at e
      obtain ⟨rfl, _⟩ := List.cons.inj e
      have k' : Stab lt a b := fun z => by
        have ez := k z
        by_cases hz : eqv lt z y = true
        · rw [List.filter_cons_of_pos hz, List.filter_cons_of_pos hz] at ez
          exact (List.cons.inj ez).2
        · rw [List.filter_cons_of_neg hz, List.filter_cons_of_neg hz] at ez
          exact ez
      rw [uniq h a b (List.pairwise_cons.1 ha).2 (List.pairwise_cons.1 hb).2 k']
/-- Two sorted parts, all of the first no later than all of the second. -/
theorem Sorted.append {a b : List α} (ha : Sorted lt a) (hb : Sorted lt b) (hab : ∀ x ∈ a, ∀ y ∈ b, lt y x = false) : Sorted lt (a ++ b) :=
  List.pairwise_append.2 ⟨ha, hb, hab⟩
theorem Sorted.left {a b : List α} (h : Sorted lt (a ++ b)) : Sorted lt a := (List.pairwise_append.1 h).1
theorem Sorted.right {a b : List α} (h : Sorted lt (a ++ b)) : Sorted lt b := (List.pairwise_append.1 h).2.1
theorem Sorted.cross {a b : List α} (h : Sorted lt (a ++ b)) : ∀ x ∈ a, ∀ y ∈ b, lt y x = false := (List.pairwise_append.1 h).2.2
end Go.Por.Stab
