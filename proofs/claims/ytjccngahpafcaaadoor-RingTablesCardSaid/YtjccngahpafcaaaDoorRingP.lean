/- Whose a slot is: the nearest point from its place on; with one node more. Plain. -/
import Derived.Test.YtjccngahpafcaaaDoorRingE
namespace Go.Proofs.YtjccngahpafcaaaDoor.RingF
open Go.RowKit Go.Por Go.Sort

/-- How far a place lies from another, round the ring. -/
def far (a p : Int) : Int := (p + 4294967296 - a) % 4294967296
/-- The nearest point; of points at one place the least node's. -/
def Best (l : List Pt) (a : Int) (x : Pt) : Prop := x ∈ l ∧ ∀ y ∈ l, far a x.1 < far a y.1 ∨ far a x.1 = far a y.1 ∧ x.2 ≤ y.2
def InRing (l : List Pt) : Prop := ∀ y ∈ l, 0 ≤ y.1 ∧ y.1 < 4294967296

theorem allPts_ring (n m : Nat) : InRing (allPts n m) := by
  intro y hy
  obtain ⟨i, j, _, _, rfl⟩ := mem_allPts.1 hy
  have := place_lt (nodeT i j)
  simp only
  omega
theorem slotAt_ring (s : Nat) : 0 ≤ slotAt s ∧ slotAt s < 4294967296 := by
  have := place_lt (slotT s)
  unfold slotAt
  omega
theorem best_unique {l : List Pt} {a : Int} {x y : Pt} (hx : Best l a x) (hy : Best l a y) : x.2 = y.2 := by
  have h1 := hx.2 y hy.1
  have h2 := hy.2 x hx.1
  omega
theorem from_lt {l : List Pt} {a : Int} {k : Nat} {x : Pt} (h : k < from' l a) (hx : l[k]? = some x) : x.1 < a := by
  unfold from' at h
  have hmem : x ∈ l.takeWhile fun x => decide (x.1 < a) := by
    have e : l = (l.takeWhile fun x => decide (x.1 < a)) ++ l.dropWhile fun x => decide (x.1 < a) := (List.takeWhile_append_dropWhile).symm
    rw [e, List.getElem?_append_left h] at hx
    exact List.mem_of_getElem? hx
  simpa using List.all_eq_true.1 List.all_takeWhile _ hmem
theorem from_at {l : List Pt} {a : Int} {x : Pt} (hx : l[from' l a]? = some x) : a ≤ x.1 := by
  unfold from' at hx
  have e : l = (l.takeWhile fun x => decide (x.1 < a)) ++ l.dropWhile fun x => decide (x.1 < a) := (List.takeWhile_append_dropWhile).symm
  have h0 : (l.dropWhile fun x => decide (x.1 < a))[0]? = some x := by
    have := congrArg (fun q => q[(l.takeWhile fun x => decide (x.1 < a)).length]?) e
    simp only [List.getElem?_append_right (Nat.le_refl _), Nat.sub_self] at this
    rw [← this]
    exact hx
  cases hd : l.dropWhile fun x => decide (x.1 < a) with
  | nil => rw [hd] at h0; cases h0
  | cons y r =>
    rw [hd] at h0
    simp only [List.getElem?_cons_zero, Option.some.injEq] at h0
    subst h0
    have := List.head_dropWhile_not (p := fun x : Pt => decide (x.1 < a)) (l := l) (by rw [hd]; simp)
    simp only [hd, List.head_cons, decide_eq_false_iff_not] at this
    omega
theorem from_le (l : List Pt) (a : Int) : from' l a ≤ l.length := (List.takeWhile_sublist _).length_le

theorem best_sorted (n m s : Nat) {x : Pt} (hx : (sorted n m)[from' (sorted n m) (slotAt s) % (sorted n m).length]? = some x) : Best (allPts n m) (slotAt s) x := by
  have ha := slotAt_ring s
  obtain ⟨a, haa⟩ : ∃ a, slotAt s = a := ⟨_, rfl⟩
  rw [haa] at hx ha ⊢
  have hmem : ∀ y, y ∈ allPts n m ↔ y ∈ sorted n m := fun y => (sorted_perm n m).mem_iff.symm
  have hring := allPts_ring n m
  refine ⟨(hmem x).2 (List.mem_of_getElem? hx), fun y hy => ?_⟩
  have hyr := hring y hy
  have hxr := hring x ((hmem x).2 (List.mem_of_getElem? hx))
  obtain ⟨j, hj⟩ := List.getElem?_of_mem ((hmem y).1 hy)
  have hlen := (List.getElem?_eq_some_iff.1 hj).1
  have hle := from_le (sorted n m) a
  rcases Nat.lt_or_ge (from' (sorted n m) a) (sorted n m).length with hlt | hge
  · rw [Nat.mod_eq_of_lt hlt] at hx
    have h1 := from_at hx
    rcases Nat.lt_or_ge j (from' (sorted n m) a) with hj1 | hj1
    · have h2 := from_lt hj1 hj
      unfold far
      omega
    · have h2 := sorted_le n m hj1 hx hj
      unfold far
      omega
  · have he : from' (sorted n m) a = (sorted n m).length := Nat.le_antisymm hle hge
    rw [he, Nat.mod_self] at hx
    have h1 := from_lt (a := a) (k := 0) (by omega) hx
    have h2 := from_lt (a := a) (k := j) (by omega) hj
    have h3 := sorted_le n m (Nat.zero_le j) hx hj
    unfold far
    omega
theorem owner_best (n m s : Nat) (hn : 1 ≤ n) (hm : 1 ≤ m) : ∃ x, Best (allPts n m) (slotAt s) x ∧ ownerOf n m s = x.2 := by
  have hl : 0 < (sorted n m).length := by rw [sorted_length]; exact Nat.mul_pos hn hm
  obtain ⟨x, hx⟩ : ∃ x, (sorted n m)[from' (sorted n m) (slotAt s) % (sorted n m).length]? = some x := ⟨_, List.getElem?_eq_getElem (Nat.mod_lt _ hl)⟩
  exact ⟨x, best_sorted n m s hx, owner_at n m s rfl hx⟩
theorem owner_is {n m s : Nat} (hn : 1 ≤ n) (hm : 1 ≤ m) {x : Pt} (hx : Best (allPts n m) (slotAt s) x) : ownerOf n m s = x.2 := by
  obtain ⟨y, hy, e⟩ := owner_best n m s hn hm
  rw [e]
  exact best_unique hy hx
/-- With one node more a slot stays, or is the new node's. -/
theorem owner_more (n m s : Nat) (hn : 1 ≤ n) (hm : 1 ≤ m) (h : ownerOf (n + 1) m s ≠ ownerOf n m s) : ownerOf (n + 1) m s = n := by
  obtain ⟨x, hx, e⟩ := owner_best (n + 1) m s (by omega) hm
  obtain ⟨i, j, hi, hj, rfl⟩ := mem_allPts.1 hx.1
  rw [e] at h ⊢
  by_cases hin : i = n
  · subst hin; rfl
  · exfalso
    apply h
    refine (owner_is hn hm ⟨mem_allPts.2 ⟨i, j, by omega, hj, rfl⟩, fun y hy => hx.2 y ?_⟩).symm
    rw [allPts_succ]
    exact List.mem_append_left _ hy
end Go.Proofs.YtjccngahpafcaaaDoor.RingF
