/- The points of a ring's nodes and whose each slot is: plain; the contracts of the texts' places. -/
import Derived.Test.YtjccngahpafcaaaDoorRingH
import Derived.Test.YtjccngahpafcaaaDoorRingB
import Derived.Test.YtjccngahpafcaaaDoorRingM
namespace Go.Proofs.YtjccngahpafcaaaDoor.RingF
open Go.RowKit Go.Por Go.Sort Go.Proofs.YtjccngahpafcaaaDoor.PRingTables Go.Proofs.YtjccngahpafcaaaDoorW.PrintWords

/-- A number's digits. -/
def dec (i : Nat) : ByteArray := ⟨(Lib.decDigits i).toArray⟩
def nodeT (n p : Nat) : ByteArray := (⟨#[110, 111, 100, 101, 32]⟩ : ByteArray) ++ dec n ++ (⟨#[32, 112, 111, 105, 110, 116, 32]⟩ : ByteArray) ++ dec p
def slotT (s : Nat) : ByteArray := (⟨#[115, 108, 111, 116, 32]⟩ : ByteArray) ++ dec s
theorem dec_size {i : Nat} (h : i < 100) : (dec i).size ≤ 2 := by
  show (Lib.decDigits i).toArray.size ≤ 2
  rw [List.size_toArray]
  unfold Lib.decDigits
  split
  · simp
  · unfold Lib.decDigits
    rw [dif_pos (by omega)]
    simp
theorem append_size (a b : ByteArray) : (a ++ b).size = a.size + b.size := by
  have : (a ++ b).data = a.data ++ b.data := ByteArray.data_append
  show (a ++ b).data.size = _
  rw [this, Array.size_append]
  rfl
theorem nodeT_size {n p : Nat} (hn : n < 100) (hp : p < 100) : (nodeT n p).size ≤ 16 := by
  have h1 := dec_size hn
  have h2 := dec_size hp
  unfold nodeT
  rw [append_size, append_size, append_size]
  show 5 + (dec n).size + 7 + (dec p).size ≤ 16
  omega
theorem slotT_size {s : Nat} (hs : s < 100) : (slotT s).size ≤ 7 := by
  have h1 := dec_size hs
  unfold slotT
  rw [append_size]
  show 5 + (dec s).size ≤ 7
  omega

theorem itoa_any (i : Nat) (h : i < 100) (w : World) : Calls Tryd.prog 22 #[.int .i64 i] w fun e w' => e = .returned (.string (dec i)) ∧ w = w' :=
  (Tryd.strconv_Itoa_small i h w).mono fun _ _ ⟨a, b⟩ => ⟨a, b.symm⟩
theorem hash_any (s : ByteArray) (hs : s.size ≤ 9223372036854775807) (w : World) : Calls Tryd.prog 13 #[.string s] w fun e w' => e = .returned (.int .u32 (place s : Nat)) ∧ Mod (fun _ => False) w w' ∧ w'.heap.size = w.heap.size :=
  (ring_Hash.calls _ s _ w (hash_f s hs)).mono fun _ _ ⟨a, b⟩ => ⟨a, by obtain ⟨⟨n, rfl⟩⟩ := b; exact ⟨(Mod.refl _ w).drewN n, rfl⟩⟩
theorem slot_any (s : ByteArray) (hs : s.size ≤ 9223372036854775807) (w : World) : Calls Tryd.prog 14 #[.string s] w fun e w' => e = .returned (.int .i64 (place s % 16 : Nat)) ∧ Mod (fun _ => False) w w' ∧ w'.heap.size = w.heap.size :=
  (ring_Slot.calls _ s _ w (slot_f s hs)).mono fun _ _ ⟨a, b⟩ => ⟨a, by obtain ⟨⟨n, rfl⟩⟩ := b; exact ⟨(Mod.refl _ w).drewN n, rfl⟩⟩
theorem refhash_any (s : ByteArray) (hs : s.size ≤ 9223372036854775807) (w : World) : Calls Tryd.prog 12 #[.string s] w fun e w' => e = .returned (.int .u64 (place s : Nat)) ∧ Mod (fun _ => False) w w' ∧ w'.heap.size = w.heap.size :=
  (porterref11_Hash.calls _ s _ w (refhash_f s hs)).mono fun _ _ ⟨a, b⟩ => ⟨a, by obtain ⟨⟨n, rfl⟩⟩ := b; exact ⟨(Mod.refl _ w).drewN n, rfl⟩⟩

/-- The points of node n; of the nodes below n; their order; whose a slot is. -/
def nodePts (n m : Nat) : List Pt := (List.range m).map fun j => ((place (nodeT n j) : Nat), (n : Int))
def allPts (n m : Nat) : List Pt := (List.range n).flatMap fun i => nodePts i m
def ptLe (x y : Pt) : Bool := !(ltOf ptCmp) y x
def sorted (n m : Nat) : List Pt := (allPts n m).mergeSort ptLe
def from' (l : List Pt) (a : Int) : Nat := (l.takeWhile fun x => decide (x.1 < a)).length
def slotAt (s : Nat) : Int := (place (slotT s) : Nat)
def ownerOf (n m s : Nat) : Int := ((sorted n m).getD (from' (sorted n m) (slotAt s) % (sorted n m).length) (0, 0)).2
def owners (n m : Nat) : List Int := (List.range 16).map (ownerOf n m)
theorem owners_length (n m : Nat) : (owners n m).length = 16 := by simp [owners]

theorem nodePts_succ (n j : Nat) : nodePts n (j + 1) = nodePts n j ++ [(((place (nodeT n j) : Nat) : Int), (n : Int))] := by
  unfold nodePts
  rw [List.range_succ, List.map_append]
  rfl
theorem allPts_succ (n m : Nat) : allPts (n + 1) m = allPts n m ++ nodePts n m := by
  unfold allPts
  rw [List.range_succ, List.flatMap_append]
  simp
theorem nodePts_length (n m : Nat) : (nodePts n m).length = m := by simp [nodePts]
theorem allPts_length (n m : Nat) : (allPts n m).length = n * m := by
  induction n with
  | zero => simp [allPts]
  | succ n ih => rw [allPts_succ, List.length_append, ih, nodePts_length, Nat.add_mul, Nat.one_mul]
theorem mem_allPts {n m : Nat} {x : Pt} : x ∈ allPts n m ↔ ∃ i j, i < n ∧ j < m ∧ x = (((place (nodeT i j) : Nat) : Int), (i : Int)) := by
  unfold allPts nodePts
  simp only [List.mem_flatMap, List.mem_range, List.mem_map]
  constructor
  · rintro ⟨i, hi, j, hj, rfl⟩; exact ⟨i, j, hi, hj, rfl⟩
  · rintro ⟨i, j, hi, hj, rfl⟩; exact ⟨i, hi, j, hj, rfl⟩

theorem ptLt_iff (x y : Pt) : ltOf ptCmp x y = true ↔ x.1 < y.1 ∨ x.1 = y.1 ∧ x.2 < y.2 := by
  unfold ltOf ptCmp or2v Lib.compareInt
  rw [decide_eq_true_iff]
  by_cases h1 : x.1 < y.1
  · simp [h1]
  · by_cases h2 : y.1 < x.1
    · have h3 : ¬ x.1 = y.1 := by omega
      simp [h1, h2, h3]
    · have h3 : x.1 = y.1 := by omega
      rw [show (if x.1 < y.1 then (-1 : Int) else if x.1 > y.1 then 1 else 0) = 0 by rw [if_neg h1, if_neg h2], if_pos rfl]
      by_cases h4 : x.2 < y.2
      · simp [h3, h4]
      · by_cases h5 : y.2 < x.2
        · rw [if_neg h4, if_pos h5]; simp; omega
        · rw [if_neg h4, if_neg h5]; simp; omega
theorem ptSwo : SWO (ltOf ptCmp) where
  irrefl x := by
    have := ptLt_iff x x
    cases h : ltOf ptCmp x x with
    | false => rfl
    | true => rw [h] at this; have := this.1 rfl; omega
  trans x y z h1 h2 := by rw [ptLt_iff] at *; omega
  ntrans x y z h1 h2 := by
    have e1 := ptLt_iff x y
    have e2 := ptLt_iff y z
    cases h : ltOf ptCmp x z with
    | false => rfl
    | true =>
      have h3 := (ptLt_iff x z).1 h
      have n1 : ¬ (x.1 < y.1 ∨ x.1 = y.1 ∧ x.2 < y.2) := fun hh => by have := e1.2 hh; rw [h1] at this; cases this
      have n2 : ¬ (y.1 < z.1 ∨ y.1 = z.1 ∧ y.2 < z.2) := fun hh => by have := e2.2 hh; rw [h2] at this; cases this
      omega
theorem ptTotal (x y : Pt) (h1 : ltOf ptCmp x y = false) (h2 : ltOf ptCmp y x = false) : x = y := by
  have n1 : ¬ (x.1 < y.1 ∨ x.1 = y.1 ∧ x.2 < y.2) := fun hh => by have := (ptLt_iff x y).2 hh; rw [h1] at this; cases this
  have n2 : ¬ (y.1 < x.1 ∨ y.1 = x.1 ∧ y.2 < x.2) := fun hh => by have := (ptLt_iff y x).2 hh; rw [h2] at this; cases this
  exact Prod.ext (by omega) (by omega)
theorem ptLe_iff (x y : Pt) : ptLe x y = true ↔ x.1 < y.1 ∨ x.1 = y.1 ∧ x.2 ≤ y.2 := by
  unfold ptLe
  have := ptLt_iff y x
  cases h : ltOf ptCmp y x with
  | false =>
    rw [h] at this
    simp only [Bool.not_false, true_iff]
    have : ¬ (y.1 < x.1 ∨ y.1 = x.1 ∧ y.2 < x.2) := fun hh => by have := this.2 hh; cases this
    omega
  | true =>
    rw [h] at this
    have := this.1 rfl
    simp only [Bool.not_true, Bool.false_eq_true, false_iff]
    omega
theorem sorted_perm (n m : Nat) : (sorted n m).Perm (allPts n m) := List.mergeSort_perm _ _
theorem sorted_length (n m : Nat) : (sorted n m).length = n * m := by rw [(sorted_perm n m).length_eq, allPts_length]
theorem sorted_pairwise (n m : Nat) : (sorted n m).Pairwise (fun x y => ptLe x y = true) :=
  List.pairwise_mergeSort (fun a b c h1 h2 => by rw [ptLe_iff] at *; omega) (fun a b => by
    rw [Bool.or_eq_true, ptLe_iff, ptLe_iff]; omega) _
theorem sorted_le (n m : Nat) {i j : Nat} {x y : Pt} (hij : i ≤ j) (hx : (sorted n m)[i]? = some x) (hy : (sorted n m)[j]? = some y) : x.1 < y.1 ∨ x.1 = y.1 ∧ x.2 ≤ y.2 := by
  rcases Nat.eq_or_lt_of_le hij with h | h
  · subst h
    rw [hx] at hy
    cases hy
    omega
  · obtain ⟨hi, rfl⟩ := List.getElem?_eq_some_iff.1 hx
    obtain ⟨hj, rfl⟩ := List.getElem?_eq_some_iff.1 hy
    exact (ptLe_iff _ _).1 (List.pairwise_iff_getElem.1 (sorted_pairwise n m) i j hi hj h)
theorem from_eq {l : List Pt} {a : Int} {i : Nat} (hi : i ≤ l.length) (h1 : ∀ k x, k < i → l[k]? = some x → x.1 < a) (h2 : ∀ k x, i ≤ k → l[k]? = some x → a ≤ x.1) : from' l a = i := by
  unfold from'
  have e : l = l.take i ++ l.drop i := (List.take_append_drop i l).symm
  have t1 : ∀ x ∈ l.take i, decide (x.1 < a) = true := by
    intro x hx
    obtain ⟨k, hk⟩ := List.getElem?_of_mem hx
    rw [List.getElem?_take] at hk
    split at hk
    · rename_i hlt
      simpa using h1 k x hlt hk
    · cases hk
  have t2 : (l.drop i).takeWhile (fun x => decide (x.1 < a)) = [] := by
    cases hd : l.drop i with
    | nil => rfl
    | cons y r =>
      have : l[i]? = some y := by
        have := congrArg (fun q => q[0]?) hd
        simpa using this
      have h3 := h2 i y (Nat.le_refl _) this
      rw [List.takeWhile_cons_of_neg (by simp; omega)]
  rw [e, List.takeWhile_append_of_pos t1, t2, List.append_nil, List.length_take]
  omega
end Go.Proofs.YtjccngahpafcaaaDoor.RingF
