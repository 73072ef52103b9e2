/- slices.Sort at texts. -/
import Derived.Test.YtojjnfhgldjgbaaDoorStoreP
import Derived.Test.YtojjnfhgldjgbaaDoorShelfS
set_option linter.unusedVariables false
set_option linter.unusedSimpArgs false
namespace Go.Proofs.YtojjnfhgldjgbaaDoor.Store
open Go.RowKit Go.Por Go.Sort Go.Proofs.YtojjnfhgldjgbaaDoor.Watch
def strC (s : ByteArray) : List Value := [.string s]
theorem strC_len (s : ByteArray) : (strC s).length = 1 := rfl
theorem strC_one (s : ByteArray) : ∀ u ∈ strC s, u.oneCell' = true := by
  intro u hu
  simp only [strC, List.mem_singleton] at hu
  subst hu
  rfl
def strL (x : List UInt8) : List Value := [encStr x]
theorem strL_len (x : List UInt8) : (strL x).length = 1 := rfl
/-- The texts in order. -/
def sortB (l : List ByteArray) : List ByteArray := ((l.map (fun s => s.data.toList)).mergeSort (fun x y => decide (x ≤ y))).map (fun x => ⟨x.toArray⟩)
theorem sortB_perm (l : List ByteArray) : (sortB l).Perm l := by
  unfold sortB
  have h := ((List.mergeSort_perm (l.map (fun s : ByteArray => s.data.toList)) (fun x y => decide (x ≤ y))).map (fun x : List UInt8 => (⟨x.toArray⟩ : ByteArray)))
  refine h.trans ?_
  rw [List.map_map]
  have e : (fun x : List UInt8 => (⟨x.toArray⟩ : ByteArray)) ∘ (fun s : ByteArray => s.data.toList) = id := by
    funext s
    rfl
  rw [e, List.map_id]
theorem own_str {w : World} {E : TypeId} {v : Value} {l : List ByteArray} : OwnS strC 1 w E v l ↔ OwnS strL 1 w E v (l.map (fun s => s.data.toList)) := by
  unfold OwnS
  rw [List.length_map, List.flatMap_map]
  exact Iff.rfl
theorem flat_one (d : Array (List UInt8)) (c : Array Value) : putCells encStr 0 d c = putCells id 0 (flatK strL 1 d) c := by
  unfold putCells
  apply Array.ext
  · simp
  · intro i h1 h2
    rw [Array.getElem_mapIdx, Array.getElem_mapIdx]
    have hz : (flatK strL 1 d).size = d.size := by rw [size_flatK, Nat.mul_one]
    by_cases h : 0 ≤ i ∧ i < 0 + d.size
    · rw [if_pos h, if_pos (by rw [hz]; exact h)]
      have h3 : i - 0 < d.size * 1 := by omega
      show encStr d[i - 0]! = (flatK strL 1 d)[i - 0]!
      rw [get_flatK strL 1 d _ h3, Nat.div_one, Nat.mod_one]
      rfl
    · rw [if_neg h, if_neg (by rw [hz]; exact h)]
theorem sort_strs {w : World} {v : Value} {l : List ByteArray} (h : OwnS strC 1 w 9 v l) (hl : l.length < 4611686018427387904) :
    Calls Tryd.prog 23 #[v] w fun e w' => e = .returned (.tuple #[]) ∧ OwnS strC 1 w' 9 v (sortB l) ∧ Mod (fun x => some x = v.ownBlock) w w' := by
  have h' := own_str.1 h
  rcases h.form with ⟨rfl, rfl⟩ | ⟨g, cap, rfl, hc1, hc2⟩
  · refine (Tryd.slices_Sort_string_none none 0 w).mono ?_
    rintro e w' ⟨he, rfl⟩
    exact ⟨he, by simpa [sortB] using h, Mod.refl _ _⟩
  · obtain ⟨m, hm⟩ : ∃ m, l.map (fun s : ByteArray => s.data.toList) = m := ⟨_, rfl⟩
    have hml : m.length = l.length := by rw [← hm, List.length_map]
    rw [hm] at h'
    have hH : Holds encStr w g 0 m.toArray := fun j hj => by
      have h1 := h'.holds strL_len j (by rw [size_flatK, Nat.mul_one]; exact hj)
      rw [get_flatK strL 1 m.toArray j (by rw [Nat.mul_one]; exact hj), Nat.div_one, Nat.mod_one] at h1
      exact h1
    have hcon := Tryd.slices_Sort_string g 0 cap m w hH h'.lt (by rw [hml]; exact hl)
    rw [hml] at hcon
    refine hcon.mono ?_
    rintro e w' ⟨he, n, os, rfl⟩
    have e1 : grow (putRow encStr (Sort.ahead w n) g 0 (m.mergeSort fun x y => decide (x ≤ y)).toArray) os = sortWorldK strL 1 w g 0 n (m.mergeSort fun x y => decide (x ≤ y)).toArray os := by
      unfold sortWorldK putRowK putRow
      congr 2
      funext c
      exact flat_one _ _
    rw [e1]
    have hso := h'.sorted strL_len (l' := m.mergeSort fun x y => decide (x ≤ y)) (List.mergeSort_perm _ _).length_eq n os
    refine ⟨he, own_str.2 ?_, hso.2.mono (fun x _ hx => by rw [show x = g from hx]; rfl)⟩
    have e2 : (sortB l).map (fun s : ByteArray => s.data.toList) = m.mergeSort fun x y => decide (x ≤ y) := by
      unfold sortB
      rw [List.map_map, hm]
      exact List.map_id' _
    rw [e2]
    exact hso.1
end Go.Proofs.YtojjnfhgldjgbaaDoor.Store
