/- Slices of whatever came in, as the laws' walks want them. No program in sight. -/
import Derived.WalkKit
import Derived.ProofKit
import Derived.Deep.Slices
import Derived.Below
set_option linter.unusedVariables false
set_option linter.unusedSimpArgs false
namespace Go.Por
open Go.RowKit Go.ChangeShapes Go.WideShapes Go.Deep

section
variable {α : Type} {c : Nat} {R : World → List Value → α → Prop} {w w' : World} {v : Value} {xs : List α}
/-- A slice whose elements (c cells each) hold these things. -/
def SliceIs (c : Nat) (R : World → List Value → α → Prop) (w : World) (v : Value) (xs : List α) : Prop :=
  ∃ (ao : Option Addr) (cap : Nat), v = .slice ao xs.length cap ∧ xs.length ≤ 9223372036854775807 ∧
    ∀ i x, xs[i]? = some x → ∃ b o cs, ao = some ⟨b, o, none⟩ ∧ cs.length = c ∧ (∀ j u, cs[j]? = some u → w.cell? ⟨b, o + i * c + j, none⟩ = some u) ∧ R w cs x

theorem SliceIs.below (h : SliceIs c R w v xs) (hc : 0 < c) (hb : Below w.heap.size w w') (hR : ∀ cs x, R w cs x → R w' cs x) : SliceIs c R w' v xs := by
  obtain ⟨ao, cap, rfl, hl, he⟩ := h
  refine ⟨ao, cap, rfl, hl, fun i x hx => ?_⟩
  obtain ⟨b, o, cs, rfl, hcs, hcell, hr⟩ := he i x hx
  have hlt : b < w.heap.size := by
    obtain ⟨u, hu⟩ : ∃ u, cs[0]? = some u := ⟨_, List.getElem?_eq_getElem (by omega)⟩
    exact World.block_lt_of_cell? w ⟨b, _, none⟩ (hcell 0 u hu)
  exact ⟨b, o, cs, rfl, hcs, fun j u hu => by rw [hb.cell (p := ⟨b, _, none⟩) hlt]; exact hcell j u hu, hR cs x hr⟩
/-- Elements whose cells tell all. -/
theorem SliceIs.flat {f : α → List Value} (h : SliceIs c (fun _ cs x => cs = f x) w v xs) : ∃ (ao : Option Addr) (cap : Nat), v = .slice ao xs.length cap ∧ xs.length ≤ 9223372036854775807 ∧
    ∀ i, i < xs.length → ∃ b o, ao = some ⟨b, o, none⟩ ∧ b < w.heap.size + (if c = 0 then b + 1 else 0) ∧ ∀ i x, xs[i]? = some x → ∀ j u, (f x)[j]? = some u → w.cell? ⟨b, o + i * c + j, none⟩ = some u := by
  obtain ⟨ao, cap, rfl, hl, he⟩ := h
  refine ⟨ao, cap, rfl, hl, fun i hi => ?_⟩
  obtain ⟨b, o, cs, rfl, hcs, hcell, hr⟩ := he i _ (List.getElem?_eq_getElem hi)
  refine ⟨b, o, rfl, ?_, fun i x hx j u hu => ?_⟩
  · split
    · omega
    · obtain ⟨u, hu⟩ : ∃ u, cs[0]? = some u := ⟨_, List.getElem?_eq_getElem (by omega)⟩
      have : b < w.heap.size := World.block_lt_of_cell? w ⟨b, _, none⟩ (hcell 0 u hu)
      omega
  · obtain ⟨b', o', cs', hbo, hcs', hcell', rfl⟩ := he i x hx
    cases hbo
    exact hcell' j u hu
end

section
variable {H : Type} {enc : TypeId × Value → H} {P : Program} {w : World} {spare : Nat → Bool} {held : Bool}
theorem open_SliceIs {α : Type} {c : Nat} {R : World → List Value → α → Prop} {t e : TypeId} {fuel : Nat} {cs : List Value} {y : DataW H × List MemPlace} (ht : P.underlying t = some (.slice e)) (hc : P.cellsOf e = c) (hc0 : 0 < c)
    (hR : ∀ fuel cs y, DataW.trod enc P w 0 spare held fuel e cs = some y → ∃ x, R w cs x) (h : DataW.trod enc P w 0 spare held fuel t cs = some y) : ∃ v xs, cs = [v] ∧ SliceIs c R w v xs := by
  rcases open_slice ht h with ⟨rfl, _⟩ | ⟨a, len, cap, m, n, D, Pl, rfl, _, hl, hm, hmm, _, hx⟩
  · exact ⟨_, [], rfl, none, 0, rfl, by simp, by simp⟩
  · have hlm : len ≤ m := by rw [hmm]; split <;> omega
    have each : ∀ i : Fin len, ∃ x : α, ∃ b o cs, (some a : Option Addr) = some ⟨b, o, none⟩ ∧ cs.length = c ∧ (∀ j u, cs[j]? = some u → w.cell? ⟨b, o + i.1 * c + j, none⟩ = some u) ∧ R w cs x := by
      intro i
      obtain ⟨cs', h1, h2⟩ := hx i.1 (by omega)
      obtain ⟨x, hxr⟩ := hR _ _ _ h2
      rw [hc] at h1
      obtain ⟨_, hlen, hcell⟩ := World.cells?_some h1
      obtain ⟨b, o, sp⟩ := a
      have hsp : sp = none := by
        cases sp with
        | none => rfl
        | some s =>
          obtain ⟨cs0, g1, _⟩ := hx 0 (by have := i.2; omega)
          rw [hc] at g1
          obtain ⟨_, glen, gcell⟩ := World.cells?_some g1
          have h0 := gcell 0 (by omega)
          have h3 : cs0[0]? = some cs0[0] := List.getElem?_eq_getElem (by omega)
          rw [h3] at h0
          simp only [Nat.zero_mul, Addr.add, if_true, World.cell?] at h0
          split at h0 <;> simp at h0
      subst hsp
      refine ⟨x, b, o, cs', rfl, hlen, fun j u hu => ?_, hxr⟩
      have hj : j < c := by rw [← hlen]; exact (List.getElem?_eq_some_iff.1 hu).1
      have h0 := hcell j hj
      rw [Deep.add_add] at h0
      have e : (⟨b, o, none⟩ : Addr).add (i.1 * c + j) = ⟨b, o + i.1 * c + j, none⟩ := by
        unfold Addr.add
        split
        · rename_i e; rw [Nat.add_assoc, e, Nat.add_zero]
        · rw [Nat.add_assoc]
      rw [e, hu] at h0
      exact h0
    obtain ⟨F, hF⟩ := Classical.axiomOfChoice each
    refine ⟨_, List.ofFn F, rfl, some a, cap, by rw [List.length_ofFn], by rw [List.length_ofFn]; unfold maxLen at hm; omega, fun i x hx' => ?_⟩
    have hi : i < len := by
      have := (List.getElem?_eq_some_iff.1 hx').1
      simpa using this
    have : x = F ⟨i, hi⟩ := by
      rw [List.getElem?_ofFn, dif_pos hi] at hx'
      exact (Option.some.inj hx').symm
    subst this
    exact hF ⟨i, hi⟩
end
end Go.Por
