/- A slice of integers that came in, as the laws' walks want it. No program in sight. -/
import Derived.WalkKit
namespace Go.Por
open Go.RowKit

def IsRow (k : IntKind) (w : World) (a : Option Addr) (len cap : Nat) (zs : List Int) : Prop :=
  (a = none ∧ len = 0 ∧ cap = 0 ∧ zs = []) ∨
  ∃ x, a = some x ∧ len ≤ cap ∧ cap ≤ maxLen ∧ zs.length = cap ∧ (∀ i, i < zs.length → w.cell? (x.add i) = some (.int k (zs.getD i 0))) ∧ ∀ n ∈ zs, (Lit.int k n).wf = true
theorem row_len {k : IntKind} {w : World} {a : Option Addr} {len cap : Nat} {zs : List Int} (h : IsRow k w a len cap zs) : (zs.take len).length = len := by
  rcases h with ⟨_, rfl, _, rfl⟩ | ⟨x, _, h1, _, h2, _⟩
  · rfl
  · rw [List.length_take]; omega
theorem row_max {k : IntKind} {w : World} {a : Option Addr} {len cap : Nat} {zs : List Int} (h : IsRow k w a len cap zs) : len ≤ 9223372036854775807 := by
  rcases h with ⟨_, rfl, _, rfl⟩ | ⟨x, _, h1, h2, _⟩
  · omega
  · unfold maxLen at h2; omega
theorem row_cells {k : IntKind} {w : World} {a : Option Addr} {len cap : Nat} {zs : List Int} (h : IsRow k w a len cap zs) :
    ∀ i, i < len → ∃ b o, a = some ⟨b, o, none⟩ ∧ ∀ j, j < len → w.cell? ⟨b, o + j, none⟩ = some (.int k ((zs.take len).getD j 0)) := by
  intro i hi
  rcases h with ⟨_, rfl, _, _⟩ | ⟨⟨b, o, sp⟩, rfl, h1, h2, h3, h4, _⟩
  · omega
  have h0 := h4 0 (by omega)
  have hsp : sp = none := by
    cases sp with
    | none => rfl
    | some s => simp [Addr.add, World.cell?] at h0; split at h0 <;> simp at h0
  subst hsp
  refine ⟨b, o, rfl, fun j hj => ?_⟩
  have hc := h4 j (by omega)
  have e : (⟨b, o, none⟩ : Addr).add j = ⟨b, o + j, none⟩ := by
    unfold Addr.add
    split
    · rename_i e; subst e; rfl
    · rfl
  rw [e] at hc
  rw [hc]
  congr 2
  simp [List.getD_eq_getElem?_getD, hj]
end Go.Por
