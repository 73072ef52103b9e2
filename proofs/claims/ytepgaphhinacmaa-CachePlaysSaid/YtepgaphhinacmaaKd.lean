/- Rows of flat elements: the print's word for a row of the call's own, and its cells in line. -/
import Derived.Test.YtepgaphhinacmaaWMore
import Derived.Test.YtepgaphhinacmaaOwn2
namespace Go.Por
open Go.RowKit Go.Proofs.YtepgaphhinacmaaW.PrintWords

section
variable {α : Type} {f : α → List Value} {c : Nat}
theorem reps_flat (hf : ∀ x, (f x).length = c) : ∀ {ps : List α} {cs : List Value}, Reps (fun p cs => cs = f p) c ps cs ↔ cs = ps.flatMap f
  | [], cs => by
    constructor
    · intro h
      have := h.1
      simpa using this
    · rintro rfl
      exact Reps.none _ _
  | p :: ps, cs => by
    constructor
    · intro h
      have h0 : cs.take c = f p := by simpa using h.2 0 p rfl
      have hl : cs.length = (ps.length + 1) * c := h.1
      have h1 : cs.drop c = ps.flatMap f := (reps_flat hf).1 ⟨by rw [List.length_drop, hl, Nat.add_mul]; omega, fun j q hq => by
        have := h.2 (j + 1) q hq
        rw [Nat.add_mul, Nat.one_mul, Nat.add_comm, ← List.drop_drop] at this
        exact this⟩
      rw [← List.take_append_drop c cs, h0, h1]
      rfl
    · rintro rfl
      have h1 := (reps_flat hf).2 (rfl : ps.flatMap f = ps.flatMap f)
      refine ⟨by rw [flat_length hf], fun j q hq => ?_⟩
      cases j with
      | zero =>
        simp only [List.getElem?_cons_zero, Option.some.injEq] at hq
        subst hq
        simp only [Nat.zero_mul, List.drop_zero, List.flatMap_cons]
        exact List.take_left' (hf p)
      | succ j =>
        have := h1.2 j q hq
        rw [Nat.add_mul, Nat.one_mul, Nat.add_comm, ← List.drop_drop, List.flatMap_cons, List.drop_left' (hf p)]
        exact this
theorem kd_flat {d : Kd α} {e : Nat} (hsz : d.sz = c) (hM : ∀ w base ok x cs, d.M w base ok x cs ↔ cs = f x) (hf : ∀ x, (f x).length = c) {w : World} {base : Nat} {ok : Nat → Prop} {v : Value} {xs : List α} :
    Kd.R d e w base ok v xs ↔ (∀ k, v.ownBlock = some k → ok k) ∧ w.ownsRow base e c v xs.length (xs.flatMap f) := by
  subst hsz
  constructor
  · rintro ⟨h1, inner, h2, h3⟩
    refine ⟨h1, ?_⟩
    rw [← (reps_flat hf).1 (h3.imp_ (fun p cs h => (hM _ _ _ _ _).1 h))]
    exact h2
  · rintro ⟨h1, h2⟩
    exact ⟨h1, _, h2, ((reps_flat hf).2 rfl).imp_ (fun p cs h => (hM _ _ _ _ _).2 h)⟩
end
end Go.Por
