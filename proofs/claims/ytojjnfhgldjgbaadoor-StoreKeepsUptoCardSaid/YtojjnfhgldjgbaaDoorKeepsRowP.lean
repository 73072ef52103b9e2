/- StoreKeeps at mutations that came in. -/
import Derived.Test.YtojjnfhgldjgbaaDoorKeepM
import Derived.Test.YtojjnfhgldjgbaaDoorKeepsW
set_option linter.unusedVariables false
set_option linter.unusedSimpArgs false
namespace Go.Proofs.YtojjnfhgldjgbaaDoor.Store
open Go.RowKit Go.Por Go.Proofs.YtojjnfhgldjgbaaDoor.Watch
theorem StoreKeeps.row (v : Value) (ms : List Mut) {w : World} (s : SliceIs 4 (fun _ cs x => cs = mutC x ∧ TupOk x.2) w v ms) (z : ArgOk v ms.length) :
    Calls Tryd.prog 3 #[v] w fun e w' => e = .returned (.bool true) ∧ Below w.heap.size w w' := by
  have hr : ReadS mutC 4 w v ms := by
    obtain ⟨ao, cap, rfl, hl, he⟩ := s
    exact ⟨ao, cap, rfl, hl, fun i x hx => by
      obtain ⟨b, o, cs, h1, h2, h3, h4, _⟩ := he i x hx
      exact ⟨b, o, cs, h1, h2, h3, h4⟩⟩
  have hok : ∀ m ∈ ms, TupOk m.2 := fun m hm => by
    obtain ⟨ao, cap, rfl, hl, he⟩ := s
    obtain ⟨i, hi⟩ := List.getElem?_of_mem hm
    obtain ⟨b, o, cs, h1, h2, h3, h4, h5⟩ := he i m hi
    exact h5
  refine keeps_any hr (fun hne k hk => ?_) z.2.2 hok z.1
  obtain ⟨ao, cap, rfl, _⟩ := hr.form
  cases ms with
  | nil => exact absurd rfl hne
  | cons m r =>
    obtain ⟨b, o, rfl, _, hb⟩ := hr.lt (by decide) mutC_len (i := 0) (x := m) rfl
    simp only [Value.ownBlock, Option.some.injEq] at hk
    omega
end Go.Proofs.YtojjnfhgldjgbaaDoor.Store
