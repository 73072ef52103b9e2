/- What a bounded slice of mutations gives that came in. -/
import Derived.Test.YtojjnfhgldjgbaaDoorBulkM
import Derived.Test.YtojjnfhgldjgbaaDoorAppend
set_option linter.unusedVariables false
set_option linter.unusedSimpArgs false
namespace Go.Proofs.YtojjnfhgldjgbaaDoor.Store
open Go.RowKit Go.Por Go.ChangeShapes Go.WideShapes Go.Proofs.YtojjnfhgldjgbaaDoor.Watch
theorem nil_ok {H : Type} {enc : TypeId × Value → H} {w : World} {spare : Nat → Bool} {held : Bool} {t e : TypeId} (hu : Tryd.prog.underlying t = some (.slice e)) {v : Value} {d : DataW H} {p : List MemPlace} {ao : Option Addr} {n cap : Nat} (hv : v = .slice ao n cap)
    (h : DataW.Trod enc Tryd.prog w 0 spare held t v d p) : NilOk v := by
  subst hv
  obtain ⟨fuel, hf⟩ := h
  rcases Go.Deep.open_slice hu (show DataW.trod enc Tryd.prog w 0 spare held fuel t [.slice ao n cap] = some (d, p) from hf) with ⟨h, _⟩ | ⟨a, len, cap', m, n', D, Pl, h, _⟩
  · simp only [List.cons.injEq, and_true] at h
    exact .inl h
  · simp only [List.cons.injEq, and_true] at h
    exact .inr ⟨a, len, cap', h⟩
/-- What a bounded slice of an argument gives. -/
def ArgOk (v : Value) (n : Nat) : Prop := n ≤ 1048576 ∧ CapOk v ∧ NilOk v
theorem muts_arg {H : Type} {enc : TypeId × Value → H} {w : World} {spare : Nat → Bool} {held : Bool} {ds : List (DataW H)} (hk : Rows.uptoSmall H ds = true) {v : Value} {d : DataW H} {p : List MemPlace} {ms : List Mut} (hd : d ∈ ds)
    (h : DataW.Trod enc Tryd.prog w 0 spare held 22 v d p) (hs : SliceIs 4 (fun _ cs x => cs = mutC x ∧ TupOk x.2) w v ms) : ArgOk v ms.length := by
  have h1 := muts_bulk hk hd h hs
  obtain ⟨ao, cap, hv, _⟩ := hs
  exact ⟨h1.1, h1.2, nil_ok Tryd.underlying22 hv h⟩
end Go.Proofs.YtojjnfhgldjgbaaDoor.Store
