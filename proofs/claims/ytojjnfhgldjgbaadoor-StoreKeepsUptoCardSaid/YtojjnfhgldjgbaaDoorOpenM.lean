/- Mutations that came in: as a list, with texts of bounded size. -/
import Derived.Test.YtojjnfhgldjgbaaDoorRows
import Derived.Test.YtojjnfhgldjgbaaDoorChkP
import Derived.OpenShut
import Derived.SizedLaws
set_option linter.unusedVariables false
set_option linter.unusedSimpArgs false
namespace Go.Proofs.YtojjnfhgldjgbaaDoor.Store
open Go.RowKit Go.Por Go.ChangeShapes Go.WideShapes Go.Proofs.YtojjnfhgldjgbaaDoor.Watch
theorem cellsBool : Tryd.prog.cellsOf 4 = 1 := by kernel_rfl
theorem cellsStr : Tryd.prog.cellsOf 9 = 1 := by kernel_rfl
theorem cellsTup : Tryd.prog.cellsOf 27 = 3 := by kernel_rfl
theorem cellsMut : Tryd.prog.cellsOf 30 = 4 := by kernel_rfl
section
variable {H : Type} {enc : TypeId × Value → H} {w : World} {spare : Nat → Bool} {held : Bool}
set_option maxRecDepth 10000 in
theorem open_tup (fuel : Nat) (cs : List Value) (y : DataW H × List MemPlace) (h : DataW.trod enc Tryd.prog w 0 spare held fuel 27 cs = some y) : ∃ x, cs = tupC x ∧ TupOk x := by
  obtain ⟨xs, n, _, _, hlen, hxl, hf⟩ := DataW.trod_struct Tryd.underlying27 h
  rw [cellsTup] at hlen
  have g0 := hf 0 _ rfl
  have g1 := hf 1 _ rfl
  have g2 := hf 2 _ rfl
  have hxl' : xs.length = 3 := hxl
  clear hxl hf h
  match cs, hlen, xs, hxl' with
  | [v0, v1, v2], _, [y0, y1, y2], _ =>
    simp [cellsStr] at g0 g1 g2
    obtain ⟨a, ha, _, za⟩ := DataW.trod_string Tryd.underlying9 g0
    obtain ⟨b, hb, _, zb⟩ := DataW.trod_string Tryd.underlying9 g1
    obtain ⟨s, hs, _, zs⟩ := DataW.trod_string Tryd.underlying9 g2
    simp at ha hb hs
    subst ha hb hs
    exact ⟨(a, b, s), rfl, by unfold maxLen at za; exact za, by unfold maxLen at zb; exact zb, by unfold maxLen at zs; exact zs⟩
set_option maxRecDepth 10000 in
theorem open_mutC (fuel : Nat) (cs : List Value) (y : DataW H × List MemPlace) (h : DataW.trod enc Tryd.prog w 0 spare held fuel 30 cs = some y) : ∃ x, cs = mutC x ∧ TupOk x.2 := by
  obtain ⟨xs, n, _, _, hlen, hxl, hf⟩ := DataW.trod_struct Tryd.underlying30 h
  rw [cellsMut] at hlen
  have g0 := hf 0 _ rfl
  have g1 := hf 1 _ rfl
  have hxl' : xs.length = 2 := hxl
  clear hxl hf h
  match cs, hlen, xs, hxl' with
  | [v0, v1, v2, v3], _, [y0, y1], _ =>
    simp [cellsTup, cellsBool] at g0 g1
    obtain ⟨c, hc, _⟩ := DataW.trod_bool Tryd.underlying4 g0
    obtain ⟨⟨a, b, s⟩, ha, hok⟩ := open_tup _ _ _ g1
    simp [tupC] at ha hc
    obtain ⟨rfl, rfl, rfl⟩ := ha
    subst hc
    exact ⟨(c, a, b, s), rfl, hok⟩
theorem open_muts {fuel : Nat} {cs : List Value} {y : DataW H × List MemPlace} (h : DataW.trod enc Tryd.prog w 0 spare held fuel 22 cs = some y) : ∃ v xs, cs = [v] ∧ SliceIs 4 (fun _ cs x => cs = mutC x ∧ TupOk x.2) w v xs :=
  open_SliceIs Tryd.underlying22 cellsMut (by omega) open_mutC h
end
end Go.Proofs.YtojjnfhgldjgbaaDoor.Store
