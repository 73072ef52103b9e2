/- The cache's scripts that came in: one call each. -/
import Derived.Test.YtepgaphhinacmaaRows
import Derived.Test.YtepgaphhinacmaaRows2
namespace Go.Proofs.Ytepgaphhinacmaa.OpsC
open Go.RowKit Go.Por Go.ChangeShapes Go.WideShapes

/-- A call of the cache: its kind, its value, its key. -/
abbrev OpC := Int × Int × ByteArray
def opC (x : OpC) : List Value := [.int .i64 x.1, .int .i64 x.2.1, .string x.2.2]

theorem cellsInt : Try.prog.cellsOf 3 = 1 := by kernel_rfl
theorem cellsString : Try.prog.cellsOf 9 = 1 := by kernel_rfl
theorem cellsOpC : Try.prog.cellsOf 52 = 3 := by kernel_rfl

section
variable {H : Type} {enc : TypeId × Value → H} {w : World} {spare : Nat → Bool} {held : Bool}
set_option maxRecDepth 10000 in
theorem open_opC (fuel : Nat) (cs : List Value) (y : DataW H × List MemPlace) (h : DataW.trod enc Try.prog w 0 spare held fuel 52 cs = some y) : ∃ x, cs = opC x := by
  obtain ⟨xs, n, _, _, hlen, hxl, hf⟩ := DataW.trod_struct Try.underlying52 h
  rw [cellsOpC] at hlen
  have g0 := hf 0 _ rfl
  have g1 := hf 1 _ rfl
  have g2 := hf 2 _ rfl
  have hxl' : xs.length = 3 := hxl
  clear hxl hf h
  match cs, hlen, xs, hxl' with
  | [v0, v1, v2], _, [y0, y1, y2], _ =>
    simp [cellsInt, cellsString] at g0 g1 g2
    obtain ⟨a, ha, _⟩ := DataW.trod_int Try.underlying3 g0
    obtain ⟨b, hb, _⟩ := DataW.trod_int Try.underlying3 g1
    obtain ⟨s, hs, _⟩ := DataW.trod_string Try.underlying9 g2
    simp at ha hb hs
    subst ha hb hs
    exact ⟨(a, b, s), rfl⟩
theorem open_opsC {fuel : Nat} {cs : List Value} {y : DataW H × List MemPlace} (h : DataW.trod enc Try.prog w 0 spare held fuel 43 cs = some y) :
    ∃ v xs, cs = [v] ∧ SliceIs 3 (fun _ cs x => cs = opC x) w v xs :=
  open_SliceIs Try.underlying43 cellsOpC (by omega) open_opC h
end
end Go.Proofs.Ytepgaphhinacmaa.OpsC
