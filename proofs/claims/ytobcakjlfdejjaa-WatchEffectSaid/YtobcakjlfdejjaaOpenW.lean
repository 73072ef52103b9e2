/- Rows, tuples and changes that came in. -/
import Derived.Test.YtobcakjlfdejjaaRows
import Derived.Test.YtobcakjlfdejjaaRows2
import Derived.Test.YtobcakjlfdejjaaNetX
import Derived.OpenShut
import Derived.SizedLaws
set_option linter.unusedVariables false
set_option linter.unusedSimpArgs false
namespace Go.Proofs.Ytobcakjlfdejjaa.Watch
open Go.RowKit Go.Por Go.ChangeShapes Go.WideShapes

theorem cellsI64 : Try.prog.cellsOf 2 = 1 := by kernel_rfl
theorem cellsBool : Try.prog.cellsOf 4 = 1 := by kernel_rfl
theorem cellsStr : Try.prog.cellsOf 9 = 1 := by kernel_rfl
theorem cellsTup : Try.prog.cellsOf 37 = 3 := by kernel_rfl
theorem cellsMut : Try.prog.cellsOf 41 = 4 := by kernel_rfl
theorem cellsRow : Try.prog.cellsOf 39 = 5 := by kernel_rfl
theorem cellsChg : Try.prog.cellsOf 43 = 5 := by kernel_rfl
section
variable {H : Type} {enc : TypeId × Value → H} {w : World} {spare : Nat → Bool} {held : Bool}
set_option maxRecDepth 10000 in
theorem open_tup (fuel : Nat) (cs : List Value) (y : DataW H × List MemPlace) (h : DataW.trod enc Try.prog w 0 spare held fuel 37 cs = some y) : ∃ x, cs = tupC x := by
  obtain ⟨xs, n, _, _, hlen, hxl, hf⟩ := DataW.trod_struct Try.underlying37 h
  rw [cellsTup] at hlen
  have g0 := hf 0 _ rfl
  have g1 := hf 1 _ rfl
  have g2 := hf 2 _ rfl
  have hxl' : xs.length = 3 := hxl
  clear hxl hf h
  match cs, hlen, xs, hxl' with
  | [v0, v1, v2], _, [y0, y1, y2], _ =>
    simp [cellsStr] at g0 g1 g2
    obtain ⟨a, ha, _⟩ := DataW.trod_string Try.underlying9 g0
    obtain ⟨b, hb, _⟩ := DataW.trod_string Try.underlying9 g1
    obtain ⟨s, hs, _⟩ := DataW.trod_string Try.underlying9 g2
    simp at ha hb hs
    subst ha hb hs
    exact ⟨(a, b, s), rfl⟩
set_option maxRecDepth 10000 in
theorem open_rowC (fuel : Nat) (cs : List Value) (y : DataW H × List MemPlace) (h : DataW.trod enc Try.prog w 0 spare held fuel 39 cs = some y) : ∃ x, cs = rowC x := by
  obtain ⟨xs, n, _, _, hlen, hxl, hf⟩ := DataW.trod_struct Try.underlying39 h
  rw [cellsRow] at hlen
  have g0 := hf 0 _ rfl
  have g1 := hf 1 _ rfl
  have g2 := hf 2 _ rfl
  have hxl' : xs.length = 3 := hxl
  clear hxl hf h
  match cs, hlen, xs, hxl' with
  | [v0, v1, v2, v3, v4], _, [y0, y1, y2], _ =>
    simp [cellsTup, cellsI64] at g0 g1 g2
    obtain ⟨⟨a, b, s⟩, ha⟩ := open_tup _ _ _ g0
    obtain ⟨c, hc, _⟩ := DataW.trod_int Try.underlying2 g1
    obtain ⟨d, hd, _⟩ := DataW.trod_int Try.underlying2 g2
    simp [tupC] at ha hc hd
    obtain ⟨rfl, rfl, rfl⟩ := ha
    subst hc hd
    exact ⟨((a, b, s), c, d), rfl⟩
set_option maxRecDepth 10000 in
theorem open_mutC (fuel : Nat) (cs : List Value) (y : DataW H × List MemPlace) (h : DataW.trod enc Try.prog w 0 spare held fuel 41 cs = some y) : ∃ x, cs = mutC x := by
  obtain ⟨xs, n, _, _, hlen, hxl, hf⟩ := DataW.trod_struct Try.underlying41 h
  rw [cellsMut] at hlen
  have g0 := hf 0 _ rfl
  have g1 := hf 1 _ rfl
  have hxl' : xs.length = 2 := hxl
  clear hxl hf h
  match cs, hlen, xs, hxl' with
  | [v0, v1, v2, v3], _, [y0, y1], _ =>
    simp [cellsTup, cellsBool] at g0 g1
    obtain ⟨c, hc, _⟩ := DataW.trod_bool Try.underlying4 g0
    obtain ⟨⟨a, b, s⟩, ha⟩ := open_tup _ _ _ g1
    simp [tupC] at ha hc
    obtain ⟨rfl, rfl, rfl⟩ := ha
    subst hc
    exact ⟨(c, a, b, s), rfl⟩
set_option maxRecDepth 10000 in
theorem open_chgC (fuel : Nat) (cs : List Value) (y : DataW H × List MemPlace) (h : DataW.trod enc Try.prog w 0 spare held fuel 43 cs = some y) : ∃ x, cs = chgC x := by
  obtain ⟨xs, n, _, _, hlen, hxl, hf⟩ := DataW.trod_struct Try.underlying43 h
  rw [cellsChg] at hlen
  have g0 := hf 0 _ rfl
  have g1 := hf 1 _ rfl
  have hxl' : xs.length = 2 := hxl
  clear hxl hf h
  match cs, hlen, xs, hxl' with
  | [v0, v1, v2, v3, v4], _, [y0, y1], _ =>
    simp [cellsMut, cellsI64] at g0 g1
    obtain ⟨c, hc, _⟩ := DataW.trod_int Try.underlying2 g0
    obtain ⟨⟨d, a, b, s⟩, ha⟩ := open_mutC _ _ _ g1
    simp [mutC] at ha hc
    obtain ⟨rfl, rfl, rfl, rfl⟩ := ha
    subst hc
    exact ⟨(c, d, a, b, s), rfl⟩
theorem open_rows {fuel : Nat} {cs : List Value} {y : DataW H × List MemPlace} (h : DataW.trod enc Try.prog w 0 spare held fuel 22 cs = some y) : ∃ v xs, cs = [v] ∧ SliceIs 5 (fun _ cs x => cs = rowC x) w v xs :=
  open_SliceIs Try.underlying22 cellsRow (by omega) open_rowC h
theorem open_tups {fuel : Nat} {cs : List Value} {y : DataW H × List MemPlace} (h : DataW.trod enc Try.prog w 0 spare held fuel 30 cs = some y) : ∃ v xs, cs = [v] ∧ SliceIs 3 (fun _ cs x => cs = tupC x) w v xs :=
  open_SliceIs Try.underlying30 cellsTup (by omega) open_tup h
theorem open_chgs {fuel : Nat} {cs : List Value} {y : DataW H × List MemPlace} (h : DataW.trod enc Try.prog w 0 spare held fuel 25 cs = some y) : ∃ v xs, cs = [v] ∧ SliceIs 5 (fun _ cs x => cs = chgC x) w v xs :=
  open_SliceIs Try.underlying25 cellsChg (by omega) open_chgC h
theorem slice_small {α : Type} {c n : Nat} {f : α → List Value} {t e : TypeId} (hu : Try.prog.underlying t = some (.slice e)) (hby : Try.prog.bytesOf e = n) {ts : List TypeId} {ds : List (DataW H)} (hz : (DataW.weightsEach Try.prog ts ds).all (· ≤ reachBytes) = true) {j : Nat} {v : Value} {d : DataW H} {p : List MemPlace} {ms : List α} (ht : ts[j]? = some t) (hd : ds[j]? = some d)
    (h : DataW.Trod enc Try.prog w 0 spare held t v d p) (hs : SliceIs c (fun _ cs x => cs = f x) w v ms) : ms.length * n ≤ 140737488351232 := by
  obtain ⟨ao, cap, rfl, _, _⟩ := hs
  obtain ⟨fuel, hf⟩ := h
  rcases Go.Deep.open_slice hu (show DataW.trod enc Try.prog w 0 spare held fuel t [.slice ao ms.length cap] = some (d, p) from hf) with ⟨h, _⟩ | ⟨a, len, cap', m, n', D, Pl, h, _, _, _, _, hx, _⟩
  · simp at h
    rw [h.2.1]
    simp
  · simp at h
    have hdd := (Prod.mk.inj hx).1
    rw [hdd] at hd
    have hr : reachBytes = 140737488351232 := by kernel_rfl
    have := sized_slice hz ht hd hu
    rw [hby, hr, List.length_map, List.length_range, ← h.2.1] at this
    refine Nat.le_trans (Nat.mul_le_mul_right n ?_) this
    omega
theorem rows_small {ts : List TypeId} {ds : List (DataW H)} (hz : (DataW.weightsEach Try.prog ts ds).all (· ≤ reachBytes) = true) {j : Nat} {v : Value} {d : DataW H} {p : List MemPlace} {ms : List RowT} (ht : ts[j]? = some 22) (hd : ds[j]? = some d)
    (h : DataW.Trod enc Try.prog w 0 spare held 22 v d p) (hs : SliceIs 5 (fun _ cs x => cs = rowC x) w v ms) : ms.length * 64 ≤ 140737488351232 :=
  slice_small Try.underlying22 (by kernel_rfl) hz ht hd h hs
theorem chgs_small {ts : List TypeId} {ds : List (DataW H)} (hz : (DataW.weightsEach Try.prog ts ds).all (· ≤ reachBytes) = true) {j : Nat} {v : Value} {d : DataW H} {p : List MemPlace} {ms : List Chg} (ht : ts[j]? = some 25) (hd : ds[j]? = some d)
    (h : DataW.Trod enc Try.prog w 0 spare held 25 v d p) (hs : SliceIs 5 (fun _ cs x => cs = chgC x) w v ms) : ms.length * 64 ≤ 140737488351232 :=
  slice_small Try.underlying25 (by kernel_rfl) hz ht hd h hs
end
end Go.Proofs.Ytobcakjlfdejjaa.Watch
