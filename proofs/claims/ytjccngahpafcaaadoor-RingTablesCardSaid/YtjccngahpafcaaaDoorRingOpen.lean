/- Tables and pairs that came in. -/
import Derived.Test.YtjccngahpafcaaaDoorRows
import Derived.Test.YtjccngahpafcaaaDoorRows2
import Derived.Test.YtjccngahpafcaaaDoorRingT
import Derived.OpenShut
import Derived.SizedLaws
namespace Go.Proofs.YtjccngahpafcaaaDoor.RingO
open Go.RowKit Go.Por Go.ChangeShapes Go.WideShapes

theorem cellsI : Tryd.prog.cellsOf 3 = 1 := by kernel_rfl
theorem cells16 : Tryd.prog.cellsOf 22 = 16 := by kernel_rfl
theorem cellsT : Tryd.prog.cellsOf 24 = 17 := by kernel_rfl
theorem cells2 : Tryd.prog.cellsOf 33 = 2 := by kernel_rfl

theorem ints_of : ∀ (cs : List Value), (∀ i : Nat, i < cs.length → ∃ x, cs[i]? = some (.int .i64 x)) → ∃ xs : List Int, cs = xs.map (Value.int .i64)
  | [], _ => ⟨[], rfl⟩
  | c :: cs, h => by
    obtain ⟨x, hx⟩ := h 0 (by simp)
    obtain ⟨xs, hxs⟩ := ints_of cs (fun i hi => by simpa using h (i + 1) (by simpa using hi))
    simp at hx
    exact ⟨x :: xs, by rw [hx, hxs]; rfl⟩
section
variable {H : Type} {enc : TypeId × Value → H} {w : World} {spare : Nat → Bool} {held : Bool}
theorem open_ints {n : Nat} {t : TypeId} (hu : Tryd.prog.underlying t = some (.array n 3)) (hc : Tryd.prog.cellsOf t = n) (fuel : Nat) (cs : List Value) (y : DataW H × List MemPlace) (h : DataW.trod enc Tryd.prog w 0 spare held fuel t cs = some y) :
    ∃ xs : List Int, cs = xs.map (Value.int .i64) ∧ xs.length = n := by
  obtain ⟨xs, m, _, _, hl, hxl, hf⟩ := DataW.trod_array hu h
  rw [hc] at hl
  obtain ⟨zs, hzs⟩ := ints_of cs (fun i hi => by
    have g := hf i (by omega)
    rw [cellsI, Nat.mul_one] at g
    obtain ⟨z, hz⟩ : ∃ z, xs[i]? = some z := ⟨_, List.getElem?_eq_getElem (by omega)⟩
    rw [hz] at g
    obtain ⟨a, ha, _⟩ := DataW.trod_int Tryd.underlying3 g
    refine ⟨a, ?_⟩
    have := congrArg (fun q => q[0]?) ha
    simpa using this)
  exact ⟨zs, hzs, by rw [← hl, hzs, List.length_map]⟩
theorem open_tabC (fuel : Nat) (cs : List Value) (y : DataW H × List MemPlace) (h : DataW.trod enc Tryd.prog w 0 spare held fuel 24 cs = some y) : ∃ x : Int × List Int, cs = (tcells x.1 x.2).toList ∧ x.2.length = 16 := by
  obtain ⟨xs, n, _, _, hlen, hxl, hf⟩ := DataW.trod_struct Tryd.underlying24 h
  rw [cellsT] at hlen
  have g0 := hf 0 _ rfl
  have g1 := hf 1 _ rfl
  have hxl' : xs.length = 2 := hxl
  clear hxl hf h
  match cs, hlen, xs, hxl' with
  | c :: cs, hlen, [y0, y1], _ =>
    simp [cellsI, cells16] at g0 g1 hlen
    obtain ⟨a, ha, _⟩ := DataW.trod_int Tryd.underlying2 g0
    obtain ⟨xs, hxs, hl⟩ := open_ints Tryd.underlying22 cells16 _ _ _ g1
    obtain ⟨rfl, _⟩ := List.cons.inj ha
    rw [List.take_of_length_le (by omega)] at hxs
    exact ⟨(a, xs), by rw [tcells_list, hxs], hl⟩
theorem open_table {b0 : Nat} {r : Reach} {v : Value} {d : DataW H} {p : List MemPlace} (hv : Value.okWide Tryd.prog w r b0 24 v) (h : DataW.Trod enc Tryd.prog w 0 spare held 24 v d p) :
    ∃ x : Int × List Int, v = tval x.1 x.2 ∧ x.2.length = 16 := by
  obtain ⟨cs, rfl, _⟩ := okWide_struct Tryd.underlying24 hv
  obtain ⟨fuel, hf⟩ := h
  obtain ⟨x, hx, hl⟩ := open_tabC _ _ _ (show DataW.trod enc Tryd.prog w 0 spare held fuel 24 cs.toList = some (d, p) from hf)
  exact ⟨x, by rw [show cs = tcells x.1 x.2 from Array.toList_inj.1 hx], hl⟩
theorem open_pairC (fuel : Nat) (cs : List Value) (y : DataW H × List MemPlace) (h : DataW.trod enc Tryd.prog w 0 spare held fuel 33 cs = some y) : ∃ x : Int × Int, cs = [.int .i64 x.1, .int .i64 x.2] := by
  obtain ⟨xs, hxs, hl⟩ := open_ints Tryd.underlying33 cells2 _ _ _ h
  match xs, hl with
  | [a, b], _ => exact ⟨(a, b), hxs⟩
theorem open_pair2 {b0 : Nat} {r : Reach} {v : Value} {d : DataW H} {p : List MemPlace} (hv : Value.okWide Tryd.prog w r b0 33 v) (h : DataW.Trod enc Tryd.prog w 0 spare held 33 v d p) :
    ∃ x : Int × Int, v = .agg #[.int .i64 x.1, .int .i64 x.2] ∧ True := by
  unfold Value.okWide at hv
  rw [Tryd.underlying33] at hv
  obtain ⟨cs, rfl, _⟩ := hv
  obtain ⟨fuel, hf⟩ := h
  obtain ⟨x, hx⟩ := open_pairC _ _ _ (show DataW.trod enc Tryd.prog w 0 spare held fuel 33 cs.toList = some (d, p) from hf)
  exact ⟨x, by rw [show cs = #[.int .i64 x.1, .int .i64 x.2] from Array.toList_inj.1 hx], trivial⟩
theorem open_moves {fuel : Nat} {cs : List Value} {y : DataW H × List MemPlace} (h : DataW.trod enc Tryd.prog w 0 spare held fuel 32 cs = some y) :
    ∃ v xs, cs = [v] ∧ SliceIs 2 (fun _ cs (x : Int × Int) => cs = [.int .i64 x.1, .int .i64 x.2]) w v xs :=
  open_SliceIs Tryd.underlying32 cells2 (by omega) open_pairC h
theorem moves_small {ts : List TypeId} {ds : List (DataW H)} (hz : (DataW.weightsEach Tryd.prog ts ds).all (· ≤ reachBytes) = true) {j : Nat} {v : Value} {d : DataW H} {p : List MemPlace} {ms : List (Int × Int)} (ht : ts[j]? = some 32) (hd : ds[j]? = some d)
    (h : DataW.Trod enc Tryd.prog w 0 spare held 32 v d p) (hs : SliceIs 2 (fun _ cs (x : Int × Int) => cs = [.int .i64 x.1, .int .i64 x.2]) w v ms) : ms.length ≤ 1125899906842623 := by
  obtain ⟨ao, cap, rfl, _, _⟩ := hs
  obtain ⟨fuel, hf⟩ := h
  rcases Go.Deep.open_slice Tryd.underlying32 (show DataW.trod enc Tryd.prog w 0 spare held fuel 32 [.slice ao ms.length cap] = some (d, p) from hf) with ⟨h, _⟩ | ⟨a, len, cap', m, n, D, Pl, h, _, _, _, _, hx, _⟩
  · simp at h
    rw [h.2.1]
    decide
  · simp at h
    have hdd := (Prod.mk.inj hx).1
    rw [hdd] at hd
    have hb : Tryd.prog.bytesOf 33 = 16 := by kernel_rfl
    have hr : reachBytes = 140737488351232 := by kernel_rfl
    have := sized_slice hz ht hd Tryd.underlying32
    rw [hb, hr, List.length_map, List.length_range, ← h.2.1] at this
    omega
end
end Go.Proofs.YtjccngahpafcaaaDoor.RingO
