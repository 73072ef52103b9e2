/- What the bound of an upto statement gives: a slice's length. -/
import Derived.Test.YtojjnfhgldjgbaaDoorOpenM
set_option linter.unusedVariables false
set_option linter.unusedSimpArgs false
namespace Go.Proofs.YtojjnfhgldjgbaaDoor.Store
open Go.RowKit Go.Por Go.ChangeShapes Go.WideShapes Go.Proofs.YtojjnfhgldjgbaaDoor.Watch

theorem bulk_one {H : Type} (d : DataW H) : 1 ≤ Rows.uptoBulk d := by
  cases d with
  | lit l => cases l <;> simp [Rows.uptoBulk]
  | nil => simp [Rows.uptoBulk]
  | ptr d => simp [Rows.uptoBulk]
  | slice elems spare => simp [Rows.uptoBulk]
  | agg parts => simp [Rows.uptoBulk]
  | iface t d => simp [Rows.uptoBulk]
  | map entries => simp [Rows.uptoBulk]
  | held h => simp [Rows.uptoBulk]
theorem bulk_part {H : Type} {d : DataW H} {l : List (DataW H)} (h : d ∈ l) : Rows.uptoBulk d ≤ Rows.uptoBulkAll l := by
  induction l with
  | nil => cases h
  | cons x r ih =>
    simp only [Rows.uptoBulkAll]
    rcases List.mem_cons.1 h with e | e
    · subst e; omega
    · have := ih e; omega
theorem bulk_len {H : Type} (l : List (DataW H)) : l.length ≤ Rows.uptoBulkAll l := by
  induction l with
  | nil => simp [Rows.uptoBulkAll]
  | cons x r ih => have := bulk_one x; simp only [Rows.uptoBulkAll, List.length_cons]; omega
theorem bulk_slice {H : Type} (elems spare : List (DataW H)) : elems.length ≤ Rows.uptoBulk (.slice elems spare) := by
  have h1 := bulk_len elems
  simp only [Rows.uptoBulk]
  omega
/-- A slice's length is within its capacity. -/
def CapOk (v : Value) : Prop := ∀ ao n cap, v = .slice ao n cap → n ≤ cap
section
variable {H : Type} {enc : TypeId × Value → H} {w : World} {spare : Nat → Bool} {held : Bool}
theorem slice_bulk {α : Type} {c : Nat} {t e : TypeId} (hu : Tryd.prog.underlying t = some (.slice e)) {ds : List (DataW H)} (hk : Rows.uptoSmall H ds = true) {v : Value} {d : DataW H} {p : List MemPlace} {ms : List α} (hd : d ∈ ds)
    (h : DataW.Trod enc Tryd.prog w 0 spare held t v d p) {R : World → List Value → α → Prop} (hs : SliceIs c R w v ms) : ms.length ≤ 1048576 ∧ CapOk v := by
  obtain ⟨ao, cap, rfl, _, _⟩ := hs
  obtain ⟨fuel, hf⟩ := h
  have hb : Rows.uptoBulkAll ds ≤ 1048576 := of_decide_eq_true hk
  have hp := bulk_part hd
  rcases Go.Deep.open_slice hu (show DataW.trod enc Tryd.prog w 0 spare held fuel t [.slice ao ms.length cap] = some (d, p) from hf) with ⟨h, _⟩ | ⟨a, len, cap', m, n', D, Pl, h, _, _, _, _, hx, _⟩
  · simp at h
    obtain ⟨h1, h0, h2⟩ := h
    have h3 : ms.length = 0 := by rw [h0]; rfl
    exact ⟨by omega, fun a b c e => by simp only [Value.slice.injEq] at e; omega⟩
  · rename_i hlc _ _ _
    simp at h
    have hdd := (Prod.mk.inj hx).1
    rw [hdd] at hp
    have := bulk_slice ((List.range len).map D) ((List.range (m - len)).map fun j => D (len + j))
    rw [List.length_map, List.length_range] at this
    refine ⟨by omega, fun a' b' c' e => ?_⟩
    simp only [Value.slice.injEq] at e
    omega
theorem muts_bulk {ds : List (DataW H)} (hk : Rows.uptoSmall H ds = true) {v : Value} {d : DataW H} {p : List MemPlace} {ms : List Mut} (hd : d ∈ ds)
    (h : DataW.Trod enc Tryd.prog w 0 spare held 22 v d p) (hs : SliceIs 4 (fun _ cs x => cs = mutC x ∧ TupOk x.2) w v ms) : ms.length ≤ 1048576 ∧ CapOk v := slice_bulk Tryd.underlying22 hk hd h hs
end
end Go.Proofs.YtojjnfhgldjgbaaDoor.Store
