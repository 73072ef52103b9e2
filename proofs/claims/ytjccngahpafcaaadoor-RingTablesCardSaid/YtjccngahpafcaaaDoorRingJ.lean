/- Table.Check and the document's. -/
import Derived.Test.YtjccngahpafcaaaDoorRingK
import Derived.Shelf.GgClosure.Gives
namespace Go.Proofs.YtjccngahpafcaaaDoor.RingF
open Go.RowKit Go.Por Go.Sort Go.Shelf

/-- No node of so many. -/
def badO (nodes o : Int) : Bool := decide (o < 0) || decide (nodes ≤ o)
def chk (e : Int) (os : List Int) (nodes : Int) : Int := if e < 0 then 1 else if os.any (badO nodes) then 1 else 0

set_option maxHeartbeats 800000 in
theorem checkFn (nodes o : Int) (T : Nat) (w : World) (hx : w.cell? ⟨T, 0, none⟩ = some (.int .i64 nodes)) :
    Calls Tryd.prog 33 #[.int .i64 o, .pointer (some ⟨T, 0, none⟩)] w fun e w' => e = .returned (.bool (badO nodes o)) ∧ ∃ q, w' = w.drewN q := by
  by_cases h1 : o < 0
  · rw [show badO nodes o = true by unfold badO; simp [h1]]
    go_enter Tryd.func33, Tryd.ntmps33
    go_wp2
    go_ret
    exact ⟨rfl, 0, rfl⟩
  · by_cases h2 : nodes ≤ o
    · rw [show badO nodes o = true by unfold badO; simp [h2]]
      go_enter Tryd.func33, Tryd.ntmps33
      go_wp2
      go_ret
      exact ⟨rfl, 0, rfl⟩
    · rw [show badO nodes o = false by unfold badO; simp [h1, h2]]
      go_enter Tryd.func33, Tryd.ntmps33
      go_wp2
      go_ret
      exact ⟨rfl, 0, rfl⟩

set_option maxRecDepth 100000 in
set_option maxHeartbeats 1600000 in
theorem check_any (e : Int) (os : List Int) (hl : os.length = 16) (nodes : Int) (w : World) :
    Calls Tryd.prog 18 #[tval e os, .int .i64 nodes] w fun r w' => r = .returned (.int .i64 (chk e os nodes)) ∧ Below w.heap.size w w' := by
  have HL := Lib.hid hl
  clear hl
  unfold tval
  go_enter Tryd.func18, Tryd.ntmps18
  go_upto_region 1 with fail
  obtain ⟨B, hB⟩ : ∃ B, w.heap.size = B := ⟨_, rfl⟩
  generalize hW2 : (w.alloc (.cells (tcells e os) 24)).alloc (.cells #[.int .i64 nodes] 3) = W2 at *
  rw [hB]
  have hr0 : W2.heap[B]? = some (.cells (tcells e os) 24 (0, 0)) := by
    rw [← hW2, ← hB]; exact block_alloc (block_new w _) _
  have hr1 : W2.heap[B + 1]? = some (.cells #[.int .i64 nodes] 3 (0, 0)) := by
    rw [← hW2, ← hB]
    have := block_new (w.alloc (.cells (tcells e os) 24)) (.cells #[.int .i64 nodes] 3)
    rw [World.size_alloc] at this
    exact this
  have hb2 : Below w.heap.size w W2 := by rw [← hW2]; exact ((Below.refl _ w).alloc (Nat.le_refl _) _).alloc (by simp) _
  have c0 : W2.cell? ⟨B, 0, none⟩ = some (.int .i64 e) := cell_of hr0 (tcells_zero e os)
  have HW := Lib.hid (And.intro hr0 (And.intro hr1 (And.intro hb2 hB)))
  clear hr0 hr1 hb2 hW2 hB
  by_cases he : e < 0
  · have HCk := Lib.hid (show chk e os nodes = 1 by unfold chk; rw [if_pos he])
    go_wp2
    go_ret
    rw [HCk.out]
    exact ⟨rfl, HW.out.2.2.1⟩
  · have hc : ∀ j, j < os.length → W2.cell? ⟨B, 1 + j, none⟩ = some (.int .i64 os[j]!) := fun j hj => by
      refine cell_of HW.out.1 (tcells_at e ?_)
      simp [hj]
    have hp : PredAt Tryd.prog 33 #[.pointer (some ⟨B + 1, 0, none⟩)] (Value.int .i64) (badO nodes) W2 := fun W x hb => by
      have h1 : W.cell? ⟨B + 1, 0, none⟩ = some (.int .i64 nodes) := by
        rw [hb.cell (p := ⟨B + 1, 0, none⟩) (lt_block HW.out.2.1)]
        exact cell_of HW.out.2.1 rfl
      exact checkFn nodes x (B + 1) W h1
    have HP := Lib.hid (And.intro hc hp)
    clear hc hp
    go_wp2_with fail
    have hcon := Tryd.slices_ContainsFunc (Value.int .i64) (badO nodes) 33 #[.pointer (some ⟨B + 1, 0, none⟩)] (enters_of Tryd.func33 (by kernel_rfl) rfl) B 1 16 16 os W2 HP.out.2 (by rw [HL.out]; exact Nat.le_refl _) (by omega) HP.out.1
    refine hcon.mono ?_
    rintro r w3 ⟨rfl, q, rfl⟩
    have hb3 : Below w.heap.size w (W2.drewN q) := HW.out.2.2.1.trans (Mod.to_below ((Mod.refl (fun _ => False) W2).drewN q) HW.out.2.2.1.size (fun _ h => h.elim))
    rw [List.take_of_length_le (by rw [HL.out]; exact Nat.le_refl _)]
    cases ha : os.any (badO nodes) with
    | true =>
      have HCk := Lib.hid (show chk e os nodes = 1 by unfold chk; rw [if_neg (show ¬ e < 0 by omega), ha]; rfl)
      have HB := Lib.hid hb3
      clear ha hb3
      go_wp2
      go_ret
      rw [HCk.out]
      exact ⟨rfl, HB.out⟩
    | false =>
      have HCk := Lib.hid (show chk e os nodes = 0 by unfold chk; rw [if_neg (show ¬ e < 0 by omega), ha]; rfl)
      have HB := Lib.hid hb3
      clear ha hb3
      go_wp2
      go_ret
      rw [HCk.out]
      exact ⟨rfl, HB.out⟩

set_option maxRecDepth 100000 in
set_option maxHeartbeats 1600000 in
theorem refcheck_any (e : Int) (os : List Int) (hl : os.length = 16) (nodes : Int) (w : World) :
    Calls Tryd.prog 19 #[tval e os, .int .i64 nodes] w fun r w' => r = .returned (.int .i64 (chk e os nodes)) ∧ Below w.heap.size w w' := by
  have HL := Lib.hid hl
  clear hl
  unfold tval
  go_enter Tryd.func19, Tryd.ntmps19
  go_wp2
  obtain ⟨B, hB⟩ : ∃ B, w.heap.size = B := ⟨_, rfl⟩
  generalize hW2 : (w.alloc (.cells (tcells e os) 41)) = W2 at *
  rw [hB]
  have hr0 : W2.heap[B]? = some (.cells (tcells e os) 41 (0, 0)) := by
    rw [← hW2, ← hB]; exact block_new w _
  have hb2 : Below w.heap.size w W2 := by rw [← hW2]; exact (Below.refl _ w).alloc (Nat.le_refl _) _
  have c0 : W2.cell? ⟨B, 0, none⟩ = some (.int .i64 e) := cell_of hr0 (tcells_zero e os)
  have HW := Lib.hid (And.intro hr0 (And.intro hb2 hB))
  clear hr0 hb2 hW2 hB
  go_loopg [5] 16 (fun g i wx => ∃ t : Nat, t + g = 16 ∧ i = .int .i64 (t : Int) ∧ (os.take t).any (badO nodes) = false ∧ wx = W2)
  case atStart => exact ⟨0, by omega, rfl, rfl, rfl⟩
  case round =>
    obtain ⟨t, htg, rfl, hno, rfl⟩ := hrel
    by_cases hg : gk = 0
    · have hk : ¬ ((t : Int) < 16) := by omega
      obtain rfl : t = 16 := by omega
      rw [List.take_of_length_le (by rw [HL.out]; exact Nat.le_refl _)] at hno
      by_cases he : e < 0
      · have HCk := Lib.hid (show chk e os nodes = 1 by unfold chk; rw [if_pos he])
        clear htg hg hno
        go_wp2
        go_ret
        rw [HCk.out]
        exact ⟨rfl, HW.out.2.1⟩
      · have HCk := Lib.hid (show chk e os nodes = 0 by unfold chk; rw [if_neg he, hno]; rfl)
        clear htg hg hno
        go_wp2
        go_ret
        rw [HCk.out]
        exact ⟨rfl, HW.out.2.1⟩
    · have ht : (t : Int) < 16 := by omega
      have ht0 : (0 : Int) ≤ (t : Int) := by omega
      obtain ⟨x, hx⟩ : ∃ x, os[t]? = some x := ⟨_, List.getElem?_eq_getElem (by have := HL.out; omega)⟩
      have c1 : wr.cell? ⟨B, 1 + t, none⟩ = some (.int .i64 x) := cell_of HW.out.1 (tcells_at e hx)
      by_cases h1 : x < 0 ∨ nodes ≤ x
      · have hc : chk e os nodes = 1 := by
          unfold chk
          split
          · rfl
          · rw [if_pos (List.any_eq_true.2 ⟨x, List.mem_of_getElem? hx, by unfold badO; simpa using h1⟩)]
        have HCk := Lib.hid hc
        have H1 := Lib.hid h1
        clear htg hg hno hx hc
        rcases h1 with h1 | h1
        · go_wp2
          go_ret
          rw [HCk.out]
          exact ⟨rfl, HW.out.2.1⟩
        · go_wp2
          all_goals
            go_ret
            rw [HCk.out]
            exact ⟨rfl, HW.out.2.1⟩
      · have h2 : ¬ x < 0 := fun h => h1 (.inl h)
        have h3 : ¬ nodes ≤ x := fun h => h1 (.inr h)
        have hs : (os.take (t + 1)).any (badO nodes) = false := by
          rw [List.take_add_one, hx, Option.toList_some, List.any_append, hno]
          unfold badO
          simp [h2, h3]
        have HT := Lib.hid (And.intro hs htg)
        clear htg hg hno hx hs h1
        go_wp2
        go_roundg (gk - 1)
        case measure => have := HT.out.2; omega
        case rel => exact ⟨t + 1, by have := HT.out.2; omega, by go_num, HT.out.1, rfl⟩
end Go.Proofs.YtjccngahpafcaaaDoor.RingF
