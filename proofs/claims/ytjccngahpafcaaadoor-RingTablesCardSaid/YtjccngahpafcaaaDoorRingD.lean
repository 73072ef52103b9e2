/- ring.Diff, Table.Slots. -/
import Derived.Test.YtjccngahpafcaaaDoorRingT
import Derived.Test.YtjccngahpafcaaaDoorRows
import Derived.Maps.AppendAt
import Derived.Deep.LoopGhost
import Derived.Deep.DeepCutAuto
import Derived.Deep.CutBlock
namespace Go.Proofs.YtjccngahpafcaaaDoor.RingF
open Go.RowKit Go.Por

theorem infoI : (Tryd.prog.info? 3).map (fun i => (i.zero, i.size, i.bytes)) = some (some (.int .i64 0), 1, 8) := by kernel_rfl
theorem infoA : (Tryd.prog.info? 22).map (·.size) = some 16 := by kernel_rfl
theorem infoT : (Tryd.prog.info? 24).map (·.size) = some 17 := by kernel_rfl

set_option maxRecDepth 100000 in
set_option maxHeartbeats 1600000 in
theorem diff_any (e : Int) (os : List Int) (e' : Int) (os' : List Int) (hl : os.length = 16) (hl' : os'.length = 16) (w : World) :
    Calls Tryd.prog 9 #[tval e os, tval e' os'] w fun x w' => ∃ v, x = .returned v ∧ w'.ownsRow w.heap.size 3 1 v (diffs os os' 16).length ((diffs os os' 16).map (Value.int .i64)) ∧ Below w.heap.size w w' := by
  obtain ⟨i0, hi, hz0, hz1, hz2⟩ := info_parts infoI
  have HL := Lib.hid (And.intro hl hl')
  clear hl hl'
  unfold tval
  go_enter Tryd.func9, Tryd.ntmps9
  go_wp2
  obtain ⟨B, hB⟩ : ∃ B, w.heap.size = B := ⟨_, rfl⟩
  generalize hW2 : (w.alloc (.cells (tcells e os) 24)).alloc (.cells (tcells e' os') 24) = W2 at *
  rw [hB]
  have hr0 : W2.heap[B]? = some (.cells (tcells e os) 24 (0, 0)) := by
    rw [← hW2, ← hB]; exact block_alloc (block_new w _) _
  have hr1 : W2.heap[B + 1]? = some (.cells (tcells e' os') 24 (0, 0)) := by
    rw [← hW2, ← hB]
    have := block_new (w.alloc (.cells (tcells e os) 24)) (.cells (tcells e' os') 24)
    rw [World.size_alloc] at this
    exact this
  have hb2 : Below B w W2 := by rw [← hW2, ← hB]; exact ((Below.refl _ w).alloc (Nat.le_refl _) _).alloc (by simp) _
  have HW := Lib.hid (And.intro hr0 (And.intro hr1 (And.intro hb2 hB)))
  clear hr0 hr1 hb2 hW2 hB
  go_loopg [5, 7] 16 (fun g vo i wx => ∃ t : Nat, t + g = 16 ∧ i = .int .i64 (t : Int) ∧
      wx.ownsRow (B + 1 + 1) 3 1 vo (diffs os os' t).length ((diffs os os' t).map (Value.int .i64)) ∧ Mod (fun x => B + 1 + 1 ≤ x) W2 wx)
  case atStart => exact ⟨0, by omega, rfl, World.ownsRow_nil _ _ _ _, Mod.refl _ _⟩
  case round =>
    obtain ⟨t, htg, rfl, hown, hmod⟩ := hrel
    by_cases hg : gk = 0
    · have hk0 : ¬ ((t : Int) < 16) := by omega
      have htl : t = 16 := by omega
      rw [htl] at hown
      have HE := Lib.hid (And.intro hown hmod)
      clear hown hmod htg hg htl
      go_wp2
      go_ret
      obtain ⟨hr0, hr1, hb2, hB⟩ := HW.out
      obtain ⟨hown, hmod⟩ := HE.out
      subst hB
      exact ⟨_, rfl, own_lower hown (by omega), hb2.trans (hmod.to_below hb2.size (fun x hx => by omega))⟩
    · have ht : (t : Int) < 16 := by omega
      have ht0 : (0 : Int) ≤ (t : Int) := by omega
      obtain ⟨hr0, hr1, hb2, hB⟩ := HW.out
      obtain ⟨x, hx⟩ : ∃ x, os[t]? = some x := ⟨_, List.getElem?_eq_getElem (by have := HL.out.1; omega)⟩
      obtain ⟨y, hy⟩ : ∃ y, os'[t]? = some y := ⟨_, List.getElem?_eq_getElem (by have := HL.out.2; omega)⟩
      have c0 : wr.cell? ⟨B, 1 + t, none⟩ = some (.int .i64 x) := cell_of (hmod.old hr0 (by omega)) (tcells_at e hx)
      have c1 : wr.cell? ⟨B + 1, 1 + t, none⟩ = some (.int .i64 y) := cell_of (hmod.old hr1 (by omega)) (tcells_at e' hy)
      have hsz := hmod.size
      have hB2 := lt_block hr1
      have hkl := diffs_le os os' t
      by_cases hxy : x = y
      · have q : (x != y) = false := by rw [hxy]; simp
        have HD := Lib.hid (diffs_no (a := os) (b := os') (n := t) (by rw [hx, hxy, ← hy]))
        have HE := Lib.hid (And.intro hown (And.intro hmod htg))
        clear hown hmod htg hg hr0 hr1 hb2 hB hx hy hxy hsz hB2 hkl
        go_wp2_with fail
        go_region
        all_goals
          go_wp2
          go_roundg (gk - 1)
          case measure => have := HE.out.2.2; omega
          case rel =>
            obtain ⟨hown, hmod, htg⟩ := HE.out
            exact ⟨t + 1, by omega, by go_num, by rw [HD.out]; exact hown, hmod.drew⟩
      · have q : (x != y) = true := by rw [bne_iff_ne]; exact hxy
        have HD := Lib.hid (diffs_yes (a := os) (b := os') (n := t) (by rw [hx, hy]; exact fun e => hxy (Option.some.inj e)))
        have HOD := Lib.hid (show wr.drew.ownsRow (B + 1 + 1) 3 1 _ (diffs os os' t).length ((diffs os os' t).map (Value.int .i64)) from hown)
        have HE := Lib.hid (And.intro hown (And.intro hmod htg))
        clear hown hmod htg hg hr0 hr1 hb2 hB hx hy hxy
        go_wp2_with fail
        go_region
        all_goals
          go_wp2_with (first
            | (at_builtin; refine wpList_append_own _ rfl _ _ 26 rfl (B + 1 + 1) 3 i0 (.int .i64 0) 1 8 Tryd.underlying26 hi hz0 hz1 hz2 rfl (by decide) _ _ _ rfl (HOD.out.alloc _) ⟨wr.heap.size, 0, none⟩ 1 1 [.int .i64 (t : Int)] rfl rfl (cell_one_new _ _ _) ?c2 ?c3 ?c4 ?c5 ?_))
        case c2 => intro u hu; simp at hu; subst hu; rfl
        case c3 => unfold maxLen; omega
        case c4 => omega
        case c5 => simp; omega
        · intro v' w1 hown' hgrow _
          have HS := Lib.hid (And.intro hown' hgrow)
          clear hown' hgrow
          go_wp2
          go_roundg (gk - 1)
          case measure => have := HE.out.2.2; omega
          case rel =>
            obtain ⟨hown, hmod, htg⟩ := HE.out
            refine ⟨t + 1, by omega, by go_num, ?_, (hmod.drew.alloc (.cells #[.int .i64 (t : Int)] 3)).trans (Mod.of_grown HS.out.2) (fun y hy => .inl ((hown.lt y hy.symm).1))⟩
            rw [HD.out, List.length_append, List.map_append]
            exact HS.out.1

theorem run_index_owner (os : List Int) {t : Nat} {x : Int} (hx : os[t]? = some x) (hl : os.length = 16) (w : World) :
    (Instr.index 22 (.agg (os.map (Value.int .i64)).toArray) (.int .i64 (t : Int))).run Tryd.prog w = .ok (.int .i64 x) w := by
  have ht : t < 16 := by rw [← hl]; exact (List.getElem?_eq_some_iff.1 hx).1
  have hs : (sizeOf 3).run Tryd.prog w = .ok 1 w := by kernel_rfl
  have hg : (isAgg 3).run Tryd.prog w = .ok false w := by kernel_rfl
  simp [Instr.index, asIntOf, Sem.run_bind, run_underlying Tryd.underlying22, hs, part, hg, ht, hx, Result.andThen]

set_option maxRecDepth 100000 in
set_option maxHeartbeats 1600000 in
theorem slots_any (e : Int) (os : List Int) (hl : os.length = 16) (x : Int) (w : World) :
    Calls Tryd.prog 21 #[tval e os, .int .i64 x] w fun r w' => ∃ v, r = .returned v ∧ w'.ownsRow w.heap.size 3 1 v (slotsOf os x 16).length ((slotsOf os x 16).map (Value.int .i64)) ∧ Below w.heap.size w w' := by
  obtain ⟨i0, hi, hz0, hz1, hz2⟩ := info_parts infoI
  have hinf : (Tryd.prog.info? 22).map (·.size) = some (os.map (Value.int .i64)).length := by rw [List.length_map, hl]; exact infoA
  have HL := Lib.hid (And.intro hl hinf)
  clear hl hinf
  unfold tval
  go_enter Tryd.func21, Tryd.ntmps21
  go_upto_region 2 with fail
  obtain ⟨B, hB⟩ : ∃ B, w.heap.size = B := ⟨_, rfl⟩
  generalize hW2 : (w.alloc (.cells (tcells e os) 24)) = W2 at *
  rw [hB]
  have hr0 : W2.heap[B]? = some (.cells (tcells e os) 24 (0, 0)) := by
    rw [← hW2, ← hB]; exact block_new w _
  have hb2 : Below B w W2 := by rw [← hW2, ← hB]; exact ((Below.refl _ w).alloc (Nat.le_refl _) _)
  have HW := Lib.hid (And.intro hr0 (And.intro hb2 hB))
  clear hr0 hb2 hW2 hB
  go_wp2_with (refine wpList_load_mid rfl 22 (.tmp 8) rfl B 1 rfl (os.map (Value.int .i64)) _ (range_owners HW.out.1) Tryd.underlying22 rfl HL.out.2 ?_)
  obtain ⟨arr, harr⟩ : ∃ arr, (os.map (Value.int .i64)).toArray = arr := ⟨_, rfl⟩
  rw [harr]
  have HA := Lib.hid harr
  clear harr
  go_loopg [5, 10] 16 (fun g vo i wx => ∃ t : Nat, t + g = 16 ∧ i = .int .i64 (t : Int) ∧
      wx.ownsRow (B + 1) 3 1 vo (slotsOf os x t).length ((slotsOf os x t).map (Value.int .i64)) ∧ Mod (fun x => B + 1 ≤ x) W2 wx)
  case atStart => exact ⟨0, by omega, rfl, World.ownsRow_nil _ _ _ _, Mod.refl _ _⟩
  case round =>
    obtain ⟨t, htg, rfl, hown, hmod⟩ := hrel
    by_cases hg : gk = 0
    · have hk0 : ¬ ((t : Int) < 16) := by omega
      have htl : t = 16 := by omega
      rw [htl] at hown
      have HE := Lib.hid (And.intro hown hmod)
      clear hown hmod htg hg htl
      go_wp2
      go_ret
      obtain ⟨hr0, hb2, hB⟩ := HW.out
      obtain ⟨hown, hmod⟩ := HE.out
      subst hB
      exact ⟨_, rfl, own_lower hown (by omega), hb2.trans (hmod.to_below hb2.size (fun x hx => by omega))⟩
    · have ht : (t : Int) < 16 := by omega
      have ht0 : (0 : Int) ≤ (t : Int) := by omega
      obtain ⟨hr0, hb2, hB⟩ := HW.out
      obtain ⟨y, hy⟩ : ∃ y, os[t]? = some y := ⟨_, List.getElem?_eq_getElem (by have := HL.out.1; omega)⟩
      have hix : ∀ w : World, (Instr.index 22 (.agg arr) (.int .i64 (t : Int))).run Tryd.prog w = .ok (.int .i64 y) w := fun w => by rw [← HA.out]; exact run_index_owner os hy HL.out.1 w
      have hsz := hmod.size
      have hB2 := lt_block hr0
      have hkl := slotsOf_le os x t
      by_cases hxy : y = x
      · have q : (y == x) = true := by rw [hxy]; simp
        have HD := Lib.hid (slotsOf_yes (a := os) (x := x) (n := t) (by rw [hy, hxy]))
        have HOD := Lib.hid hown
        have HE := Lib.hid (And.intro hown (And.intro hmod htg))
        clear hown hmod htg hg hr0 hb2 hB hy hxy
        go_wp2_with (first
            | (at_builtin; refine wpList_append_own _ rfl _ _ 26 rfl (B + 1) 3 i0 (.int .i64 0) 1 8 Tryd.underlying26 hi hz0 hz1 hz2 rfl (by decide) _ _ _ rfl (HOD.out.alloc _) ⟨wr.heap.size, 0, none⟩ 1 1 [.int .i64 (t : Int)] rfl rfl (cell_one_new _ _ _) ?c2 ?c3 ?c4 ?c5 ?_))
        case c2 => intro u hu; simp at hu; subst hu; rfl
        case c3 => unfold maxLen; omega
        case c4 => omega
        case c5 => simp; omega
        · intro v' w1 hown' hgrow _
          have HS := Lib.hid (And.intro hown' hgrow)
          clear hown' hgrow
          go_wp2
          go_roundg (gk - 1)
          case measure => have := HE.out.2.2; omega
          case rel =>
            obtain ⟨hown, hmod, htg⟩ := HE.out
            refine ⟨t + 1, by omega, by go_num, ?_, (hmod.alloc (.cells #[.int .i64 (t : Int)] 3)).trans (Mod.of_grown HS.out.2) (fun y hy => .inl ((hown.lt y hy.symm).1))⟩
            rw [HD.out, List.length_append, List.map_append]
            exact HS.out.1
      · have q : (y == x) = false := by rw [beq_eq_false_iff_ne]; exact hxy
        have HD := Lib.hid (slotsOf_no (a := os) (x := x) (n := t) (by rw [hy]; exact fun e => hxy (Option.some.inj e)))
        have HE := Lib.hid (And.intro hown (And.intro hmod htg))
        clear hown hmod htg hg hr0 hb2 hB hy hxy hsz hB2 hkl
        go_wp2
        go_roundg (gk - 1)
        case measure => have := HE.out.2.2; omega
        case rel =>
          obtain ⟨hown, hmod, htg⟩ := HE.out
          exact ⟨t + 1, by omega, by go_num, by rw [HD.out]; exact hown, hmod⟩
end Go.Proofs.YtjccngahpafcaaaDoor.RingF
