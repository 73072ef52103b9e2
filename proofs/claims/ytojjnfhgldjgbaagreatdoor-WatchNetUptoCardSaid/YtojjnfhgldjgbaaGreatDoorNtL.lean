/- WatchNet, where what came in is of bulk at most 1048576: what leads from some tuples to others does so in a store, and n: part 12 of 32: what it leans on. -/
import Derived.Deep.LoopGhost
import Derived.Test.YtojjnfhgldjgbaaGreatDoorNtA
import Derived.Test.YtojjnfhgldjgbaaGreatDoorNtB
import Derived.Test.YtojjnfhgldjgbaaGreatDoorNtC
import Derived.Test.YtojjnfhgldjgbaaGreatDoorNtD
import Derived.Test.YtojjnfhgldjgbaaGreatDoorNtE
section
set_option linter.unusedVariables false
set_option linter.unusedSimpArgs false
namespace Go.Proofs.YtojjnfhgldjgbaaGreatDoor.Watch
open Go.RowKit Go.Por Go.Sort

/-- The tuples are sorted in place (a nil slice is left). -/
theorem sort_tup {w : World} {v : Value} {l : List Tup} (h : OwnS tupC 3 w 41 v l) (hl : l.length < 4611686018427387904) :
    Calls Tryz.prog 46 #[v, .func (.func 44) #[] #[]] w fun e w' =>
      e = .returned (.tuple #[]) ∧ OwnS tupC 3 w' 41 v (l.mergeSort tle) ∧ Mod (fun x => some x = v.ownBlock) w w' := by
  rcases h.form with ⟨rfl, rfl⟩ | ⟨g, cap, rfl, hc1, hc2⟩
  · refine (AnyF.slices_SortFunc_none Tryz.laysSortTuple none 0 _ w).mono ?_
    rintro e w' ⟨he, rfl⟩
    exact ⟨he, by simpa using h, Mod.refl _ _⟩
  · have eg : ∀ args w, (callFunc 44 args).run Tryz.prog w = .ok (.enter 44 args) w := enters_of Tryz.func44 (by kernel_rfl) rfl
    have hcon := AnyQ.slices_SortFunc_total Tryz.laysSortTuple 3 aggTup sizeTup tupC tupC_len tupC_one tcmp tupSwo 44 #[] g 0 cap l.toArray w eg (fun _ _ _ _ x y => compare_any x y _) (h.holds tupC_len) h.lt (by simpa using hl) tupTotal
    refine hcon.mono ?_
    rintro e w' ⟨he, n, os, rfl⟩
    have := h.sorted tupC_len (l' := l.mergeSort tle) (List.mergeSort_perm _ _).length_eq n os
    exact ⟨he, this.1, this.2.mono (fun x _ hx => by rw [show x = g from hx]; rfl)⟩
end Go.Proofs.YtojjnfhgldjgbaaGreatDoor.Watch
end
section
set_option linter.unusedVariables false
set_option linter.unusedSimpArgs false
namespace Go.Proofs.YtojjnfhgldjgbaaGreatDoor.Watch
open Go.RowKit Go.Por Go.Sort

/-- A change: its revision; the mutation. -/
abbrev Chg := Int × Bool × Tup
def chgC (x : Chg) : List Value := [.int .i64 x.1, .bool x.2.1, .string x.2.2.1, .string x.2.2.2.1, .string x.2.2.2.2]
def or2v (a b : Int) : Int := if a = 0 then b else a
def ccmp (x y : Chg) : Int := or2v (Lib.compareInt x.1 y.1) (tcmp x.2.2 y.2.2)
def rcmp (x y : RowT) : Int := or2v (tcmp x.1 y.1) (Lib.compareInt x.2.1 y.2.1)

set_option maxRecDepth 100000 in
set_option maxHeartbeats 800000 in
theorem net_order (x y : Mut) (w : World) : Calls Tryz.prog 56 #[.agg (mutC x).toArray, .agg (mutC y).toArray] w fun e w' => e = .returned (.int .i64 (mcmp x y)) ∧ Gr w w' := by
  obtain ⟨x0, x1, x2, x3⟩ := x
  obtain ⟨y0, y1, y2, y3⟩ := y
  unfold mutC mcmp
  have hc := fun w => compare_any (x1, x2, x3) (y1, y2, y3) w
  unfold tupC at hc
  have HC := Lib.hid hc
  clear hc
  go_enter Tryz.func56, Tryz.ntmps56
  go_wp2_with fail
  ((with_reducible refine (HC.out _).mono ?_); rintro e w1 ⟨rfl, hg⟩)
  have HG := Lib.hid ((((Gr.refl w).alloc _).alloc _).trans hg)
  clear hg
  go_wp2
  go_ret
  exact ⟨rfl, HG.out⟩

set_option maxHeartbeats 800000 in
theorem or2 (a b : Int) (g : Nat) (w : World) (h0 : w.cell? ⟨g, 0, none⟩ = some (.int .i64 a)) (h1 : w.cell? ⟨g, 1, none⟩ = some (.int .i64 b)) :
    Calls Tryz.prog 43 #[.slice (some ⟨g, 0, none⟩) 2 2] w fun e w' => e = .returned (.int .i64 (or2v a b)) ∧ w = w' := by
  have HH := Lib.hid (And.intro h0 h1)
  clear h0 h1
  go_enter Tryz.func43, Tryz.ntmps43
  go_wp2
  go_loopg [8] 2 (fun k i wx => ∃ t : Nat, t + k = 2 ∧ i = .int .i64 (t : Int) ∧ (1 ≤ t → a = 0) ∧ (2 ≤ t → b = 0) ∧ wx = w)
  case atStart => exact ⟨0, by omega, rfl, fun h => by omega, fun h => by omega, rfl⟩
  case round =>
    obtain ⟨t, htk, rfl, ha, hb, rfl⟩ := hrel
    rcases (show t = 0 ∨ t = 1 ∨ t = 2 by omega) with rfl | rfl | rfl
    · have c0 := HH.out.1
      by_cases h : a = 0
      · have q : (a != 0) = false := by rw [h]; rfl
        have HK := Lib.hid (And.intro h htk)
        clear h ha hb htk
        go_wp2
        go_roundg 1
        case measure => have := HK.out.2; omega
        case rel => exact ⟨1, rfl, rfl, fun _ => HK.out.1, fun h => by omega, rfl⟩
      · have q : (a != 0) = true := by rw [bne_iff_ne]; exact h
        have HK := Lib.hid h
        clear h ha hb htk
        go_wp2
        go_ret
        rw [or2v, if_neg HK.out]
        exact ⟨rfl, rfl⟩
    · have c1 := HH.out.2
      have ha0 := ha (Nat.le_refl _)
      by_cases h : b = 0
      · have q : (b != 0) = false := by rw [h]; rfl
        have HK := Lib.hid (And.intro h (And.intro htk ha0))
        clear h ha hb htk ha0
        go_wp2
        go_roundg 0
        case measure => have := HK.out.2.1; omega
        case rel => exact ⟨2, rfl, rfl, fun _ => HK.out.2.2, fun _ => HK.out.1, rfl⟩
      · have q : (b != 0) = true := by rw [bne_iff_ne]; exact h
        have HK := Lib.hid (And.intro h ha0)
        clear h ha hb htk ha0
        go_wp2
        go_ret
        rw [or2v, if_pos HK.out.2]
        exact ⟨rfl, rfl⟩
    · have HK := Lib.hid (And.intro (ha (by omega)) (hb (Nat.le_refl _)))
      clear ha hb htk
      go_wp2
      go_ret
      rw [or2v, if_pos HK.out.1, HK.out.2]
      exact ⟨rfl, rfl⟩

set_option maxRecDepth 100000 in
set_option maxHeartbeats 1600000 in

set_option maxRecDepth 100000 in
set_option maxHeartbeats 800000 in
theorem chg_order (x y : Chg) (w : World) : Calls Tryz.prog 40 #[.agg (chgC x).toArray, .agg (chgC y).toArray] w fun e w' => e = .returned (.int .i64 (ccmp x y)) ∧ Gr w w' := by
  obtain ⟨xr, xd, x1, x2, x3⟩ := x
  obtain ⟨yr, yd, y1, y2, y3⟩ := y
  unfold chgC ccmp
  have hc := fun w => compare_any (x1, x2, x3) (y1, y2, y3) w
  unfold tupC at hc
  obtain ⟨n, hn⟩ : ∃ n, tcmp (x1, x2, x3) (y1, y2, y3) = n := ⟨_, rfl⟩
  rw [hn] at hc
  simp only
  rw [hn]
  have HC := Lib.hid hc
  clear hc hn
  go_enter Tryz.func40, Tryz.ntmps40
  go_upto_region 1 with fail
  obtain ⟨B, hB⟩ : ∃ B, w.heap.size = B := ⟨_, rfl⟩
  generalize hW2 : World.alloc (World.alloc w _) _ = W2 at *
  rw [hB]
  have hg : Gr w W2 := by rw [← hW2]; exact ((Gr.refl w).alloc _).alloc _
  have b0 : W2.heap[B]? = some (.cells #[.int .i64 xr, .bool xd, .string x1, .string x2, .string x3] 83 (0, 0)) := by rw [← hW2, ← hB]; exact block_alloc (block_new w _) _
  have b1 : W2.heap[B + 1]? = some (.cells #[.int .i64 yr, .bool yd, .string y1, .string y2, .string y3] 83 (0, 0)) := by
    rw [← hW2, ← hB]
    have := block_new (w.alloc (.cells #[.int .i64 xr, .bool xd, .string x1, .string x2, .string x3] 83)) (.cells #[.int .i64 yr, .bool yd, .string y1, .string y2, .string y3] 83)
    rw [World.size_alloc] at this
    exact this
  have HW := Lib.hid (And.intro b0 (And.intro b1 hg))
  clear hW2 hB b0 b1 hg
  refine wp_region_held_drew (S := fun w' => Gr W2 w') (by kernel_rfl) ((Gr.refl W2).drew) (fun hS => ?_)
  refine takeD (i := 0) rfl (by kernel_rfl) (by kernel_rfl) (by kernel_rfl) (fun _ _ _ h => h) hS (Or.inl ⟨by rfl, fun w hSw => by go_simp; rfl⟩) ?_
  simp only [Act.put, List.setIfInBounds_toArray, List.set_cons_zero, List.set_cons_succ]
  refine takeD (i := 1) rfl (by kernel_rfl) (by kernel_rfl) (by kernel_rfl) (fun _ _ _ h => h) hS (v := .int .i64 xr) (Or.inl ⟨by rfl, fun w hSw => by have k0 := cell_of (i := 0) ((hSw.below.block _ (lt_block HW.out.1)).trans HW.out.1) rfl; go_simp⟩) ?_
  simp only [Act.put, List.setIfInBounds_toArray, List.set_cons_zero, List.set_cons_succ]
  refine takeD (i := 2) rfl (by kernel_rfl) (by kernel_rfl) (by kernel_rfl) (fun _ _ _ h => h) hS (Or.inl ⟨by rfl, fun w hSw => by go_simp; rfl⟩) ?_
  simp only [Act.put, List.setIfInBounds_toArray, List.set_cons_zero, List.set_cons_succ]
  refine takeD (i := 3) rfl (by kernel_rfl) (by kernel_rfl) (by kernel_rfl) (fun _ _ _ h => h) hS (v := .int .i64 yr) (Or.inl ⟨by rfl, fun w hSw => by have k0 := cell_of (i := 0) ((hSw.below.block _ (lt_block HW.out.2.1)).trans HW.out.2.1) rfl; go_simp⟩) ?_
  simp only [Act.put, List.setIfInBounds_toArray, List.set_cons_zero, List.set_cons_succ]
  refine takeD (i := 5) rfl (by kernel_rfl) (by kernel_rfl) (by kernel_rfl) (fun _ _ _ h => h) hS (Or.inl ⟨by rfl, fun w hSw => by go_simp; rfl⟩) ?_
  simp only [Act.put, List.setIfInBounds_toArray, List.set_cons_zero, List.set_cons_succ]
  refine takeD (i := 6) rfl (by kernel_rfl) (by kernel_rfl) (by kernel_rfl) (fun _ _ _ h => h) hS (Or.inl ⟨by rfl, fun w hSw => by go_simp; rfl⟩) ?_
  simp only [Act.put, List.setIfInBounds_toArray, List.set_cons_zero, List.set_cons_succ]
  refine takeD (i := 7) rfl (by kernel_rfl) (by kernel_rfl) (by kernel_rfl) (fun _ _ _ h => h) hS (v := .agg #[.string x1, .string x2, .string x3]) (Or.inl ⟨by rfl, fun w hSw => by have k2 := cell_of (i := 2) ((hSw.below.block _ (lt_block HW.out.1)).trans HW.out.1) rfl; have k3 := cell_of (i := 3) ((hSw.below.block _ (lt_block HW.out.1)).trans HW.out.1) rfl; have k4 := cell_of (i := 4) ((hSw.below.block _ (lt_block HW.out.1)).trans HW.out.1) rfl; go_simp⟩) ?_
  simp only [Act.put, List.setIfInBounds_toArray, List.set_cons_zero, List.set_cons_succ]
  refine takeD (i := 8) rfl (by kernel_rfl) (by kernel_rfl) (by kernel_rfl) (fun _ _ _ h => h) hS (Or.inl ⟨by rfl, fun w hSw => by go_simp; rfl⟩) ?_
  simp only [Act.put, List.setIfInBounds_toArray, List.set_cons_zero, List.set_cons_succ]
  refine takeD (i := 9) rfl (by kernel_rfl) (by kernel_rfl) (by kernel_rfl) (fun _ _ _ h => h) hS (Or.inl ⟨by rfl, fun w hSw => by go_simp; rfl⟩) ?_
  simp only [Act.put, List.setIfInBounds_toArray, List.set_cons_zero, List.set_cons_succ]
  refine takeD (i := 10) rfl (by kernel_rfl) (by kernel_rfl) (by kernel_rfl) (fun _ _ _ h => h) hS (v := .agg #[.string y1, .string y2, .string y3]) (Or.inl ⟨by rfl, fun w hSw => by have k2 := cell_of (i := 2) ((hSw.below.block _ (lt_block HW.out.2.1)).trans HW.out.2.1) rfl; have k3 := cell_of (i := 3) ((hSw.below.block _ (lt_block HW.out.2.1)).trans HW.out.2.1) rfl; have k4 := cell_of (i := 4) ((hSw.below.block _ (lt_block HW.out.2.1)).trans HW.out.2.1) rfl; go_simp⟩) ?_
  simp only [Act.put, List.setIfInBounds_toArray, List.set_cons_zero, List.set_cons_succ]
  refine wpAnyH_ready (rs := [4]) (by kernel_rfl) (by simp) ?_
  refine consD (i := 4) rfl (fun K hK => ?_) AllReadyH.nil
  rw [if_pos (by rfl)]
  go_simp
  ((with_reducible refine (Tryz.cmp_Compare_int xr yr _).mono ?_); rintro e w' ⟨rfl, rfl⟩)
  dsimp only
  refine hK.out _ _ hS (fun hS => ?_)
  clear hK K
  refine wpAnyH_ready (rs := [11]) (by kernel_rfl) (by simp) ?_
  refine consD (i := 11) rfl (fun K hK => ?_) AllReadyH.nil
  rw [if_pos (by rfl)]
  go_simp
  ((with_reducible refine (HC.out _).mono ?_); rintro e w' ⟨rfl, hg'⟩)
  dsimp only
  refine hK.out _ _ (hS.trans hg') (fun hS => ?_)
  clear hK K
  refine wpAnyH_ready (rs := [12]) (by kernel_rfl) (by simp) ?_
  refine consD (i := 12) rfl (fun K hK => ?_) AllReadyH.nil
  rw [if_pos (by rfl)]
  go_simp
  refine hK.out _ _ (hS.alloc _) (fun hS => ?_)
  clear hK K
  refine wpAnyH_ready (rs := [13]) (by kernel_rfl) (by simp) ?_
  refine consD (i := 13) rfl (fun K hK => ?_) AllReadyH.nil
  rw [if_pos (by rfl)]
  go_simp
  ((with_reducible refine (or2 (Lib.compareInt xr yr) n _ _ (cell_of (block_new _ _) rfl) (cell_of (block_new _ _) rfl)).mono ?_); rintro e w'' ⟨rfl, rfl⟩)
  dsimp only
  refine hK.out _ _ hS (fun hS => ?_)
  clear hK K
  refine takeD (i := 14) rfl (by kernel_rfl) (by kernel_rfl) (by kernel_rfl) (fun _ _ _ h => h) hS (Or.inl ⟨by rfl, fun w hSw => by go_simp; rfl⟩) ?_
  simp only [Act.put, List.setIfInBounds_toArray, List.set_cons_zero, List.set_cons_succ]
  refine wpAnyH_done (by kernel_rfl) ?_ _
  go_wp2
  go_ret
  exact ⟨rfl, HW.out.2.2.trans hS⟩

set_option maxRecDepth 100000 in
set_option maxHeartbeats 800000 in
theorem row_order (x y : RowT) (w : World) : Calls Tryz.prog 42 #[.agg (rowC x).toArray, .agg (rowC y).toArray] w fun e w' => e = .returned (.int .i64 (rcmp x y)) ∧ Gr w w' := by
  obtain ⟨⟨x1, x2, x3⟩, xr, xu⟩ := x
  obtain ⟨⟨y1, y2, y3⟩, yr, yu⟩ := y
  unfold rowC rcmp
  have hc := fun w => compare_any (x1, x2, x3) (y1, y2, y3) w
  unfold tupC at hc
  obtain ⟨n, hn⟩ : ∃ n, tcmp (x1, x2, x3) (y1, y2, y3) = n := ⟨_, rfl⟩
  rw [hn] at hc
  simp only
  rw [hn]
  have HC := Lib.hid hc
  clear hc hn
  go_enter Tryz.func42, Tryz.ntmps42
  go_upto_region 1 with fail
  obtain ⟨B, hB⟩ : ∃ B, w.heap.size = B := ⟨_, rfl⟩
  generalize hW2 : World.alloc (World.alloc w _) _ = W2 at *
  rw [hB]
  have hg : Gr w W2 := by rw [← hW2]; exact ((Gr.refl w).alloc _).alloc _
  have b0 : W2.heap[B]? = some (.cells #[.string x1, .string x2, .string x3, .int .i64 xr, .int .i64 xu] 63 (0, 0)) := by rw [← hW2, ← hB]; exact block_alloc (block_new w _) _
  have b1 : W2.heap[B + 1]? = some (.cells #[.string y1, .string y2, .string y3, .int .i64 yr, .int .i64 yu] 63 (0, 0)) := by
    rw [← hW2, ← hB]
    have := block_new (w.alloc (.cells #[.string x1, .string x2, .string x3, .int .i64 xr, .int .i64 xu] 63)) (.cells #[.string y1, .string y2, .string y3, .int .i64 yr, .int .i64 yu] 63)
    rw [World.size_alloc] at this
    exact this
  have HW := Lib.hid (And.intro b0 (And.intro b1 hg))
  clear hW2 hB b0 b1 hg
  refine wp_region_held_drew (S := fun w' => Gr W2 w') (by kernel_rfl) ((Gr.refl W2).drew) (fun hS => ?_)
  refine takeD (i := 0) rfl (by kernel_rfl) (by kernel_rfl) (by kernel_rfl) (fun _ _ _ h => h) hS (Or.inl ⟨by rfl, fun w hSw => by go_simp; rfl⟩) ?_
  simp only [Act.put, List.setIfInBounds_toArray, List.set_cons_zero, List.set_cons_succ]
  refine takeD (i := 1) rfl (by kernel_rfl) (by kernel_rfl) (by kernel_rfl) (fun _ _ _ h => h) hS (v := .agg #[.string x1, .string x2, .string x3]) (Or.inl ⟨by rfl, fun w hSw => by have k0 := cell_of (i := 0) ((hSw.below.block _ (lt_block HW.out.1)).trans HW.out.1) rfl; have k1 := cell_of (i := 1) ((hSw.below.block _ (lt_block HW.out.1)).trans HW.out.1) rfl; have k2 := cell_of (i := 2) ((hSw.below.block _ (lt_block HW.out.1)).trans HW.out.1) rfl; go_simp⟩) ?_
  simp only [Act.put, List.setIfInBounds_toArray, List.set_cons_zero, List.set_cons_succ]
  refine takeD (i := 2) rfl (by kernel_rfl) (by kernel_rfl) (by kernel_rfl) (fun _ _ _ h => h) hS (Or.inl ⟨by rfl, fun w hSw => by go_simp; rfl⟩) ?_
  simp only [Act.put, List.setIfInBounds_toArray, List.set_cons_zero, List.set_cons_succ]
  refine takeD (i := 3) rfl (by kernel_rfl) (by kernel_rfl) (by kernel_rfl) (fun _ _ _ h => h) hS (v := .agg #[.string y1, .string y2, .string y3]) (Or.inl ⟨by rfl, fun w hSw => by have k0 := cell_of (i := 0) ((hSw.below.block _ (lt_block HW.out.2.1)).trans HW.out.2.1) rfl; have k1 := cell_of (i := 1) ((hSw.below.block _ (lt_block HW.out.2.1)).trans HW.out.2.1) rfl; have k2 := cell_of (i := 2) ((hSw.below.block _ (lt_block HW.out.2.1)).trans HW.out.2.1) rfl; go_simp⟩) ?_
  simp only [Act.put, List.setIfInBounds_toArray, List.set_cons_zero, List.set_cons_succ]
  refine takeD (i := 5) rfl (by kernel_rfl) (by kernel_rfl) (by kernel_rfl) (fun _ _ _ h => h) hS (Or.inl ⟨by rfl, fun w hSw => by go_simp; rfl⟩) ?_
  simp only [Act.put, List.setIfInBounds_toArray, List.set_cons_zero, List.set_cons_succ]
  refine takeD (i := 6) rfl (by kernel_rfl) (by kernel_rfl) (by kernel_rfl) (fun _ _ _ h => h) hS (v := .int .i64 xr) (Or.inl ⟨by rfl, fun w hSw => by have k3 := cell_of (i := 3) ((hSw.below.block _ (lt_block HW.out.1)).trans HW.out.1) rfl; go_simp⟩) ?_
  simp only [Act.put, List.setIfInBounds_toArray, List.set_cons_zero, List.set_cons_succ]
  refine takeD (i := 7) rfl (by kernel_rfl) (by kernel_rfl) (by kernel_rfl) (fun _ _ _ h => h) hS (Or.inl ⟨by rfl, fun w hSw => by go_simp; rfl⟩) ?_
  simp only [Act.put, List.setIfInBounds_toArray, List.set_cons_zero, List.set_cons_succ]
  refine takeD (i := 8) rfl (by kernel_rfl) (by kernel_rfl) (by kernel_rfl) (fun _ _ _ h => h) hS (v := .int .i64 yr) (Or.inl ⟨by rfl, fun w hSw => by have k3 := cell_of (i := 3) ((hSw.below.block _ (lt_block HW.out.2.1)).trans HW.out.2.1) rfl; go_simp⟩) ?_
  simp only [Act.put, List.setIfInBounds_toArray, List.set_cons_zero, List.set_cons_succ]
  refine wpAnyH_ready (rs := [4]) (by kernel_rfl) (by simp) ?_
  refine consD (i := 4) rfl (fun K hK => ?_) AllReadyH.nil
  rw [if_pos (by rfl)]
  go_simp
  ((with_reducible refine (HC.out _).mono ?_); rintro e w' ⟨rfl, hg'⟩)
  dsimp only
  refine hK.out _ _ (hS.trans hg') (fun hS => ?_)
  clear hK K
  refine wpAnyH_ready (rs := [9]) (by kernel_rfl) (by simp) ?_
  refine consD (i := 9) rfl (fun K hK => ?_) AllReadyH.nil
  rw [if_pos (by rfl)]
  go_simp
  ((with_reducible refine (Tryz.cmp_Compare_int xr yr _).mono ?_); rintro e w' ⟨rfl, rfl⟩)
  dsimp only
  refine hK.out _ _ hS (fun hS => ?_)
  clear hK K
  refine wpAnyH_ready (rs := [10]) (by kernel_rfl) (by simp) ?_
  refine consD (i := 10) rfl (fun K hK => ?_) AllReadyH.nil
  rw [if_pos (by rfl)]
  go_simp
  refine hK.out _ _ (hS.alloc _) (fun hS => ?_)
  clear hK K
  refine wpAnyH_ready (rs := [11]) (by kernel_rfl) (by simp) ?_
  refine consD (i := 11) rfl (fun K hK => ?_) AllReadyH.nil
  rw [if_pos (by rfl)]
  go_simp
  ((with_reducible refine (or2 n (Lib.compareInt xr yr) _ _ (cell_of (block_new _ _) rfl) (cell_of (block_new _ _) rfl)).mono ?_); rintro e w'' ⟨rfl, rfl⟩)
  dsimp only
  refine hK.out _ _ hS (fun hS => ?_)
  clear hK K
  refine takeD (i := 12) rfl (by kernel_rfl) (by kernel_rfl) (by kernel_rfl) (fun _ _ _ h => h) hS (Or.inl ⟨by rfl, fun w hSw => by go_simp; rfl⟩) ?_
  simp only [Act.put, List.setIfInBounds_toArray, List.set_cons_zero, List.set_cons_succ]
  refine wpAnyH_done (by kernel_rfl) ?_ _
  go_wp2
  go_ret
  exact ⟨rfl, HW.out.2.2.trans hS⟩
end Go.Proofs.YtojjnfhgldjgbaaGreatDoor.Watch
end
section
set_option linter.unusedVariables false
set_option linter.unusedSimpArgs false
namespace Go.Proofs.YtojjnfhgldjgbaaGreatDoor.Watch
open Go.RowKit Go.Por Go.Sort

/-- Two parts of one length change places, one by one. -/
def swapR {α : Type} (l : List α) (a b : Nat) : Nat → List α
  | 0 => l
  | k + 1 => match (swapR l a b k)[a + k]?, (swapR l a b k)[b + k]? with
    | some x, some y => ((swapR l a b k).set (a + k) y).set (b + k) x
    | _, _ => swapR l a b k
theorem swapR_length {α : Type} (l : List α) (a b : Nat) : ∀ k, (swapR l a b k).length = l.length
  | 0 => rfl
  | k + 1 => by
    rw [swapR]
    split
    · rw [List.length_set, List.length_set, swapR_length]
    · exact swapR_length l a b k
theorem chgC_len (x : Chg) : (chgC x).length = 5 := rfl
theorem chgC_one (x : Chg) : (chgC x).toArray.all (·.oneCell') = true := by simp [chgC, Value.oneCell']
theorem infoC : (Tryz.prog.info? 83).map (·.size) = some 5 := by kernel_rfl

set_option maxRecDepth 100000 in
set_option maxHeartbeats 800000 in
theorem swapRange_chg {w : World} {g cap : Nat} {l : List Chg} (h : OwnS chgC 5 w 83 (.slice (some ⟨g, 0, none⟩) l.length cap) l) (hl : l.length < 4611686018427387904) (a b n : Nat) (hab : a + n ≤ l.length) (hbb : b + n ≤ l.length) (fv : Value) :
    Calls Tryz.prog 182 #[.slice (some ⟨g, 0, none⟩) l.length cap, .int .i64 (a : Int), .int .i64 (b : Int), .int .i64 (n : Int), fv] w fun e w' =>
      e = .returned (.tuple #[]) ∧ OwnS chgC 5 w' 83 (.slice (some ⟨g, 0, none⟩) l.length cap) (swapR l a b n) ∧ Mod (fun x => x = g) w w' := by
  obtain ⟨L, hL⟩ : ∃ L, l.length = L := ⟨_, rfl⟩
  rw [hL] at h hl hab hbb ⊢
  have HH := Lib.hid (And.intro h hL)
  clear h hL
  go_enter Tryz.func182, Tryz.ntmps182
  go_wp2
  go_loopg [10] n (fun gg i wx => ∃ t : Nat, t + gg = n ∧ i = .int .i64 (t : Int) ∧ OwnS chgC 5 wx 83 (.slice (some ⟨g, 0, none⟩) L cap) (swapR l a b t) ∧ Mod (fun x => x = g) w wx)
  case atStart => exact ⟨0, by omega, rfl, HH.out.1, Mod.refl _ _⟩
  case round =>
    obtain ⟨t, htg, rfl, hown, hmod⟩ := hrel
    by_cases hg : gk = 0
    · have hk : ¬ ((t : Int) < (n : Int)) := by omega
      obtain rfl : t = n := by omega
      have HE := Lib.hid (And.intro hown hmod)
      clear hown hmod htg hg
      go_wp2
      go_end0
      exact ⟨rfl, HE.out⟩
    · have ht : (t : Int) < (n : Int) := by omega
      obtain ⟨p, hp⟩ : ∃ p, a + t = p := ⟨_, rfl⟩
      obtain ⟨q, hq⟩ : ∃ q, b + t = q := ⟨_, rfl⟩
      have e1 : IntKind.i64.wrap (p : Int) = (p : Int) := by simp [IntKind.wrap, IntKind.bits, IntKind.signed]; omega
      have e2 : IntKind.i64.wrap (q : Int) = (q : Int) := by simp [IntKind.wrap, IntKind.bits, IntKind.signed]; omega
      have e3 : (a : Int) + (t : Int) = (p : Int) := by omega
      have e4 : (b : Int) + (t : Int) = (q : Int) := by omega
      have p0 : (0 : Int) ≤ (p : Int) := by omega
      have p1 : (p : Int) < (L : Int) := by omega
      have q0 : (0 : Int) ≤ (q : Int) := by omega
      have q1 : (q : Int) < (L : Int) := by omega
      have hlen : (swapR l a b t).length = L := by rw [swapR_length]; exact HH.out.2
      obtain ⟨x, hx⟩ : ∃ x, (swapR l a b t)[p]? = some x := ⟨_, List.getElem?_eq_getElem (by omega)⟩
      obtain ⟨y, hy⟩ : ∃ y, (swapR l a b t)[q]? = some y := ⟨_, List.getElem?_eq_getElem (by omega)⟩
      have hnext : swapR l a b (t + 1) = ((swapR l a b t).set p y).set q x := by
        rw [swapR, hp, hq, hx, hy]
      obtain ⟨cx, hcx⟩ : ∃ cx, chgC x = cx := ⟨_, rfl⟩
      obtain ⟨cy, hcy⟩ : ∃ cy, chgC y = cy := ⟨_, rfl⟩
      have hx5 : cx.length = 5 := by rw [← hcx]; rfl
      have hy5 : cy.length = 5 := by rw [← hcy]; rfl
      have hx1 : cx.toArray.all (·.oneCell') = true := by rw [← hcx]; exact chgC_one x
      have hy1 : cy.toArray.all (·.oneCell') = true := by rw [← hcy]; exact chgC_one y
      have HX := Lib.hid (And.intro hcx (And.intro hcy (And.intro hx5 (And.intro hy5 (And.intro hx1 hy1)))))
      clear hcx hcy hx5 hy5 hx1 hy1
      obtain ⟨l1, hl1⟩ : ∃ l1, swapR l a b t = l1 := ⟨_, rfl⟩
      rw [hl1] at hown hlen hx hy hnext
      have HI := Lib.hid (And.intro hown (And.intro hmod (And.intro htg (And.intro hlen (And.intro hx (And.intro hy hnext))))))
      clear hown hmod htg hlen hx hy hnext hl1 hp hq
      have HD := Lib.hid (show OwnS chgC 5 wr.drew 83 (.slice (some ⟨g, 0, none⟩) L cap) l1 from HI.out.1)
      have HDm := Lib.hid (show Mod (fun x => x = g) w wr.drew from HI.out.2.1.drew)
      go_wp2_with fail
      refine wp_region_held_drew (S := fun _ => True) (by kernel_rfl) trivial (fun hS => ?_)
      refine takeD (i := 0) rfl (by kernel_rfl) (by kernel_rfl) (by kernel_rfl) (fun _ _ _ h => h) hS (Or.inl ⟨by rfl, fun w hSw => by go_simp; rfl⟩) ?_
      simp only [Act.put, List.setIfInBounds_toArray, List.set_cons_zero, List.set_cons_succ]
      refine takeD (i := 1) rfl (by kernel_rfl) (by kernel_rfl) (by kernel_rfl) (fun _ _ _ h => h) hS (Or.inl ⟨by rfl, fun w hSw => by go_simp; rfl⟩) ?_
      simp only [Act.put, List.setIfInBounds_toArray, List.set_cons_zero, List.set_cons_succ]
      refine takeD (i := 2) rfl (by kernel_rfl) (by kernel_rfl) (by kernel_rfl) (fun _ _ _ h => h) hS (Or.inl ⟨by rfl, fun w hSw => by go_simp; rfl⟩) ?_
      simp only [Act.put, List.setIfInBounds_toArray, List.set_cons_zero, List.set_cons_succ]
      refine takeD (i := 3) rfl (by kernel_rfl) (by kernel_rfl) (by kernel_rfl) (fun _ _ _ h => h) hS (Or.inl ⟨by rfl, fun w hSw => by go_simp; rfl⟩) ?_
      simp only [Act.put, List.setIfInBounds_toArray, List.set_cons_zero, List.set_cons_succ]
      refine takeD (i := 4) rfl (by kernel_rfl) (by kernel_rfl) (by kernel_rfl) (fun _ _ _ h => h) hS (Or.inl ⟨by rfl, fun w hSw => by go_simp; rfl⟩) ?_
      simp only [Act.put, List.setIfInBounds_toArray, List.set_cons_zero, List.set_cons_succ]
      refine takeD (i := 5) rfl (by kernel_rfl) (by kernel_rfl) (by kernel_rfl) (fun _ _ _ h => h) hS (Or.inl ⟨by rfl, fun w hSw => by go_simp; rfl⟩) ?_
      simp only [Act.put, List.setIfInBounds_toArray, List.set_cons_zero, List.set_cons_succ]
      refine takeD (i := 6) rfl (by kernel_rfl) (by kernel_rfl) (by kernel_rfl) (fun _ _ _ h => h) hS (Or.inl ⟨by rfl, fun w hSw => by go_simp; rfl⟩) ?_
      simp only [Act.put, List.setIfInBounds_toArray, List.set_cons_zero, List.set_cons_succ]
      refine takeD (i := 7) rfl (by kernel_rfl) (by kernel_rfl) (by kernel_rfl) (fun _ _ _ h => h) hS (Or.inl ⟨by rfl, fun w hSw => by go_simp; rfl⟩) ?_
      simp only [Act.put, List.setIfInBounds_toArray, List.set_cons_zero, List.set_cons_succ]
      refine takeD (i := 8) rfl (by kernel_rfl) (by kernel_rfl) (by kernel_rfl) (fun _ _ _ h => h) hS (Or.inl ⟨by rfl, fun w hSw => by go_simp; rfl⟩) ?_
      simp only [Act.put, List.setIfInBounds_toArray, List.set_cons_zero, List.set_cons_succ]
      refine takeD (i := 9) rfl (by kernel_rfl) (by kernel_rfl) (by kernel_rfl) (fun _ _ _ h => h) hS (Or.inl ⟨by rfl, fun w hSw => by go_simp; rfl⟩) ?_
      simp only [Act.put, List.setIfInBounds_toArray, List.set_cons_zero, List.set_cons_succ]
      refine takeD (i := 10) rfl (by kernel_rfl) (by kernel_rfl) (by kernel_rfl) (fun _ _ _ h => h) hS (Or.inl ⟨by rfl, fun w hSw => by go_simp; rfl⟩) ?_
      simp only [Act.put, List.setIfInBounds_toArray, List.set_cons_zero, List.set_cons_succ]
      refine takeD (i := 11) rfl (by kernel_rfl) (by kernel_rfl) (by kernel_rfl) (fun _ _ _ h => h) hS (Or.inl ⟨by rfl, fun w hSw => by go_simp; rfl⟩) ?_
      simp only [Act.put, List.setIfInBounds_toArray, List.set_cons_zero, List.set_cons_succ]
      refine takeD (i := 12) rfl (by kernel_rfl) (by kernel_rfl) (by kernel_rfl) (fun _ _ _ h => h) hS (Or.inl ⟨by rfl, fun w hSw => by go_simp; rfl⟩) ?_
      simp only [Act.put, List.setIfInBounds_toArray, List.set_cons_zero, List.set_cons_succ]
      refine takeD (i := 14) rfl (by kernel_rfl) (by kernel_rfl) (by kernel_rfl) (fun _ _ _ h => h) hS (Or.inl ⟨by rfl, fun w hSw => by go_simp; rfl⟩) ?_
      simp only [Act.put, List.setIfInBounds_toArray, List.set_cons_zero, List.set_cons_succ]
      refine takeD (i := 15) rfl (by kernel_rfl) (by kernel_rfl) (by kernel_rfl) (fun _ _ _ h => h) hS (Or.inl ⟨by rfl, fun w hSw => by go_simp; rfl⟩) ?_
      simp only [Act.put, List.setIfInBounds_toArray, List.set_cons_zero, List.set_cons_succ]
      refine takeD (i := 16) rfl (by kernel_rfl) (by kernel_rfl) (by kernel_rfl) (fun _ _ _ h => h) hS (Or.inl ⟨by rfl, fun w hSw => by go_simp; rfl⟩) ?_
      simp only [Act.put, List.setIfInBounds_toArray, List.set_cons_zero, List.set_cons_succ]
      refine takeD (i := 17) rfl (by kernel_rfl) (by kernel_rfl) (by kernel_rfl) (fun _ _ _ h => h) hS (Or.inl ⟨by rfl, fun w hSw => by go_simp; rfl⟩) ?_
      simp only [Act.put, List.setIfInBounds_toArray, List.set_cons_zero, List.set_cons_succ]
      refine takeD (i := 18) rfl (by kernel_rfl) (by kernel_rfl) (by kernel_rfl) (fun _ _ _ h => h) hS (Or.inl ⟨by rfl, fun w hSw => by go_simp; rfl⟩) ?_
      simp only [Act.put, List.setIfInBounds_toArray, List.set_cons_zero, List.set_cons_succ]
      refine wpAnyH_ready (rs := [13, 19]) (by kernel_rfl) (by simp) ?_
      refine consD (i := 13) rfl (fun K hK => ?_) (consD (i := 19) rfl (fun K hK => ?_) AllReadyH.nil)
      · rw [if_pos (by rfl)]
        refine wp_load_mid 83 (.tmp 28) rfl g (q * 5) rfl cy _ (by rw [← HX.out.2.1]; exact OwnS.range chgC_len HD.out HI.out.2.2.2.2.2.1) Tryz.underlying83 rfl (by rw [HX.out.2.2.2.1]; exact infoC) ?_
        simp only [Act.put, List.setIfInBounds_toArray, List.set_cons_zero, List.set_cons_succ]
        refine hK.out _ _ trivial (fun hS => ?_)
        clear hK K
        refine wpAnyH_ready (rs := [19]) (by kernel_rfl) (by simp) ?_
        refine consD (i := 19) rfl (fun K hK => ?_) AllReadyH.nil
        rw [if_pos (by rfl)]
        refine wp_load_mid 83 (.tmp 34) rfl g (p * 5) rfl cx _ (by rw [← HX.out.1]; exact OwnS.range chgC_len HD.out HI.out.2.2.2.2.1) Tryz.underlying83 rfl (by rw [HX.out.2.2.1]; exact infoC) ?_
        simp only [Act.put, List.setIfInBounds_toArray, List.set_cons_zero, List.set_cons_succ]
        refine hK.out _ _ trivial (fun hS => ?_)
        clear hK K
        refine takeD (i := 20) rfl (by kernel_rfl) (by kernel_rfl) (by kernel_rfl) (fun _ _ _ h => h) hS (Or.inl ⟨by rfl, fun w hSw => by go_simp; rfl⟩) ?_
        simp only [Act.put, List.setIfInBounds_toArray, List.set_cons_zero, List.set_cons_succ]
        refine wpAnyH_ready (rs := [21]) (by kernel_rfl) (by simp) ?_
        refine consD (i := 21) rfl (fun K hK => ?_) AllReadyH.nil
        rw [if_pos (by rfl)]
        refine wp_store_mid 83 (.tmp 36) (.tmp 29) rfl g (p * 5) cy.toArray rfl rfl (by rw [List.size_toArray, HX.out.2.2.2.1]; exact OwnS.there HD.out (by have := HI.out.2.2.2.1; omega)) (by rw [List.size_toArray, HX.out.2.2.2.1]; exact infoC) HX.out.2.2.2.2.2 ?_
        simp only [Act.put, List.setIfInBounds_toArray, List.set_cons_zero, List.set_cons_succ]
        refine hK.out _ _ trivial (fun hS => ?_)
        clear hK K
        refine takeD (i := 22) rfl (by kernel_rfl) (by kernel_rfl) (by kernel_rfl) (fun _ _ _ h => h) hS (Or.inl ⟨by rfl, fun w hSw => by go_simp; rfl⟩) ?_
        simp only [Act.put, List.setIfInBounds_toArray, List.set_cons_zero, List.set_cons_succ]
        refine wpAnyH_ready (rs := [23]) (by kernel_rfl) (by simp) ?_
        refine consD (i := 23) rfl (fun K hK => ?_) AllReadyH.nil
        rw [if_pos (by rfl)]
        refine wp_store_mid 83 (.tmp 37) (.tmp 35) rfl g (q * 5) cx.toArray rfl rfl (by rw [List.size_toArray, HX.out.2.2.1, ← HX.out.2.1]; exact OwnS.there (OwnS.store chgC_len HD.out (i := p) (by have := HI.out.2.2.2.1; omega) y) (by rw [List.length_set]; have := HI.out.2.2.2.1; omega)) (by rw [List.size_toArray, HX.out.2.2.1]; exact infoC) HX.out.2.2.2.2.1 ?_
        simp only [Act.put, List.setIfInBounds_toArray, List.set_cons_zero, List.set_cons_succ]
        refine hK.out _ _ trivial (fun hS => ?_)
        clear hK K
        refine wpAnyH_done (by kernel_rfl) ?_ _
        go_wp2
        go_roundg (gk - 1)
        case measure => have := HI.out.2.2.1; omega
        case rel =>
          have hs2 := OwnS.store chgC_len (OwnS.store chgC_len HD.out (i := p) (by have := HI.out.2.2.2.1; omega) y) (i := q) (by rw [List.length_set]; have := HI.out.2.2.2.1; omega) x
          rw [HX.out.1, HX.out.2.1] at hs2
          exact ⟨t + 1, by have := HI.out.2.2.1; omega, by go_num, by rw [HI.out.2.2.2.2.2.2]; exact hs2, ((HDm.out.trans' (Mod.setCells (S := fun x => x = g) (.inl rfl) _ _ (Mod.refl _ _))).trans' (Mod.setCells (S := fun x => x = g) (.inl rfl) _ _ (Mod.refl _ _)))⟩
      · rw [if_pos (by rfl)]
        refine wp_load_mid 83 (.tmp 34) rfl g (p * 5) rfl cx _ (by rw [← HX.out.1]; exact OwnS.range chgC_len HD.out HI.out.2.2.2.2.1) Tryz.underlying83 rfl (by rw [HX.out.2.2.1]; exact infoC) ?_
        simp only [Act.put, List.setIfInBounds_toArray, List.set_cons_zero, List.set_cons_succ]
        refine hK.out _ _ trivial (fun hS => ?_)
        clear hK K
        refine wpAnyH_ready (rs := [13]) (by kernel_rfl) (by simp) ?_
        refine consD (i := 13) rfl (fun K hK => ?_) AllReadyH.nil
        rw [if_pos (by rfl)]
        refine wp_load_mid 83 (.tmp 28) rfl g (q * 5) rfl cy _ (by rw [← HX.out.2.1]; exact OwnS.range chgC_len HD.out HI.out.2.2.2.2.2.1) Tryz.underlying83 rfl (by rw [HX.out.2.2.2.1]; exact infoC) ?_
        simp only [Act.put, List.setIfInBounds_toArray, List.set_cons_zero, List.set_cons_succ]
        refine hK.out _ _ trivial (fun hS => ?_)
        clear hK K
        refine takeD (i := 20) rfl (by kernel_rfl) (by kernel_rfl) (by kernel_rfl) (fun _ _ _ h => h) hS (Or.inl ⟨by rfl, fun w hSw => by go_simp; rfl⟩) ?_
        simp only [Act.put, List.setIfInBounds_toArray, List.set_cons_zero, List.set_cons_succ]
        refine wpAnyH_ready (rs := [21]) (by kernel_rfl) (by simp) ?_
        refine consD (i := 21) rfl (fun K hK => ?_) AllReadyH.nil
        rw [if_pos (by rfl)]
        refine wp_store_mid 83 (.tmp 36) (.tmp 29) rfl g (p * 5) cy.toArray rfl rfl (by rw [List.size_toArray, HX.out.2.2.2.1]; exact OwnS.there HD.out (by have := HI.out.2.2.2.1; omega)) (by rw [List.size_toArray, HX.out.2.2.2.1]; exact infoC) HX.out.2.2.2.2.2 ?_
        simp only [Act.put, List.setIfInBounds_toArray, List.set_cons_zero, List.set_cons_succ]
        refine hK.out _ _ trivial (fun hS => ?_)
        clear hK K
        refine takeD (i := 22) rfl (by kernel_rfl) (by kernel_rfl) (by kernel_rfl) (fun _ _ _ h => h) hS (Or.inl ⟨by rfl, fun w hSw => by go_simp; rfl⟩) ?_
        simp only [Act.put, List.setIfInBounds_toArray, List.set_cons_zero, List.set_cons_succ]
        refine wpAnyH_ready (rs := [23]) (by kernel_rfl) (by simp) ?_
        refine consD (i := 23) rfl (fun K hK => ?_) AllReadyH.nil
        rw [if_pos (by rfl)]
        refine wp_store_mid 83 (.tmp 37) (.tmp 35) rfl g (q * 5) cx.toArray rfl rfl (by rw [List.size_toArray, HX.out.2.2.1, ← HX.out.2.1]; exact OwnS.there (OwnS.store chgC_len HD.out (i := p) (by have := HI.out.2.2.2.1; omega) y) (by rw [List.length_set]; have := HI.out.2.2.2.1; omega)) (by rw [List.size_toArray, HX.out.2.2.1]; exact infoC) HX.out.2.2.2.2.1 ?_
        simp only [Act.put, List.setIfInBounds_toArray, List.set_cons_zero, List.set_cons_succ]
        refine hK.out _ _ trivial (fun hS => ?_)
        clear hK K
        refine wpAnyH_done (by kernel_rfl) ?_ _
        go_wp2
        go_roundg (gk - 1)
        case measure => have := HI.out.2.2.1; omega
        case rel =>
          have hs2 := OwnS.store chgC_len (OwnS.store chgC_len HD.out (i := p) (by have := HI.out.2.2.2.1; omega) y) (i := q) (by rw [List.length_set]; have := HI.out.2.2.2.1; omega) x
          rw [HX.out.1, HX.out.2.1] at hs2
          exact ⟨t + 1, by have := HI.out.2.2.1; omega, by go_num, by rw [HI.out.2.2.2.2.2.2]; exact hs2, ((HDm.out.trans' (Mod.setCells (S := fun x => x = g) (.inl rfl) _ _ (Mod.refl _ _))).trans' (Mod.setCells (S := fun x => x = g) (.inl rfl) _ _ (Mod.refl _ _)))⟩
end Go.Proofs.YtojjnfhgldjgbaaGreatDoor.Watch
end
