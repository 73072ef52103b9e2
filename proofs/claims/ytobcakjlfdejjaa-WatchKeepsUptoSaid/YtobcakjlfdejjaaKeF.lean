/- The law WatchKeeps of the watch, where what came in is of bulk at most 1048576: what is handed in is left as it was and : part 6 of 25: what it leans on. -/
import Derived.Test.YtobcakjlfdejjaaKeA
import Derived.Test.YtobcakjlfdejjaaKeB
import Derived.Test.YtobcakjlfdejjaaKeC
import Derived.Test.YtobcakjlfdejjaaKeD
import Derived.Test.YtobcakjlfdejjaaKeE
section
set_option linter.unusedVariables false
set_option linter.unusedSimpArgs false
namespace Go.Proofs.Ytobcakjlfdejjaa.Watch
open Go.RowKit Go.Por Go.Sort

/-- A mutation: is it taken away? the tuple. -/
abbrev Mut := Bool × Tup
def mutC (x : Mut) : List Value := [.bool x.1, .string x.2.1, .string x.2.2.1, .string x.2.2.2]
/-- A change: its revision; the mutation. -/
abbrev Chg := Int × Bool × Tup
def chgC (x : Chg) : List Value := [.int .i64 x.1, .bool x.2.1, .string x.2.2.1, .string x.2.2.2.1, .string x.2.2.2.2]
/-- A row: the tuple; since, until. -/
abbrev RowT := Tup × Int × Int
def rowC (x : RowT) : List Value := [.string x.1.1, .string x.1.2.1, .string x.1.2.2, .int .i64 x.2.1, .int .i64 x.2.2]
def or2v (a b : Int) : Int := if a = 0 then b else a
def ccmp (x y : Chg) : Int := or2v (Lib.compareInt x.1 y.1) (tcmp x.2.2 y.2.2)
def rcmp (x y : RowT) : Int := or2v (tcmp x.1 y.1) (Lib.compareInt x.2.1 y.2.1)

set_option maxHeartbeats 800000 in
theorem or2 (a b : Int) (g : Nat) (w : World) (h0 : w.cell? ⟨g, 0, none⟩ = some (.int .i64 a)) (h1 : w.cell? ⟨g, 1, none⟩ = some (.int .i64 b)) :
    Calls Try.prog 37 #[.slice (some ⟨g, 0, none⟩) 2 2] w fun e w' => e = .returned (.int .i64 (or2v a b)) ∧ w = w' := by
  have HH := Lib.hid (And.intro h0 h1)
  clear h0 h1
  go_enter Try.func37, Try.ntmps37
  go_wp2
  go_loopg [8] 2 (fun k i wx => ∃ t : Nat, t + k = 2 ∧ i = .int .i64 (t : Int) ∧ (1 ≤ t → a = 0) ∧ (2 ≤ t → b = 0) ∧ wx = w)
  case atStart => exact ⟨0, by omega, rfl, fun h => by omega, fun h => by omega, rfl⟩
  case round =>
    obtain ⟨t, htk, rfl, ha, hb, rfl⟩ := hrel
    rcases (show t = 0 ∨ t = 1 ∨ t = 2 by omega) with rfl | rfl | rfl
    · have c0 := HH.out.1
      by_cases h : a = 0
      · have q : (a != 0) = false := by rw [h]; rfl
        have HK := Lib.hid (And.intro h htk)
        clear h ha hb htk
        go_wp2
        go_roundg 1
        case measure => have := HK.out.2; omega
        case rel => exact ⟨1, rfl, rfl, fun _ => HK.out.1, fun h => by omega, rfl⟩
      · have q : (a != 0) = true := by rw [bne_iff_ne]; exact h
        have HK := Lib.hid h
        clear h ha hb htk
        go_wp2
        go_ret
        rw [or2v, if_neg HK.out]
        exact ⟨rfl, rfl⟩
    · have c1 := HH.out.2
      have ha0 := ha (Nat.le_refl _)
      by_cases h : b = 0
      · have q : (b != 0) = false := by rw [h]; rfl
        have HK := Lib.hid (And.intro h (And.intro htk ha0))
        clear h ha hb htk ha0
        go_wp2
        go_roundg 0
        case measure => have := HK.out.2.1; omega
        case rel => exact ⟨2, rfl, rfl, fun _ => HK.out.2.2, fun _ => HK.out.1, rfl⟩
      · have q : (b != 0) = true := by rw [bne_iff_ne]; exact h
        have HK := Lib.hid (And.intro h ha0)
        clear h ha hb htk ha0
        go_wp2
        go_ret
        rw [or2v, if_pos HK.out.2]
        exact ⟨rfl, rfl⟩
    · have HK := Lib.hid (And.intro (ha (by omega)) (hb (Nat.le_refl _)))
      clear ha hb htk
      go_wp2
      go_ret
      rw [or2v, if_pos HK.out.1, HK.out.2]
      exact ⟨rfl, rfl⟩

set_option maxRecDepth 100000 in
set_option maxHeartbeats 1600000 in

set_option maxRecDepth 100000 in
set_option maxHeartbeats 800000 in
theorem chg_order (x y : Chg) (w : World) : Calls Try.prog 28 #[.agg (chgC x).toArray, .agg (chgC y).toArray] w fun e w' => e = .returned (.int .i64 (ccmp x y)) ∧ Gr w w' := by
  obtain ⟨xr, xd, x1, x2, x3⟩ := x
  obtain ⟨yr, yd, y1, y2, y3⟩ := y
  unfold chgC ccmp
  have hc := fun w => compare_any (x1, x2, x3) (y1, y2, y3) w
  unfold tupC at hc
  obtain ⟨n, hn⟩ : ∃ n, tcmp (x1, x2, x3) (y1, y2, y3) = n := ⟨_, rfl⟩
  rw [hn] at hc
  simp only
  rw [hn]
  have HC := Lib.hid hc
  clear hc hn
  go_enter Try.func28, Try.ntmps28
  go_upto_region 1 with fail
  obtain ⟨B, hB⟩ : ∃ B, w.heap.size = B := ⟨_, rfl⟩
  generalize hW2 : World.alloc (World.alloc w _) _ = W2 at *
  rw [hB]
  have hg : Gr w W2 := by rw [← hW2]; exact ((Gr.refl w).alloc _).alloc _
  have b0 : W2.heap[B]? = some (.cells #[.int .i64 xr, .bool xd, .string x1, .string x2, .string x3] 43 (0, 0)) := by rw [← hW2, ← hB]; exact block_alloc (block_new w _) _
  have b1 : W2.heap[B + 1]? = some (.cells #[.int .i64 yr, .bool yd, .string y1, .string y2, .string y3] 43 (0, 0)) := by
    rw [← hW2, ← hB]
    have := block_new (w.alloc (.cells #[.int .i64 xr, .bool xd, .string x1, .string x2, .string x3] 43)) (.cells #[.int .i64 yr, .bool yd, .string y1, .string y2, .string y3] 43)
    rw [World.size_alloc] at this
    exact this
  have HW := Lib.hid (And.intro b0 (And.intro b1 hg))
  clear hW2 hB b0 b1 hg
  refine wp_region_held_drew (S := fun w' => Gr W2 w') (by kernel_rfl) ((Gr.refl W2).drew) (fun hS => ?_)
  refine takeD (i := 0) rfl (by kernel_rfl) (by kernel_rfl) (by kernel_rfl) (fun _ _ _ h => h) hS (Or.inl ⟨by rfl, fun w hSw => by go_simp; rfl⟩) ?_
  simp only [Act.put, List.setIfInBounds_toArray, List.set_cons_zero, List.set_cons_succ]
  refine takeD (i := 1) rfl (by kernel_rfl) (by kernel_rfl) (by kernel_rfl) (fun _ _ _ h => h) hS (v := .int .i64 xr) (Or.inl ⟨by rfl, fun w hSw => by have k0 := cell_of (i := 0) ((hSw.below.block _ (lt_block HW.out.1)).trans HW.out.1) rfl; go_simp⟩) ?_
  simp only [Act.put, List.setIfInBounds_toArray, List.set_cons_zero, List.set_cons_succ]
  refine takeD (i := 2) rfl (by kernel_rfl) (by kernel_rfl) (by kernel_rfl) (fun _ _ _ h => h) hS (Or.inl ⟨by rfl, fun w hSw => by go_simp; rfl⟩) ?_
  simp only [Act.put, List.setIfInBounds_toArray, List.set_cons_zero, List.set_cons_succ]
  refine takeD (i := 3) rfl (by kernel_rfl) (by kernel_rfl) (by kernel_rfl) (fun _ _ _ h => h) hS (v := .int .i64 yr) (Or.inl ⟨by rfl, fun w hSw => by have k0 := cell_of (i := 0) ((hSw.below.block _ (lt_block HW.out.2.1)).trans HW.out.2.1) rfl; go_simp⟩) ?_
  simp only [Act.put, List.setIfInBounds_toArray, List.set_cons_zero, List.set_cons_succ]
  refine takeD (i := 5) rfl (by kernel_rfl) (by kernel_rfl) (by kernel_rfl) (fun _ _ _ h => h) hS (Or.inl ⟨by rfl, fun w hSw => by go_simp; rfl⟩) ?_
  simp only [Act.put, List.setIfInBounds_toArray, List.set_cons_zero, List.set_cons_succ]
  refine takeD (i := 6) rfl (by kernel_rfl) (by kernel_rfl) (by kernel_rfl) (fun _ _ _ h => h) hS (Or.inl ⟨by rfl, fun w hSw => by go_simp; rfl⟩) ?_
  simp only [Act.put, List.setIfInBounds_toArray, List.set_cons_zero, List.set_cons_succ]
  refine takeD (i := 7) rfl (by kernel_rfl) (by kernel_rfl) (by kernel_rfl) (fun _ _ _ h => h) hS (v := .agg #[.string x1, .string x2, .string x3]) (Or.inl ⟨by rfl, fun w hSw => by have k2 := cell_of (i := 2) ((hSw.below.block _ (lt_block HW.out.1)).trans HW.out.1) rfl; have k3 := cell_of (i := 3) ((hSw.below.block _ (lt_block HW.out.1)).trans HW.out.1) rfl; have k4 := cell_of (i := 4) ((hSw.below.block _ (lt_block HW.out.1)).trans HW.out.1) rfl; go_simp⟩) ?_
  simp only [Act.put, List.setIfInBounds_toArray, List.set_cons_zero, List.set_cons_succ]
  refine takeD (i := 8) rfl (by kernel_rfl) (by kernel_rfl) (by kernel_rfl) (fun _ _ _ h => h) hS (Or.inl ⟨by rfl, fun w hSw => by go_simp; rfl⟩) ?_
  simp only [Act.put, List.setIfInBounds_toArray, List.set_cons_zero, List.set_cons_succ]
  refine takeD (i := 9) rfl (by kernel_rfl) (by kernel_rfl) (by kernel_rfl) (fun _ _ _ h => h) hS (Or.inl ⟨by rfl, fun w hSw => by go_simp; rfl⟩) ?_
  simp only [Act.put, List.setIfInBounds_toArray, List.set_cons_zero, List.set_cons_succ]
  refine takeD (i := 10) rfl (by kernel_rfl) (by kernel_rfl) (by kernel_rfl) (fun _ _ _ h => h) hS (v := .agg #[.string y1, .string y2, .string y3]) (Or.inl ⟨by rfl, fun w hSw => by have k2 := cell_of (i := 2) ((hSw.below.block _ (lt_block HW.out.2.1)).trans HW.out.2.1) rfl; have k3 := cell_of (i := 3) ((hSw.below.block _ (lt_block HW.out.2.1)).trans HW.out.2.1) rfl; have k4 := cell_of (i := 4) ((hSw.below.block _ (lt_block HW.out.2.1)).trans HW.out.2.1) rfl; go_simp⟩) ?_
  simp only [Act.put, List.setIfInBounds_toArray, List.set_cons_zero, List.set_cons_succ]
  refine wpAnyH_ready (rs := [4]) (by kernel_rfl) (by simp) ?_
  refine consD (i := 4) rfl (fun K hK => ?_) AllReadyH.nil
  rw [if_pos (by rfl)]
  go_simp
  ((with_reducible refine (Try.cmp_Compare_int xr yr _).mono ?_); rintro e w' ⟨rfl, rfl⟩)
  dsimp only
  refine hK.out _ _ hS (fun hS => ?_)
  clear hK K
  refine wpAnyH_ready (rs := [11]) (by kernel_rfl) (by simp) ?_
  refine consD (i := 11) rfl (fun K hK => ?_) AllReadyH.nil
  rw [if_pos (by rfl)]
  go_simp
  ((with_reducible refine (HC.out _).mono ?_); rintro e w' ⟨rfl, hg'⟩)
  dsimp only
  refine hK.out _ _ (hS.trans hg') (fun hS => ?_)
  clear hK K
  refine wpAnyH_ready (rs := [12]) (by kernel_rfl) (by simp) ?_
  refine consD (i := 12) rfl (fun K hK => ?_) AllReadyH.nil
  rw [if_pos (by rfl)]
  go_simp
  refine hK.out _ _ (hS.alloc _) (fun hS => ?_)
  clear hK K
  refine wpAnyH_ready (rs := [13]) (by kernel_rfl) (by simp) ?_
  refine consD (i := 13) rfl (fun K hK => ?_) AllReadyH.nil
  rw [if_pos (by rfl)]
  go_simp
  ((with_reducible refine (or2 (Lib.compareInt xr yr) n _ _ (cell_of (block_new _ _) rfl) (cell_of (block_new _ _) rfl)).mono ?_); rintro e w'' ⟨rfl, rfl⟩)
  dsimp only
  refine hK.out _ _ hS (fun hS => ?_)
  clear hK K
  refine takeD (i := 14) rfl (by kernel_rfl) (by kernel_rfl) (by kernel_rfl) (fun _ _ _ h => h) hS (Or.inl ⟨by rfl, fun w hSw => by go_simp; rfl⟩) ?_
  simp only [Act.put, List.setIfInBounds_toArray, List.set_cons_zero, List.set_cons_succ]
  refine wpAnyH_done (by kernel_rfl) ?_ _
  go_wp2
  go_ret
  exact ⟨rfl, HW.out.2.2.trans hS⟩

set_option maxRecDepth 100000 in
set_option maxHeartbeats 800000 in
theorem row_order (x y : RowT) (w : World) : Calls Try.prog 36 #[.agg (rowC x).toArray, .agg (rowC y).toArray] w fun e w' => e = .returned (.int .i64 (rcmp x y)) ∧ Gr w w' := by
  obtain ⟨⟨x1, x2, x3⟩, xr, xu⟩ := x
  obtain ⟨⟨y1, y2, y3⟩, yr, yu⟩ := y
  unfold rowC rcmp
  have hc := fun w => compare_any (x1, x2, x3) (y1, y2, y3) w
  unfold tupC at hc
  obtain ⟨n, hn⟩ : ∃ n, tcmp (x1, x2, x3) (y1, y2, y3) = n := ⟨_, rfl⟩
  rw [hn] at hc
  simp only
  rw [hn]
  have HC := Lib.hid hc
  clear hc hn
  go_enter Try.func36, Try.ntmps36
  go_upto_region 1 with fail
  obtain ⟨B, hB⟩ : ∃ B, w.heap.size = B := ⟨_, rfl⟩
  generalize hW2 : World.alloc (World.alloc w _) _ = W2 at *
  rw [hB]
  have hg : Gr w W2 := by rw [← hW2]; exact ((Gr.refl w).alloc _).alloc _
  have b0 : W2.heap[B]? = some (.cells #[.string x1, .string x2, .string x3, .int .i64 xr, .int .i64 xu] 39 (0, 0)) := by rw [← hW2, ← hB]; exact block_alloc (block_new w _) _
  have b1 : W2.heap[B + 1]? = some (.cells #[.string y1, .string y2, .string y3, .int .i64 yr, .int .i64 yu] 39 (0, 0)) := by
    rw [← hW2, ← hB]
    have := block_new (w.alloc (.cells #[.string x1, .string x2, .string x3, .int .i64 xr, .int .i64 xu] 39)) (.cells #[.string y1, .string y2, .string y3, .int .i64 yr, .int .i64 yu] 39)
    rw [World.size_alloc] at this
    exact this
  have HW := Lib.hid (And.intro b0 (And.intro b1 hg))
  clear hW2 hB b0 b1 hg
  refine wp_region_held_drew (S := fun w' => Gr W2 w') (by kernel_rfl) ((Gr.refl W2).drew) (fun hS => ?_)
  refine takeD (i := 0) rfl (by kernel_rfl) (by kernel_rfl) (by kernel_rfl) (fun _ _ _ h => h) hS (Or.inl ⟨by rfl, fun w hSw => by go_simp; rfl⟩) ?_
  simp only [Act.put, List.setIfInBounds_toArray, List.set_cons_zero, List.set_cons_succ]
  refine takeD (i := 1) rfl (by kernel_rfl) (by kernel_rfl) (by kernel_rfl) (fun _ _ _ h => h) hS (v := .agg #[.string x1, .string x2, .string x3]) (Or.inl ⟨by rfl, fun w hSw => by have k0 := cell_of (i := 0) ((hSw.below.block _ (lt_block HW.out.1)).trans HW.out.1) rfl; have k1 := cell_of (i := 1) ((hSw.below.block _ (lt_block HW.out.1)).trans HW.out.1) rfl; have k2 := cell_of (i := 2) ((hSw.below.block _ (lt_block HW.out.1)).trans HW.out.1) rfl; go_simp⟩) ?_
  simp only [Act.put, List.setIfInBounds_toArray, List.set_cons_zero, List.set_cons_succ]
  refine takeD (i := 2) rfl (by kernel_rfl) (by kernel_rfl) (by kernel_rfl) (fun _ _ _ h => h) hS (Or.inl ⟨by rfl, fun w hSw => by go_simp; rfl⟩) ?_
  simp only [Act.put, List.setIfInBounds_toArray, List.set_cons_zero, List.set_cons_succ]
  refine takeD (i := 3) rfl (by kernel_rfl) (by kernel_rfl) (by kernel_rfl) (fun _ _ _ h => h) hS (v := .agg #[.string y1, .string y2, .string y3]) (Or.inl ⟨by rfl, fun w hSw => by have k0 := cell_of (i := 0) ((hSw.below.block _ (lt_block HW.out.2.1)).trans HW.out.2.1) rfl; have k1 := cell_of (i := 1) ((hSw.below.block _ (lt_block HW.out.2.1)).trans HW.out.2.1) rfl; have k2 := cell_of (i := 2) ((hSw.below.block _ (lt_block HW.out.2.1)).trans HW.out.2.1) rfl; go_simp⟩) ?_
  simp only [Act.put, List.setIfInBounds_toArray, List.set_cons_zero, List.set_cons_succ]
  refine takeD (i := 5) rfl (by kernel_rfl) (by kernel_rfl) (by kernel_rfl) (fun _ _ _ h => h) hS (Or.inl ⟨by rfl, fun w hSw => by go_simp; rfl⟩) ?_
  simp only [Act.put, List.setIfInBounds_toArray, List.set_cons_zero, List.set_cons_succ]
  refine takeD (i := 6) rfl (by kernel_rfl) (by kernel_rfl) (by kernel_rfl) (fun _ _ _ h => h) hS (v := .int .i64 xr) (Or.inl ⟨by rfl, fun w hSw => by have k3 := cell_of (i := 3) ((hSw.below.block _ (lt_block HW.out.1)).trans HW.out.1) rfl; go_simp⟩) ?_
  simp only [Act.put, List.setIfInBounds_toArray, List.set_cons_zero, List.set_cons_succ]
  refine takeD (i := 7) rfl (by kernel_rfl) (by kernel_rfl) (by kernel_rfl) (fun _ _ _ h => h) hS (Or.inl ⟨by rfl, fun w hSw => by go_simp; rfl⟩) ?_
  simp only [Act.put, List.setIfInBounds_toArray, List.set_cons_zero, List.set_cons_succ]
  refine takeD (i := 8) rfl (by kernel_rfl) (by kernel_rfl) (by kernel_rfl) (fun _ _ _ h => h) hS (v := .int .i64 yr) (Or.inl ⟨by rfl, fun w hSw => by have k3 := cell_of (i := 3) ((hSw.below.block _ (lt_block HW.out.2.1)).trans HW.out.2.1) rfl; go_simp⟩) ?_
  simp only [Act.put, List.setIfInBounds_toArray, List.set_cons_zero, List.set_cons_succ]
  refine wpAnyH_ready (rs := [4]) (by kernel_rfl) (by simp) ?_
  refine consD (i := 4) rfl (fun K hK => ?_) AllReadyH.nil
  rw [if_pos (by rfl)]
  go_simp
  ((with_reducible refine (HC.out _).mono ?_); rintro e w' ⟨rfl, hg'⟩)
  dsimp only
  refine hK.out _ _ (hS.trans hg') (fun hS => ?_)
  clear hK K
  refine wpAnyH_ready (rs := [9]) (by kernel_rfl) (by simp) ?_
  refine consD (i := 9) rfl (fun K hK => ?_) AllReadyH.nil
  rw [if_pos (by rfl)]
  go_simp
  ((with_reducible refine (Try.cmp_Compare_int xr yr _).mono ?_); rintro e w' ⟨rfl, rfl⟩)
  dsimp only
  refine hK.out _ _ hS (fun hS => ?_)
  clear hK K
  refine wpAnyH_ready (rs := [10]) (by kernel_rfl) (by simp) ?_
  refine consD (i := 10) rfl (fun K hK => ?_) AllReadyH.nil
  rw [if_pos (by rfl)]
  go_simp
  refine hK.out _ _ (hS.alloc _) (fun hS => ?_)
  clear hK K
  refine wpAnyH_ready (rs := [11]) (by kernel_rfl) (by simp) ?_
  refine consD (i := 11) rfl (fun K hK => ?_) AllReadyH.nil
  rw [if_pos (by rfl)]
  go_simp
  ((with_reducible refine (or2 n (Lib.compareInt xr yr) _ _ (cell_of (block_new _ _) rfl) (cell_of (block_new _ _) rfl)).mono ?_); rintro e w'' ⟨rfl, rfl⟩)
  dsimp only
  refine hK.out _ _ hS (fun hS => ?_)
  clear hK K
  refine takeD (i := 12) rfl (by kernel_rfl) (by kernel_rfl) (by kernel_rfl) (fun _ _ _ h => h) hS (Or.inl ⟨by rfl, fun w hSw => by go_simp; rfl⟩) ?_
  simp only [Act.put, List.setIfInBounds_toArray, List.set_cons_zero, List.set_cons_succ]
  refine wpAnyH_done (by kernel_rfl) ?_ _
  go_wp2
  go_ret
  exact ⟨rfl, HW.out.2.2.trans hS⟩
end Go.Proofs.Ytobcakjlfdejjaa.Watch
end
