/- The ring's points: comparing, the closures, the binary search. -/
import Derived.Test.YtjccngahpafcaaaDoorRingD
import Derived.Test.YtjccngahpafcaaaDoorSortB
import Derived.Test.YtjccngahpafcaaaDoorShelf
import Derived.Deep.RegionHeld3
import Derived.Lib.Small
namespace Go.Proofs.YtjccngahpafcaaaDoor.RingF
open Go.RowKit Go.Por Go.Sort

/-- A point: its place, its node. -/
abbrev Pt := Int × Int
def ptc (x : Pt) : List Value := [.int .u32 x.1, .int .i64 x.2]
/-- The first of two numbers that is not 0. -/
def or2v (a b : Int) : Int := if a = 0 then b else a
def ptCmp (x y : Pt) : Int := or2v (Lib.compareInt x.1 y.1) (Lib.compareInt x.2 y.2)

theorem cmp_lt {x y : Int} (h : x < y) : Lib.compareInt x y = -1 := by unfold Lib.compareInt; rw [if_pos h]
theorem cmp_gt {x y : Int} (h : y < x) : Lib.compareInt x y = 1 := by unfold Lib.compareInt; rw [if_neg (by omega), if_pos h]
theorem cmp_eq (x : Int) : Lib.compareInt x x = 0 := by unfold Lib.compareInt; rw [if_neg (by omega), if_neg (by omega)]

theorem nan32 (x : Int) (w : World) : Calls Tryd.prog 37 #[.int .u32 x] w fun e w' => e = .returned (.bool false) ∧ w = w' := by
  have q : (x != x) = false := by simp
  go_enter Tryd.func37, Tryd.ntmps37
  go_wp2
  go_ret
  exact ⟨rfl, rfl⟩
theorem nanInt (x : Int) (w : World) : Calls Tryd.prog 38 #[.int .i64 x] w fun e w' => e = .returned (.bool false) ∧ w = w' := by
  have q : (x != x) = false := by simp
  go_enter Tryd.func38, Tryd.ntmps38
  go_wp2
  go_ret
  exact ⟨rfl, rfl⟩
theorem compare32 (x y : Int) (w : World) : Calls Tryd.prog 26 #[.int .u32 x, .int .u32 y] w fun e w' => e = .returned (.int .i64 (Lib.compareInt x y)) ∧ w = w' := by
  rcases Int.lt_trichotomy x y with h | h | h
  · rw [cmp_lt h]
    go_enter Tryd.func26, Tryd.ntmps26
    go_wp2_with fail
    refine (nan32 x w).mono ?_
    rintro e w' ⟨rfl, rfl⟩
    go_wp2_with fail
    refine (nan32 y w).mono ?_
    rintro e w' ⟨rfl, rfl⟩
    go_wp2
    go_ret
    exact ⟨rfl, rfl⟩
  · subst h
    rw [cmp_eq x]
    go_enter Tryd.func26, Tryd.ntmps26
    go_wp2_with fail
    refine (nan32 x w).mono ?_
    rintro e w' ⟨rfl, rfl⟩
    go_wp2_with fail
    refine (nan32 x w).mono ?_
    rintro e w' ⟨rfl, rfl⟩
    go_wp2
    go_ret
    exact ⟨rfl, rfl⟩
  · rw [cmp_gt h]
    have h2 : ¬ x < y := by omega
    go_enter Tryd.func26, Tryd.ntmps26
    go_wp2_with fail
    refine (nan32 x w).mono ?_
    rintro e w' ⟨rfl, rfl⟩
    go_wp2_with fail
    refine (nan32 y w).mono ?_
    rintro e w' ⟨rfl, rfl⟩
    go_wp2
    go_ret
    exact ⟨rfl, rfl⟩
theorem compareI (x y : Int) (w : World) : Calls Tryd.prog 27 #[.int .i64 x, .int .i64 y] w fun e w' => e = .returned (.int .i64 (Lib.compareInt x y)) ∧ w = w' := by
  rcases Int.lt_trichotomy x y with h | h | h
  · rw [cmp_lt h]
    go_enter Tryd.func27, Tryd.ntmps27
    go_wp2_with fail
    refine (nanInt x w).mono ?_
    rintro e w' ⟨rfl, rfl⟩
    go_wp2_with fail
    refine (nanInt y w).mono ?_
    rintro e w' ⟨rfl, rfl⟩
    go_wp2
    go_ret
    exact ⟨rfl, rfl⟩
  · subst h
    rw [cmp_eq x]
    go_enter Tryd.func27, Tryd.ntmps27
    go_wp2_with fail
    refine (nanInt x w).mono ?_
    rintro e w' ⟨rfl, rfl⟩
    go_wp2_with fail
    refine (nanInt x w).mono ?_
    rintro e w' ⟨rfl, rfl⟩
    go_wp2
    go_ret
    exact ⟨rfl, rfl⟩
  · rw [cmp_gt h]
    have h2 : ¬ x < y := by omega
    go_enter Tryd.func27, Tryd.ntmps27
    go_wp2_with fail
    refine (nanInt x w).mono ?_
    rintro e w' ⟨rfl, rfl⟩
    go_wp2_with fail
    refine (nanInt y w).mono ?_
    rintro e w' ⟨rfl, rfl⟩
    go_wp2
    go_ret
    exact ⟨rfl, rfl⟩

set_option maxHeartbeats 800000 in
/-- cmp.Or of two numbers that lie in a block. -/
theorem or2 (a b : Int) (g : Nat) (w : World) (h0 : w.cell? ⟨g, 0, none⟩ = some (.int .i64 a)) (h1 : w.cell? ⟨g, 1, none⟩ = some (.int .i64 b)) :
    Calls Tryd.prog 25 #[.slice (some ⟨g, 0, none⟩) 2 2] w fun e w' => e = .returned (.int .i64 (or2v a b)) ∧ w = w' := by
  have HH := Lib.hid (And.intro h0 h1)
  clear h0 h1
  go_enter Tryd.func25, Tryd.ntmps25
  go_wp2
  go_loopg [8] 2 (fun k i wx => ∃ t : Nat, t + k = 2 ∧ i = .int .i64 (t : Int) ∧ (1 ≤ t → a = 0) ∧ (2 ≤ t → b = 0) ∧ wx = w)
  case atStart => exact ⟨0, by omega, rfl, fun h => by omega, fun h => by omega, rfl⟩
  case round =>
    obtain ⟨t, htk, rfl, ha, hb, rfl⟩ := hrel
    rcases (show t = 0 ∨ t = 1 ∨ t = 2 by omega) with rfl | rfl | rfl
    · have c0 := HH.out.1
      by_cases h : a = 0
      · have q : (a != 0) = false := by rw [h]; rfl
        have HK := Lib.hid (And.intro h htk)
        clear h ha hb htk
        go_wp2
        go_roundg 1
        case measure => have := HK.out.2; omega
        case rel => exact ⟨1, rfl, rfl, fun _ => HK.out.1, fun h => by omega, rfl⟩
      · have q : (a != 0) = true := by rw [bne_iff_ne]; exact h
        have HK := Lib.hid h
        clear h ha hb htk
        go_wp2
        go_ret
        rw [or2v, if_neg HK.out]
        exact ⟨rfl, rfl⟩
    · have c1 := HH.out.2
      have ha0 := ha (Nat.le_refl _)
      by_cases h : b = 0
      · have q : (b != 0) = false := by rw [h]; rfl
        have HK := Lib.hid (And.intro h (And.intro htk ha0))
        clear h ha hb htk ha0
        go_wp2
        go_roundg 0
        case measure => have := HK.out.2.1; omega
        case rel => exact ⟨2, rfl, rfl, fun _ => HK.out.2.2, fun _ => HK.out.1, rfl⟩
      · have q : (b != 0) = true := by rw [bne_iff_ne]; exact h
        have HK := Lib.hid (And.intro h ha0)
        clear h ha hb htk ha0
        go_wp2
        go_ret
        rw [or2v, if_pos HK.out.2]
        exact ⟨rfl, rfl⟩
    · have HK := Lib.hid (And.intro (ha (by omega)) (hb (Nat.le_refl _)))
      clear ha hb htk
      go_wp2
      go_ret
      rw [or2v, if_pos HK.out.1, HK.out.2]
      exact ⟨rfl, rfl⟩

set_option maxRecDepth 100000 in
set_option maxHeartbeats 1600000 in
theorem closure1 (x y : Pt) (W : World) : Calls Tryd.prog 24 #[.agg (ptc x).toArray, .agg (ptc y).toArray] W fun e w' => e = .returned (.int .i64 (ptCmp x y)) ∧ ∃ q os', w' = grow (W.drewN q) os' := by
  unfold ptc
  go_enter Tryd.func24, Tryd.ntmps24
  go_upto_region 1 with fail
  obtain ⟨B, hB⟩ : ∃ B, W.heap.size = B := ⟨_, rfl⟩
  generalize hW2 : (W.alloc (.cells #[.int .u32 x.1, .int .i64 x.2] 54)).alloc (.cells #[.int .u32 y.1, .int .i64 y.2] 54) = W2 at *
  rw [hB]
  have hg : ∃ os, W2 = grow W os := ⟨_, by rw [← hW2, alloc_eq_grow, alloc_eq_grow, grow_grow]⟩
  have b0 : W2.heap[B]? = some (.cells #[.int .u32 x.1, .int .i64 x.2] 54 (0, 0)) := by rw [← hW2, ← hB]; exact block_alloc (block_new W _) _
  have b1 : W2.heap[B + 1]? = some (.cells #[.int .u32 y.1, .int .i64 y.2] 54 (0, 0)) := by
    rw [← hW2, ← hB]
    have := block_new (W.alloc (.cells #[.int .u32 x.1, .int .i64 x.2] 54)) (.cells #[.int .u32 y.1, .int .i64 y.2] 54)
    rw [World.size_alloc] at this
    exact this
  have c0 : W2.cell? ⟨B, 0, none⟩ = some (.int .u32 x.1) := cell_of b0 rfl
  have c1 : W2.cell? ⟨B, 1, none⟩ = some (.int .i64 x.2) := cell_of b0 rfl
  have c2 : W2.cell? ⟨B + 1, 0, none⟩ = some (.int .u32 y.1) := cell_of b1 rfl
  have c3 : W2.cell? ⟨B + 1, 1, none⟩ = some (.int .i64 y.2) := cell_of b1 rfl
  have HW := Lib.hid hg
  clear hW2 hB b0 b1 hg
  go_region_held3 (fun w' => w'.cell? ⟨B, 0, none⟩ = some (.int .u32 x.1) ∧ w'.cell? ⟨B, 1, none⟩ = some (.int .i64 x.2) ∧ w'.cell? ⟨B + 1, 0, none⟩ = some (.int .u32 y.1) ∧ w'.cell? ⟨B + 1, 1, none⟩ = some (.int .i64 y.2)) (go_keep)
    (first
      | (go_at_call 26; refine (compare32 x.1 y.1 _).mono ?_; rintro e w' ⟨rfl, rfl⟩)
      | (go_at_call 27; refine (compareI x.2 y.2 _).mono ?_; rintro e w' ⟨rfl, rfl⟩)
      | (go_at_call 25; refine (or2 (Lib.compareInt x.1 y.1) (Lib.compareInt x.2 y.2) _ _ ?_ ?_).mono ?_; exact cell_of (block_new _ _) rfl; exact cell_of (block_new _ _) rfl; rintro e w' ⟨rfl, rfl⟩))
  all_goals
    go_wp2
    go_ret
    obtain ⟨os, h⟩ := HW.out
    refine ⟨rfl, 1, os ++ #[.cells #[.int .i64 (Lib.compareInt x.1 y.1), .int .i64 (Lib.compareInt x.2 y.2)] 3], ?_⟩
    rw [h, alloc_eq_grow, grow_grow]
    rfl
theorem closure2 (x : Pt) (a : Int) (W : World) : Calls Tryd.prog 29 #[.agg (ptc x).toArray, .int .u32 a] W fun e w' => e = .returned (.int .i64 (Lib.compareInt x.1 a)) ∧ Below W.heap.size W w' := by
  unfold ptc
  go_enter Tryd.func29, Tryd.ntmps29
  go_wp2_with fail
  refine (compare32 x.1 a _).mono ?_
  rintro e w' ⟨rfl, rfl⟩
  go_wp2
  go_ret
  exact ⟨rfl, (Below.refl _ W).alloc (Nat.le_refl _) _⟩
end Go.Proofs.YtjccngahpafcaaaDoor.RingF
