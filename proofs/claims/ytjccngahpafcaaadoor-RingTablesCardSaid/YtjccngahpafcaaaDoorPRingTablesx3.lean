-- PRINTED BY print.sh 35421559b90ae4d0a3588c463048766b98c2df88dd9212a6774a882060cdf62d: not written by this session
import Derived.Test.YtjccngahpafcaaaDoorPRingTablesx0
namespace Go.Proofs.YtjccngahpafcaaaDoor.PRingTables
open Go.RowKit Go.Proofs.YtjccngahpafcaaaDoorW.PrintWords Go.Proofs.YtjccngahpafcaaaDoorW.PrintLast Go.Proofs.YtjccngahpafcaaaDoorW.PrintMore
attribute [local go_sem] max2_int min2_int max_two min_two max_three min_three max_four min_four   -- for this text's walks alone
set_option linter.unusedVariables false
set_option linter.unusedSimpArgs false

-- NOT PRINTED: function 65 (bits_TrailingZeros32)

-- NOT PRINTED: function 66 (bits_TrailingZeros64)

-- NOT PRINTED: function 63 (bits_TrailingZeros)

-- NOT PRINTED: function 54 (strconv_formatBits)

-- NOT PRINTED: function 40 (strconv_FormatInt)

-- NOT PRINTED: function 34 (strconv_Itoa_34)

-- NOT PRINTED: function 22 (strconv_Itoa_22)

-- NOT PRINTED: function 41 (ring_point_41)

-- NOT PRINTED: function 55 (ring_point_55)

-- NOT PRINTED: function 42 (ring_point_42)

-- NOT PRINTED: function 49 (bits_Len32)

-- NOT PRINTED: function 36 (bits_Len)

-- NOT PRINTED: function 56 (slices_nextPowerOfTwo)

-- NOT PRINTED: function 57 (slices_xorshift_Next)

-- NOT PRINTED: function 43 (ring_point_43)

-- NOT PRINTED: function 64 (ring_point_64)

-- NOT PRINTED: function 59 (ring_point_59)

-- NOT PRINTED: function 58 (ring_point_58)

-- NOT PRINTED: function 44 (ring_point_44)

-- NOT PRINTED: function 45 (ring_point_45)

-- NOT PRINTED: function 46 (ring_point_46)

-- NOT PRINTED: function 47 (ring_point_47)

-- NOT PRINTED: function 48 (ring_point_48)

-- NOT PRINTED: function 35 (ring_point_35)

-- NOT PRINTED: function 23 (ring_point_23)

-- NOT PRINTED: function 28 (ring_point_uint32)

-- NOT PRINTED: function 11 (ring_New)

-- NOT PRINTED: function 8 (porterlaw11_awake)

/-! ### porterref11_shift: function 30 -/
def porterref11_shift.l0 : Nat → Int → Int → Int → Int → Option (Int)
  | 0, _, _, _, _ => none
  | k + 1, x0, x1, x5, x6 => if x6 < x1 then (porterref11_shift.l0 k x0 x1 (IntKind.u64.wrap (Int.tdiv x5 2)) (wrap64 (x6 + 1))) else (some (Go.bits .xor .u64 x0 x5))
def porterref11_shift.f (k : Nat) (a0 : Int) (a1 : Int) : Option (Int) := porterref11_shift.l0 k a0 a1 a0 0
theorem porterref11_shift.mono_l : ∀ k, (∀ y0 y1 y2 y3, LeO (porterref11_shift.l0 k y0 y1 y2 y3) (porterref11_shift.l0 (k + 1) y0 y1 y2 y3))
  | 0 => fun _ _ _ _ r h => by simp [porterref11_shift.l0] at h
  | k + 1 => by
    have ih0 := porterref11_shift.mono_l k
    · intro y0 y1 y2 y3
      unfold porterref11_shift.l0
      repeat' first
      | (with_reducible exact ih0 _ _ _ _)
      | (with_reducible exact LeO.refl _)
      | (with_reducible exact LeO.none _)
      | (with_reducible refine LeO.ite ?_ ?_)
      | (with_reducible refine LeO.bind ?_ (fun _ => ?_))
      | exact ih0 _ _ _ _
      | exact LeO.none _
      | refine LeO.ite ?_ ?_
      | refine LeO.bind ?_ (fun _ => ?_)
theorem porterref11_shift.mono : ∀ a0 a1 k, LeO (porterref11_shift.f k a0 a1) (porterref11_shift.f (k + 1) a0 a1) := by
  intro a0 a1 k
  have ih0 := porterref11_shift.mono_l k
  unfold porterref11_shift.f
  repeat' first
      | (with_reducible exact ih0 _ _ _ _)
      | (with_reducible exact LeO.refl _)
      | (with_reducible exact LeO.none _)
      | (with_reducible refine LeO.ite ?_ ?_)
      | (with_reducible refine LeO.bind ?_ (fun _ => ?_))
      | exact ih0 _ _ _ _
      | exact LeO.none _
      | refine LeO.ite ?_ ?_
      | refine LeO.bind ?_ (fun _ => ?_)
set_option maxHeartbeats 8000000 in
set_option maxRecDepth 100000 in
theorem porterref11_shift.calls (k : Nat) (a0 : Int) (a1 : Int) (r : Int) (w : World) (h : porterref11_shift.f k a0 a1 = some r) :
    Calls Tryd.prog 30 #[.int .u64 a0, .int .i64 a1] w fun e w' => e = .returned (.int .u64 r) ∧ Drawn0 w w' := by
  have H : (porterref11_shift.l0 k a0 a1 a0 0) = some r := h
  clear h
  have H' := Aside0.mk H
  clear H
  go_enter Tryd.func30, Tryd.ntmps30
  go_wp2
  go_loopg [5, 6] k (fun kq v5 v6 w' => ∃ (x5_1 : Int) (x6_1 : Int), v5 = .int .u64 x5_1 ∧ v6 = .int .i64 x6_1 ∧ Aside0 (porterref11_shift.l0 kq a0 a1 x5_1 x6_1 = some r) ∧ Aside0 (kq ≤ k) ∧ Drawn0 w w')
  case atStart => exact ⟨(a0), (0), (by first | rfl | (simp; done) | (simp [*]; done)), (by first | rfl | (simp; done) | (simp [*]; done)), H', ⟨Nat.le_refl _⟩, by repeat (first | exact Drawn0.refl _ | apply Drawn0.step)⟩
  case round =>
    clear H'
    try clear p2
    obtain ⟨x5_1, x6_1, rfl, rfl, HA, HK1, ⟨m1, rfl⟩⟩ := hrel
    cases gk with
    | zero => exact absurd HA.out (by simp [porterref11_shift.l0])
    | succ k1 =>
      have H := HA.out
      clear HA
      simp only [porterref11_shift.l0] at H
      by_cases c3 : x6_1 < a1
      · rw [if_pos c3] at H
        have c3b0 : decide (x6_1 < a1) = true := decide_eq_true c3
        clear c3
        have H' := Aside0.mk H
        clear H
        go_wp2
        go_roundg k1
        case measure => have := HK1.out; omega
        case rel => exact ⟨(IntKind.u64.wrap (Int.tdiv x5_1 2)), (wrap64 (x6_1 + 1)), (by first | rfl | (simp; done) | (simp [*]; done)), (by first | rfl | (simp; done) | (simp [*]; done)), H', ⟨by have := HK1.out; omega⟩, by repeat (first | exact Drawn0.refl _ | apply Drawn0.step)⟩
      · rw [if_neg c3] at H
        have c3b0 : decide (x6_1 < a1) = false := decide_eq_false c3
        clear c3
        obtain rfl := Option.some.inj H
        go_wp2
        go_ret
        exact ⟨by first | rfl | (simp; done) | (simp [*]; done), by repeat (first | exact Drawn0.refl _ | apply Drawn0.step)⟩

end Go.Proofs.YtjccngahpafcaaaDoor.PRingTables
