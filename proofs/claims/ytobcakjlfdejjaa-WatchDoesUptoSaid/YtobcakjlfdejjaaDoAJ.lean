/- The law WatchDoes of the watch, where what came in is of bulk at most 1048576: raw changes done to raw tuples, the rows : part 36 of 38: what it leans on. -/
import Derived.Test.YtobcakjlfdejjaaDoX
import Derived.Test.YtobcakjlfdejjaaDoY
import Derived.Test.YtobcakjlfdejjaaDoZ
import Derived.Test.YtobcakjlfdejjaaDoAF
section
namespace Go.Proofs.Ytobcakjlfdejjaa.PWatchDoes
open Go.RowKit Go.Proofs.YtobcakjlfdejjaaW.PrintWords Go.Proofs.YtobcakjlfdejjaaW.PrintLast Go.Proofs.YtobcakjlfdejjaaW.PrintMore
attribute [local go_sem] max2_int min2_int max_two min_two max_three min_three max_four min_four   -- for this text's walks alone
set_option linter.unusedVariables false
set_option linter.unusedSimpArgs false

attribute [local go_sem high] eqA37
/-! ### porterref22_Rows: function 21 -/
mutual
def porterref22_Rows.l0 : Nat → List (S59) → List (S39) → Int → Option ((List (S39)))
  | 0, _, _, _ => none
  | k + 1, x0, x3, x4 => if x4 < (x0.length : Int) then (if 0 ≤ x4 then (porterref22_Rows.l1 k x0 x3 x4 (-1) 0 ((rd_T59 x0 x4).f0) ((rd_T59 x0 x4).f1) ((rd_T59 x0 x4).f2.f0) ((rd_T59 x0 x4).f2.f1) ((rd_T59 x0 x4).f2.f2)) else (none)) else (porterref22_Rows.l2 k x3 ([] : List (S39)) 0)
def porterref22_Rows.l1 : Nat → List (S59) → List (S39) → Int → Int → Int → Int → Bool → ByteArray → ByteArray → ByteArray → Option ((List (S39)))
  | 0, _, _, _, _, _, _, _, _, _, _ => none
  | k + 1, x0, x3, x4, x6, x7, x193000, x193001, x193002, x193003, x193004 => if x7 < (x3.length : Int) then (if 0 ≤ x7 then (if ((((rd_T39 x3 x7).f0.f0).toList) == x193002.toList && ((((rd_T39 x3 x7).f0.f1).toList) == x193003.toList && ((((rd_T39 x3 x7).f0.f2).toList) == x193004.toList))) = true then (if ((rd_T39 x3 x7).f2) = 0 then (porterref22_Rows.l1 k x0 x3 x4 x7 (wrap64 (x7 + 1)) x193000 x193001 x193002 x193003 x193004) else (porterref22_Rows.l1 k x0 x3 x4 x6 (wrap64 (x7 + 1)) x193000 x193001 x193002 x193003 x193004)) else (porterref22_Rows.l1 k x0 x3 x4 x6 (wrap64 (x7 + 1)) x193000 x193001 x193002 x193003 x193004)) else (none)) else (if x193001 = true then (porterref22_Rows.j2 k x0 x3 x4 x6 (decide (x6 ≥ 0)) x193000 x193001 x193002 x193003 x193004) else (porterref22_Rows.j2 k x0 x3 x4 x6 false x193000 x193001 x193002 x193003 x193004))
def porterref22_Rows.j2 : Nat → List (S59) → List (S39) → Int → Int → Bool → Int → Bool → ByteArray → ByteArray → ByteArray → Option ((List (S39)))
  | 0, _, _, _, _, _, _, _, _, _, _ => none
  | k + 1, x0, x3, x4, x6, x50, x193000, x193001, x193002, x193003, x193004 => if x50 = true then (if 0 ≤ x6 then (if x6 < (x3.length : Int) then ((some (x3.set (x6 : Int).toNat (⟨(⟨(rd_T39 x3 x6).f0.f0, (rd_T39 x3 x6).f0.f1, (rd_T39 x3 x6).f0.f2⟩ : S37), (rd_T39 x3 x6).f1, x193000⟩ : S39) : List (S39))).bind fun y195 => (if x193001 = true then (porterref22_Rows.l0 k x0 y195 (wrap64 (x4 + 1))) else (if x6 < 0 then (if y195.length < 2199023255552 then (porterref22_Rows.l0 k x0 (y195 ++ [(⟨(⟨x193002, x193003, x193004⟩ : S37), x193000, 0⟩ : S39)]) (wrap64 (x4 + 1))) else (none)) else (porterref22_Rows.l0 k x0 y195 (wrap64 (x4 + 1)))))) else (none)) else (none)) else (if x193001 = true then (porterref22_Rows.l0 k x0 x3 (wrap64 (x4 + 1))) else (if x6 < 0 then (if x3.length < 2199023255552 then (porterref22_Rows.l0 k x0 (x3 ++ [(⟨(⟨x193002, x193003, x193004⟩ : S37), x193000, 0⟩ : S39)]) (wrap64 (x4 + 1))) else (none)) else (porterref22_Rows.l0 k x0 x3 (wrap64 (x4 + 1)))))
def porterref22_Rows.l2 : Nat → List (S39) → List (S39) → Int → Option ((List (S39)))
  | 0, _, _, _ => none
  | k + 1, x3, x8, x9 => if x9 < (x3.length : Int) then (porterref22_Rows.l3 k x3 x8 x9 (x8.length : Int)) else (some x8)
def porterref22_Rows.l3 : Nat → List (S39) → List (S39) → Int → Int → Option ((List (S39)))
  | 0, _, _, _, _ => none
  | k + 1, x3, x8, x9, x10 => if x10 > 0 then (if 0 ≤ x9 then (if x9 < (x3.length : Int) then (if 0 ≤ (wrap64 (x10 - 1)) then (if (wrap64 (x10 - 1)) < (x8.length : Int) then ((porterref07_Before.f ((rd_T39 x3 x9).f0.f0) ((rd_T39 x3 x9).f0.f1) ((rd_T39 x3 x9).f0.f2) ((rd_T39 x3 x9).f1) ((rd_T39 x3 x9).f2) ((rd_T39 x8 (wrap64 (x10 - 1))).f0.f0) ((rd_T39 x8 (wrap64 (x10 - 1))).f0.f1) ((rd_T39 x8 (wrap64 (x10 - 1))).f0.f2) ((rd_T39 x8 (wrap64 (x10 - 1))).f1) ((rd_T39 x8 (wrap64 (x10 - 1))).f2)).bind fun t204 => (if t204 = true then (porterref22_Rows.l3 k x3 x8 x9 (wrap64 (x10 - 1))) else ((some (([] : List (S39)) : List (S39))).bind fun y205 => (if 0 ≤ x10 then (if x10 ≤ (x8.length : Int) then ((some (x8.take (x10 : Int).toNat : List (S39))).bind fun y208 => (if y205.length + y208.length < 2199023255552 then ((some (y205 ++ y208 : List (S39))).bind fun y212 => (if y212.length < 2199023255552 then ((some (y212 ++ [(⟨(⟨(rd_T39 x3 x9).f0.f0, (rd_T39 x3 x9).f0.f1, (rd_T39 x3 x9).f0.f2⟩ : S37), (rd_T39 x3 x9).f1, (rd_T39 x3 x9).f2⟩ : S39)] : List (S39))).bind fun y216 => ((some (x8.drop (x10 : Int).toNat : List (S39))).bind fun y219 => (if y216.length + y219.length < 2199023255552 then (porterref22_Rows.l2 k x3 (y216 ++ y219) (wrap64 (x9 + 1))) else (none)))) else (none))) else (none))) else (none)) else (none))))) else (none)) else (none)) else (none)) else (none)) else ((some (([] : List (S39)) : List (S39))).bind fun y226 => (if 0 ≤ x10 then (if x10 ≤ (x8.length : Int) then ((some (x8.take (x10 : Int).toNat : List (S39))).bind fun y229 => (if y226.length + y229.length < 2199023255552 then ((some (y226 ++ y229 : List (S39))).bind fun y233 => (if 0 ≤ x9 then (if x9 < (x3.length : Int) then (if y233.length < 2199023255552 then ((some (y233 ++ [(⟨(⟨(rd_T39 x3 x9).f0.f0, (rd_T39 x3 x9).f0.f1, (rd_T39 x3 x9).f0.f2⟩ : S37), (rd_T39 x3 x9).f1, (rd_T39 x3 x9).f2⟩ : S39)] : List (S39))).bind fun y237 => ((some (x8.drop (x10 : Int).toNat : List (S39))).bind fun y240 => (if y237.length + y240.length < 2199023255552 then (porterref22_Rows.l2 k x3 (y237 ++ y240) (wrap64 (x9 + 1))) else (none)))) else (none)) else (none)) else (none))) else (none))) else (none)) else (none)))
end
def porterref22_Rows.f (k : Nat) (l0 : List (S59)) : Option ((List (S39))) := porterref22_Rows.l0 k l0 ([] : List (S39)) 0
theorem porterref22_Rows.mono_l : ∀ k, (∀ y0 y1 y2, LeO (porterref22_Rows.l0 k y0 y1 y2) (porterref22_Rows.l0 (k + 1) y0 y1 y2)) ∧ (∀ y0 y1 y2 y3 y4 y5 y6 y7 y8 y9, LeO (porterref22_Rows.l1 k y0 y1 y2 y3 y4 y5 y6 y7 y8 y9) (porterref22_Rows.l1 (k + 1) y0 y1 y2 y3 y4 y5 y6 y7 y8 y9)) ∧ (∀ y0 y1 y2 y3 y4 y5 y6 y7 y8 y9, LeO (porterref22_Rows.j2 k y0 y1 y2 y3 y4 y5 y6 y7 y8 y9) (porterref22_Rows.j2 (k + 1) y0 y1 y2 y3 y4 y5 y6 y7 y8 y9)) ∧ (∀ y0 y1 y2, LeO (porterref22_Rows.l2 k y0 y1 y2) (porterref22_Rows.l2 (k + 1) y0 y1 y2)) ∧ (∀ y0 y1 y2 y3, LeO (porterref22_Rows.l3 k y0 y1 y2 y3) (porterref22_Rows.l3 (k + 1) y0 y1 y2 y3))
  | 0 => ⟨fun _ _ _ r h => by simp [porterref22_Rows.l0] at h, fun _ _ _ _ _ _ _ _ _ _ r h => by simp [porterref22_Rows.l1] at h, fun _ _ _ _ _ _ _ _ _ _ r h => by simp [porterref22_Rows.j2] at h, fun _ _ _ r h => by simp [porterref22_Rows.l2] at h, fun _ _ _ _ r h => by simp [porterref22_Rows.l3] at h⟩
  | k + 1 => by
    obtain ⟨ih0, ih1, ih2, ih3, ih4⟩ := porterref22_Rows.mono_l k
    refine ⟨?_, ?_, ?_, ?_, ?_⟩
    · intro y0 y1 y2
      unfold porterref22_Rows.l0
      repeat' first
      | (with_reducible exact ih0 _ _ _)
      | (with_reducible exact ih1 _ _ _ _ _ _ _ _ _ _)
      | (with_reducible exact ih2 _ _ _ _ _ _ _ _ _ _)
      | (with_reducible exact ih3 _ _ _)
      | (with_reducible exact ih4 _ _ _ _)
      | (with_reducible exact LeO.refl _)
      | (with_reducible exact LeO.none _)
      | (with_reducible refine LeO.ite ?_ ?_)
      | (with_reducible refine LeO.bind ?_ (fun _ => ?_))
      | exact ih0 _ _ _
      | exact ih1 _ _ _ _ _ _ _ _ _ _
      | exact ih2 _ _ _ _ _ _ _ _ _ _
      | exact ih3 _ _ _
      | exact ih4 _ _ _ _
      | exact LeO.none _
      | refine LeO.ite ?_ ?_
      | refine LeO.bind ?_ (fun _ => ?_)
    · intro y0 y1 y2 y3 y4 y5 y6 y7 y8 y9
      unfold porterref22_Rows.l1
      repeat' first
      | (with_reducible exact ih0 _ _ _)
      | (with_reducible exact ih1 _ _ _ _ _ _ _ _ _ _)
      | (with_reducible exact ih2 _ _ _ _ _ _ _ _ _ _)
      | (with_reducible exact ih3 _ _ _)
      | (with_reducible exact ih4 _ _ _ _)
      | (with_reducible exact LeO.refl _)
      | (with_reducible exact LeO.none _)
      | (with_reducible refine LeO.ite ?_ ?_)
      | (with_reducible refine LeO.bind ?_ (fun _ => ?_))
      | exact ih0 _ _ _
      | exact ih1 _ _ _ _ _ _ _ _ _ _
      | exact ih2 _ _ _ _ _ _ _ _ _ _
      | exact ih3 _ _ _
      | exact ih4 _ _ _ _
      | exact LeO.none _
      | refine LeO.ite ?_ ?_
      | refine LeO.bind ?_ (fun _ => ?_)
    · intro y0 y1 y2 y3 y4 y5 y6 y7 y8 y9
      unfold porterref22_Rows.j2
      repeat' first
      | (with_reducible exact ih0 _ _ _)
      | (with_reducible exact ih1 _ _ _ _ _ _ _ _ _ _)
      | (with_reducible exact ih2 _ _ _ _ _ _ _ _ _ _)
      | (with_reducible exact ih3 _ _ _)
      | (with_reducible exact ih4 _ _ _ _)
      | (with_reducible exact LeO.refl _)
      | (with_reducible exact LeO.none _)
      | (with_reducible refine LeO.ite ?_ ?_)
      | (with_reducible refine LeO.bind ?_ (fun _ => ?_))
      | exact ih0 _ _ _
      | exact ih1 _ _ _ _ _ _ _ _ _ _
      | exact ih2 _ _ _ _ _ _ _ _ _ _
      | exact ih3 _ _ _
      | exact ih4 _ _ _ _
      | exact LeO.none _
      | refine LeO.ite ?_ ?_
      | refine LeO.bind ?_ (fun _ => ?_)
    · intro y0 y1 y2
      unfold porterref22_Rows.l2
      repeat' first
      | (with_reducible exact ih0 _ _ _)
      | (with_reducible exact ih1 _ _ _ _ _ _ _ _ _ _)
      | (with_reducible exact ih2 _ _ _ _ _ _ _ _ _ _)
      | (with_reducible exact ih3 _ _ _)
      | (with_reducible exact ih4 _ _ _ _)
      | (with_reducible exact LeO.refl _)
      | (with_reducible exact LeO.none _)
      | (with_reducible refine LeO.ite ?_ ?_)
      | (with_reducible refine LeO.bind ?_ (fun _ => ?_))
      | exact ih0 _ _ _
      | exact ih1 _ _ _ _ _ _ _ _ _ _
      | exact ih2 _ _ _ _ _ _ _ _ _ _
      | exact ih3 _ _ _
      | exact ih4 _ _ _ _
      | exact LeO.none _
      | refine LeO.ite ?_ ?_
      | refine LeO.bind ?_ (fun _ => ?_)
    · intro y0 y1 y2 y3
      unfold porterref22_Rows.l3
      repeat' first
      | (with_reducible exact ih0 _ _ _)
      | (with_reducible exact ih1 _ _ _ _ _ _ _ _ _ _)
      | (with_reducible exact ih2 _ _ _ _ _ _ _ _ _ _)
      | (with_reducible exact ih3 _ _ _)
      | (with_reducible exact ih4 _ _ _ _)
      | (with_reducible exact LeO.refl _)
      | (with_reducible exact LeO.none _)
      | (with_reducible refine LeO.ite ?_ ?_)
      | (with_reducible refine LeO.bind ?_ (fun _ => ?_))
      | exact ih0 _ _ _
      | exact ih1 _ _ _ _ _ _ _ _ _ _
      | exact ih2 _ _ _ _ _ _ _ _ _ _
      | exact ih3 _ _ _
      | exact ih4 _ _ _ _
      | exact LeO.none _
      | refine LeO.ite ?_ ?_
      | refine LeO.bind ?_ (fun _ => ?_)
theorem porterref22_Rows.mono : ∀ a0 k, LeO (porterref22_Rows.f k a0) (porterref22_Rows.f (k + 1) a0) := by
  intro a0 k
  obtain ⟨ih0, ih1, ih2, ih3, ih4⟩ := porterref22_Rows.mono_l k
  unfold porterref22_Rows.f
  repeat' first
      | (with_reducible exact ih0 _ _ _)
      | (with_reducible exact ih1 _ _ _ _ _ _ _ _ _ _)
      | (with_reducible exact ih2 _ _ _ _ _ _ _ _ _ _)
      | (with_reducible exact ih3 _ _ _)
      | (with_reducible exact ih4 _ _ _ _)
      | (with_reducible exact LeO.refl _)
      | (with_reducible exact LeO.none _)
      | (with_reducible refine LeO.ite ?_ ?_)
      | (with_reducible refine LeO.bind ?_ (fun _ => ?_))
      | exact ih0 _ _ _
      | exact ih1 _ _ _ _ _ _ _ _ _ _
      | exact ih2 _ _ _ _ _ _ _ _ _ _
      | exact ih3 _ _ _
      | exact ih4 _ _ _ _
      | exact LeO.none _
      | refine LeO.ite ?_ ?_
      | refine LeO.bind ?_ (fun _ => ?_)
def porterref22_Rows.T10 : Bool × List (List Nat × List Nat) := (true, [([], []), ([], []), ([0, 1], [0, 1]), ([2], [2]), ([3], [3]), ([], []), ([5], [5]), ([4, 6], [4, 6]), ([7], [7]), ([8], [8]), ([8], [8]), ([9, 10, 8], [8, 9, 10]), ([11, 8], [8, 11]), ([12, 8], [8, 12]), ([13, 8], [8, 13]), ([8, 14], [8, 14])])
def porterref22_Rows.B10 : List Nat := [0, 0, 3, 7, 15, 0, 32, 127, 255, 511, 511, 2047, 4095, 8191, 16383, 32767]
theorem porterref22_Rows.tab10 : rtab .any (opsOf Try.f21 10) = porterref22_Rows.T10 := by kernel_rfl
theorem porterref22_Rows.bits10 : waitsOk porterref22_Rows.T10.2 porterref22_Rows.B10 = true := by kernel_rfl
def porterref22_Rows.T21 : Bool × List (List Nat × List Nat) := (true, [([], []), ([0], [0]), ([1], [1]), ([2], [2]), ([2], [2]), ([3, 4, 2], [2, 3, 4]), ([5, 2], [2, 5]), ([2], [2]), ([2], [2]), ([8, 2], [2, 8]), ([7, 9, 2], [2, 7, 9]), ([10, 2], [2, 10]), ([6, 11, 2, 2], [2, 6, 11]), ([2, 12], [2, 12])])
def porterref22_Rows.B21 : List Nat := [0, 1, 3, 7, 7, 31, 63, 7, 7, 263, 903, 1927, 4095, 8191]
theorem porterref22_Rows.tab21 : rtab .any (opsOf Try.f21 21) = porterref22_Rows.T21 := by kernel_rfl
theorem porterref22_Rows.bits21 : waitsOk porterref22_Rows.T21.2 porterref22_Rows.B21 = true := by kernel_rfl
set_option maxHeartbeats 8000000 in
set_option maxRecDepth 100000 in
theorem porterref22_Rows.calls (k : Nat) (A0 : Option Addr) (c0 : Nat) (l0 : List (S59)) (r : List (S39)) (w : World) (hr0 : Kd.C k59 w A0 l0.length l0) (hc0 : l0.length ≤ c0) (h : porterref22_Rows.f k l0 = some r) :
    Calls Try.prog 21 #[.slice A0 l0.length c0] w fun e w' => ∃ v0_ : Value, e = .returned (v0_) ∧ Kd.R k39 39 w' w.heap.size (fun _ => True) v0_ r ∧ Below w.heap.size w w' := by
  have hu59 := Try.underlying59
  have hu37 := Try.underlying37
  have hu39 := Try.underlying39
  have HR0 := Aside0.mk hr0
  have HC0 := Aside0.mk hc0
  clear hr0 hc0
  have HB := Aside0.mk (Below.refl w.heap.size w)
  have H : (porterref22_Rows.l0 k l0 ([] : List (S39)) 0) = some r := h
  clear h
  have H' := Aside0.mk H
  clear H
  go_enter Try.func21, Try.ntmps21
  go_wp2
  go_loopg [3, 4] k (fun kq v3 v4 w' => ∃ (x3_1 : List (S39)) (x4_1 : Int), v4 = .int .i64 x4_1 ∧ Aside0 (porterref22_Rows.l0 kq l0 x3_1 x4_1 = some r) ∧ Aside0 (kq ≤ k) ∧ Aside0 (Kd.R k39 39 w' w.heap.size (fun _ => True) v3 x3_1) ∧ Aside0 (Below w.heap.size w w'))
  case atStart => exact ⟨(([] : List (S39))), (0), (by first | rfl | (simp; done) | (simp [*]; done)), H', ⟨Nat.le_refl _⟩, ⟨by first | exact Kd.R_nil _ _ _ _ _ | exact Kd.N_nil _ _ _ _ _ | exact Kd.V_nil _ _ _ _ _ | exact Kd.Q_nil _ _ _ _ _ | exact Kd.S_nil _ _ _ _ _⟩, ⟨by repeat (first | (with_reducible first | exact HB.out | apply below_alloc | apply pw_below_drewN | apply below_drew1) | exact HB.out)⟩⟩
  case round =>
    clear H'
    obtain ⟨x3_1, x4_1, rfl, HA, HK1, HO_3, HB⟩ := hrel
    cases gk with
    | zero => exact absurd HA.out (by simp [porterref22_Rows.l0])
    | succ k1 =>
      have H := HA.out
      clear HA
      simp only [porterref22_Rows.l0] at H
      by_cases c2 : x4_1 < (l0.length : Int)
      · rw [if_pos c2] at H
        have c2b0 : decide (x4_1 < (l0.length : Int)) = true := decide_eq_true c2
        clear c2
        by_cases c3 : 0 ≤ x4_1
        · rw [if_pos c3] at H
          have c3b0 : decide (0 ≤ x4_1) = true := decide_eq_true c3
          clear c3
          have H' := Aside0.mk H
          clear H
          have p191 : 0 ≤ (x4_1 : Int) := of_decide_eq_true (by first | (with_reducible assumption) | assumption)
          have q191 : x4_1 < (l0.length : Int) := of_decide_eq_true (by first | (with_reducible assumption) | assumption)
          obtain ⟨ad191, e191, hx191_0, hx191_1, hx191_2, hx191_3, hx191_4⟩ := at_T59 HR0.out x4_1 p191 q191
          cases e191
          replace hx191_0 := (HB.out.cell (World.block_lt_of_cell? w _ hx191_0)).trans hx191_0
          replace hx191_1 := (HB.out.cell (World.block_lt_of_cell? w _ hx191_1)).trans hx191_1
          replace hx191_2 := (HB.out.cell (World.block_lt_of_cell? w _ hx191_2)).trans hx191_2
          replace hx191_3 := (HB.out.cell (World.block_lt_of_cell? w _ hx191_3)).trans hx191_3
          replace hx191_4 := (HB.out.cell (World.block_lt_of_cell? w _ hx191_4)).trans hx191_4
          replace p191 := eq_true p191
          replace q191 := eq_true q191
          go_wp2_with (first | ((with_reducible refine gate_dst (N := 5) rfl ?_); refine box_event ?hg (N := 5) ?hd (cs := #[.int .i64 0, .bool false, .string (⟨#[]⟩ : ByteArray), .string (⟨#[]⟩ : ByteArray), .string (⟨#[]⟩ : ByteArray)]) (t := 59) ?hr ?_; (case hd => rfl); (case hg => rfl); (case hr => first | (go_simp; done) | (go_simp; rfl)); intro gb192 hg w4 hbox hb; have n0_ := Aside0.mk (Kd.R_below (by (with_reducible repeat (first | apply Kd.R_alloc | apply Kd.R_drewN | apply Kd.R_drew)); exact HO_3.out) hb); have n1_ := Aside0.mk (below_step (by repeat (first | (with_reducible first | exact HB.out | apply below_alloc | apply pw_below_drewN | apply below_drew1) | exact HB.out)) hb); have n2_ := Aside0.mk (hbox); have n3_ := Aside0.mk ((by rw [hg]; exact (below_size (by repeat (first | (with_reducible first | exact HB.out | apply below_alloc | apply pw_below_drewN | apply below_drew1) | exact HB.out))) : w.heap.size ≤ gb192)); have n4_ := Aside0.mk ((by rw [hg]; exact (below_size (by repeat (first | (with_reducible first | exact HB.out | apply below_alloc | apply pw_below_drewN | apply below_drew1) | exact HB.out))) : w.heap.size ≤ gb192)); clear HO_3; clear HB; have HO_3 := n0_; have HB := n1_; have BK192 := n2_; have GW192 := n3_; have GE192 := n4_; clear n0_ n1_ n2_ n3_ n4_; clear hb hbox hg; have hcz5_0 : w4.cell? ⟨gb192, 0, none⟩ = some (.int .i64 0) := (blk_cell BK192.out 0).trans rfl; have hcz5_1 : w4.cell? ⟨gb192, 1, none⟩ = some (.bool false) := (blk_cell BK192.out 1).trans rfl; have hcz5_2 : w4.cell? ⟨gb192, 2, none⟩ = some (.string (⟨#[]⟩ : ByteArray)) := (blk_cell BK192.out 2).trans rfl; have hcz5_3 : w4.cell? ⟨gb192, 3, none⟩ = some (.string (⟨#[]⟩ : ByteArray)) := (blk_cell BK192.out 3).trans rfl; have hcz5_4 : w4.cell? ⟨gb192, 4, none⟩ = some (.string (⟨#[]⟩ : ByteArray)) := (blk_cell BK192.out 4).trans rfl; have hfz5_0 := blk_frozen BK192.out 0; have hfz5_1 := blk_frozen BK192.out 1; have hfz5_2 := blk_frozen BK192.out 2; have hfz5_3 := blk_frozen BK192.out 3; have hfz5_4 := blk_frozen BK192.out 4))
          go_loopg [6, 7] k1 (fun kq v6 v7 w' => ∃ (x6_2 : Int) (x7_2 : Int), v6 = .int .i64 x6_2 ∧ v7 = .int .i64 x7_2 ∧ Aside0 (porterref22_Rows.l1 kq l0 x3_1 x4_1 x6_2 x7_2 ((rd_T59 l0 x4_1).f0) ((rd_T59 l0 x4_1).f1) ((rd_T59 l0 x4_1).f2.f0) ((rd_T59 l0 x4_1).f2.f1) ((rd_T59 l0 x4_1).f2.f2) = some r) ∧ Aside0 (kq ≤ k1) ∧ Aside0 (Kd.R k39 39 w' w.heap.size (fun _ => True) u3 x3_1) ∧ Aside0 (w'.heap[gb192]? = some (.cells #[.int .i64 ((rd_T59 l0 x4_1).f0), .bool ((rd_T59 l0 x4_1).f1), .string ((rd_T59 l0 x4_1).f2.f0), .string ((rd_T59 l0 x4_1).f2.f1), .string ((rd_T59 l0 x4_1).f2.f2)] 59 (0, 0))) ∧ Aside0 (Below w.heap.size w w'))
          case atStart => exact ⟨((-1)), (0), (by first | rfl | (simp; done) | (simp [*]; done)), (by first | rfl | (simp; done) | (simp [*]; done)), H', ⟨Nat.le_refl _⟩, ⟨by (with_reducible repeat (first | apply Kd.R_alloc | apply Kd.R_drewN | apply Kd.R_drew)); exact Kd.R_mono (Kd.R_far (p := ⟨gb192, 4, none⟩) (Kd.R_far (p := ⟨gb192, 3, none⟩) (Kd.R_far (p := ⟨gb192, 2, none⟩) (Kd.R_far (p := ⟨gb192, 1, none⟩) (Kd.R_far (p := ⟨gb192, 0, none⟩) (Kd.R_types HO_3.out BK192.out (by decide)) (fun _ hk => hk.2) (.int .i64 ((rd_T59 l0 x4_1).f0))) (fun _ hk => hk.2) (.bool ((rd_T59 l0 x4_1).f1))) (fun _ hk => hk.2) (.string ((rd_T59 l0 x4_1).f2.f0))) (fun _ hk => hk.2) (.string ((rd_T59 l0 x4_1).f2.f1))) (fun _ hk => hk.2) (.string ((rd_T59 l0 x4_1).f2.f2))) (fun _ hk => trivial)⟩, ⟨by (with_reducible repeat (first | refine blk_drewN ?_ _ | refine blk_drew ?_ | refine blk_alloc ?_ _)); refine blk_put (cs := #[.int .i64 ((rd_T59 l0 x4_1).f0), .bool ((rd_T59 l0 x4_1).f1), .string ((rd_T59 l0 x4_1).f2.f0), .string ((rd_T59 l0 x4_1).f2.f1), .string (⟨#[]⟩ : ByteArray)]) ?_ 4 _ rfl; (with_reducible repeat (first | refine blk_drewN ?_ _ | refine blk_drew ?_ | refine blk_alloc ?_ _)); refine blk_put (cs := #[.int .i64 ((rd_T59 l0 x4_1).f0), .bool ((rd_T59 l0 x4_1).f1), .string ((rd_T59 l0 x4_1).f2.f0), .string (⟨#[]⟩ : ByteArray), .string (⟨#[]⟩ : ByteArray)]) ?_ 3 _ rfl; (with_reducible repeat (first | refine blk_drewN ?_ _ | refine blk_drew ?_ | refine blk_alloc ?_ _)); refine blk_put (cs := #[.int .i64 ((rd_T59 l0 x4_1).f0), .bool ((rd_T59 l0 x4_1).f1), .string (⟨#[]⟩ : ByteArray), .string (⟨#[]⟩ : ByteArray), .string (⟨#[]⟩ : ByteArray)]) ?_ 2 _ rfl; (with_reducible repeat (first | refine blk_drewN ?_ _ | refine blk_drew ?_ | refine blk_alloc ?_ _)); refine blk_put (cs := #[.int .i64 ((rd_T59 l0 x4_1).f0), .bool false, .string (⟨#[]⟩ : ByteArray), .string (⟨#[]⟩ : ByteArray), .string (⟨#[]⟩ : ByteArray)]) ?_ 1 _ rfl; (with_reducible repeat (first | refine blk_drewN ?_ _ | refine blk_drew ?_ | refine blk_alloc ?_ _)); refine blk_put (cs := #[.int .i64 0, .bool false, .string (⟨#[]⟩ : ByteArray), .string (⟨#[]⟩ : ByteArray), .string (⟨#[]⟩ : ByteArray)]) ?_ 0 _ rfl; (with_reducible repeat (first | refine blk_drewN ?_ _ | refine blk_drew ?_ | refine blk_alloc ?_ _)); exact BK192.out⟩, ⟨by repeat (first | (with_reducible first | exact HB.out | apply below_alloc | apply pw_below_drewN | apply below_drew1 | refine below_set ?_ GE192.out) | exact HB.out)⟩⟩
          case round =>
            clear H'
            try clear p1
            try clear q1
            try clear hx1
            try clear c2
            try clear c2b0
            try clear p2
            try clear c3
            try clear c3b0
            try clear hcz5_0
            try clear hcz5_1
            try clear hcz5_2
            try clear hcz5_3
            try clear hcz5_4
            try clear hfz5_0
            try clear hfz5_1
            try clear hfz5_2
            try clear hfz5_3
            try clear hfz5_4
            try clear hx191_0
            try clear hx191_1
            try clear hx191_2
            try clear hx191_3
            try clear hx191_4
            try clear p191
            try clear q191
            obtain ⟨x6_2, x7_2, rfl, rfl, HA, HK2, HO_3, BK192, HB⟩ := hrel
            cases gk with
            | zero => exact absurd HA.out (by simp [porterref22_Rows.l1])
            | succ k2 =>
              have H := HA.out
              clear HA
              simp only [porterref22_Rows.l1] at H
              by_cases c6 : x7_2 < (x3_1.length : Int)
              · rw [if_pos c6] at H
                have c6b0 : decide (x7_2 < (x3_1.length : Int)) = true := decide_eq_true c6
                clear c6
                by_cases c7 : 0 ≤ x7_2
                · rw [if_pos c7] at H
                  have c7b0 : decide (0 ≤ x7_2) = true := decide_eq_true c7
                  clear c7
                  by_cases c8 : ((((rd_T39 x3_1 x7_2).f0.f0).toList) == ((rd_T59 l0 x4_1).f2.f0).toList && ((((rd_T39 x3_1 x7_2).f0.f1).toList) == ((rd_T59 l0 x4_1).f2.f1).toList && ((((rd_T39 x3_1 x7_2).f0.f2).toList) == ((rd_T59 l0 x4_1).f2.f2).toList))) = true
                  · rw [if_pos c8] at H
                    have c8b0 : ((((rd_T39 x3_1 x7_2).f0.f0).toList) == ((rd_T59 l0 x4_1).f2.f0).toList && ((((rd_T39 x3_1 x7_2).f0.f1).toList) == ((rd_T59 l0 x4_1).f2.f1).toList && ((((rd_T39 x3_1 x7_2).f0.f2).toList) == ((rd_T59 l0 x4_1).f2.f2).toList))) = true := c8
                    (try (have c8b1 : decide ((((rd_T39 x3_1 x7_2).f0.f0).toList) = ((rd_T59 l0 x4_1).f2.f0).toList && ((((rd_T39 x3_1 x7_2).f0.f1).toList) == ((rd_T59 l0 x4_1).f2.f1).toList && ((((rd_T39 x3_1 x7_2).f0.f2).toList) == ((rd_T59 l0 x4_1).f2.f2).toList))) = true := by simpa using c8))
                    (try (have c8b2 : ((((rd_T39 x3_1 x7_2).f0.f0).toList) == ((rd_T59 l0 x4_1).f2.f0).toList && ((((rd_T39 x3_1 x7_2).f0.f1).toList) == ((rd_T59 l0 x4_1).f2.f1).toList && ((((rd_T39 x3_1 x7_2).f0.f2).toList) == ((rd_T59 l0 x4_1).f2.f2).toList))) = true := by simpa using c8))
                    clear c8
                    by_cases c9 : ((rd_T39 x3_1 x7_2).f2) = 0
                    · rw [if_pos c9] at H
                      have c9b0 : (((rd_T39 x3_1 x7_2).f2) == 0) = true := beq_iff_eq.mpr c9
                      have c9b1 : (((rd_T39 x3_1 x7_2).f2) != 0) = false := bne_eq_false_iff_eq.mpr c9
                      clear c9
                      have H' := Aside0.mk H
                      clear H
                      obtain ⟨Ao10, co10, eo10⟩ := Kd.R_slice HO_3.out
                      subst eo10
                      try go_wp2
                      have n0_ := Aside0.mk (Kd.R_drew HO_3.out)
                      have n1_ := Aside0.mk (blk_drew BK192.out)
                      have n2_ := Aside0.mk (below_drew1 HB.out)
                      clear HO_3
                      clear BK192
                      clear HB
                      have HO_3 := n0_
                      have BK192 := n1_
                      have HB := n2_
                      clear n0_ n1_ n2_
                      have p193 : 0 ≤ (x7_2 : Int) := of_decide_eq_true (by first | (with_reducible assumption) | assumption)
                      have q193 : x7_2 < (x3_1.length : Int) := of_decide_eq_true (by first | (with_reducible assumption) | assumption)
                      obtain ⟨ad193, e193, hx193_0, hx193_1, hx193_2, hx193_3, hx193_4⟩ := at_T39 (Kd.R_reads' HO_3.out).2.2 x7_2 p193 q193
                      cases e193
                      replace p193 := eq_true p193
                      replace q193 := eq_true q193
                      have p194 : 0 ≤ (x7_2 : Int) := of_decide_eq_true (by first | (with_reducible assumption) | assumption)
                      have q194 : x7_2 < (x3_1.length : Int) := of_decide_eq_true (by first | (with_reducible assumption) | assumption)
                      obtain ⟨ad194, e194, hx194_0, hx194_1, hx194_2, hx194_3, hx194_4⟩ := at_T39 (Kd.R_reads' HO_3.out).2.2 x7_2 p194 q194
                      obtain rfl : ad193 = ad194 := (by injection e194)
                      replace p194 := eq_true p194
                      replace q194 := eq_true q194
                      refine start_ (n := 16) (S := fun w' => w'.cell? ⟨gb192, 0, none⟩ = some (.int .i64 ((rd_T59 l0 x4_1).f0)) ∧ w'.cell? ⟨gb192, 1, none⟩ = some (.bool ((rd_T59 l0 x4_1).f1)) ∧ w'.cell? ⟨gb192, 2, none⟩ = some (.string ((rd_T59 l0 x4_1).f2.f0)) ∧ w'.cell? ⟨gb192, 3, none⟩ = some (.string ((rd_T59 l0 x4_1).f2.f1)) ∧ w'.cell? ⟨gb192, 4, none⟩ = some (.string ((rd_T59 l0 x4_1).f2.f2)) ∧ w'.cell? (ad193.add ((x7_2).toNat * 5)) = some (.string ((rd_T39 x3_1 x7_2).f0.f0)) ∧ w'.cell? ⟨(ad193.add ((x7_2).toNat * 5)).block, (ad193.add ((x7_2).toNat * 5)).off + 1, none⟩ = some (.string ((rd_T39 x3_1 x7_2).f0.f1)) ∧ w'.cell? ⟨(ad193.add ((x7_2).toNat * 5)).block, (ad193.add ((x7_2).toNat * 5)).off + 2, none⟩ = some (.string ((rd_T39 x3_1 x7_2).f0.f2)) ∧ w'.cell? ⟨(ad193.add ((x7_2).toNat * 5)).block, (ad193.add ((x7_2).toNat * 5)).off + 3, none⟩ = some (.int .i64 ((rd_T39 x3_1 x7_2).f1)) ∧ w'.cell? ⟨(ad193.add ((x7_2).toNat * 5)).block, (ad193.add ((x7_2).toNat * 5)).off + 4, none⟩ = some (.int .i64 ((rd_T39 x3_1 x7_2).f2)) ∧ w'.cell? (ad193.add ((x7_2).toNat * 5)) = some (.string ((rd_T39 x3_1 x7_2).f0.f0)) ∧ w'.cell? ⟨(ad193.add ((x7_2).toNat * 5)).block, (ad193.add ((x7_2).toNat * 5)).off + 1, none⟩ = some (.string ((rd_T39 x3_1 x7_2).f0.f1)) ∧ w'.cell? ⟨(ad193.add ((x7_2).toNat * 5)).block, (ad193.add ((x7_2).toNat * 5)).off + 2, none⟩ = some (.string ((rd_T39 x3_1 x7_2).f0.f2)) ∧ w'.cell? ⟨(ad193.add ((x7_2).toNat * 5)).block, (ad193.add ((x7_2).toNat * 5)).off + 3, none⟩ = some (.int .i64 ((rd_T39 x3_1 x7_2).f1)) ∧ w'.cell? ⟨(ad193.add ((x7_2).toNat * 5)).block, (ad193.add ((x7_2).toNat * 5)).off + 4, none⟩ = some (.int .i64 ((rd_T39 x3_1 x7_2).f2))) (ds := []) #[false, false, false, false, false, false, false, false, false, false, false, false, false, false, false, false] (by kernel_rfl) rfl rfl ⟨(blk_cell BK192.out 0).trans rfl, (blk_cell BK192.out 1).trans rfl, (blk_cell BK192.out 2).trans rfl, (blk_cell BK192.out 3).trans rfl, (blk_cell BK192.out 4).trans rfl, hx193_0, hx193_1, hx193_2, hx193_3, hx193_4, hx194_0, hx194_1, hx194_2, hx194_3, hx194_4⟩ (fun hHeld => ?_); refine with_tabW porterref22_Rows.tab10 porterref22_Rows.bits10 (fun HT_ HW_ => ?_)
                      generalize wr.drew = w11 at HO_3 BK192 HB hx193_0 hx193_1 hx193_2 hx193_3 hx193_4 hx194_0 hx194_1 hx194_2 hx194_3 hx194_4 hHeld ⊢
                      refine pure_ (i := 0) (N := some 28) (v := ?_) (a' := ?_) #[true, false, false, false, false, false, false, false, false, false, false, false, false, false, false, false] rfl rfl (any_of HT_.out (by kernel_rfl)) (fun _ _ _ h => h) (Or.inl ⟨by rfl, ?_⟩) ?_ ?_
                      rotate_left
                      · intro w'
                        go_simp
                        with_reducible rfl
                      rotate_left
                      · simp only [Act.put, List.setIfInBounds_toArray, List.set_cons_zero, List.set_cons_succ, i64_w, i32_w]
                        rfl
                      refine pure_ (i := 1) (N := some 29) (v := ?_) (a' := ?_) #[true, true, false, false, false, false, false, false, false, false, false, false, false, false, false, false] rfl rfl (any_of HT_.out (by kernel_rfl)) (fun _ _ _ h => h) (Or.inl ⟨by rfl, ?_⟩) ?_ ?_
                      rotate_left
                      · intro w'
                        go_simp
                        with_reducible rfl
                      rotate_left
                      · simp only [Act.put, List.setIfInBounds_toArray, List.set_cons_zero, List.set_cons_succ, i64_w, i32_w]
                        rfl
                      refine pure_ (i := 2) (N := some 30) (v := ?_) (a' := ?_) #[true, true, true, false, false, false, false, false, false, false, false, false, false, false, false, false] rfl rfl (any_of HT_.out (by kernel_rfl)) (fun _ _ _ h => h) (Or.inl ⟨by rfl, ?_⟩) ?_ ?_
                      rotate_left
                      · intro w'
                        go_simp
                        with_reducible rfl
                      rotate_left
                      · simp only [Act.put, List.setIfInBounds_toArray, List.set_cons_zero, List.set_cons_succ, i64_w, i32_w]
                        rfl
                      refine pure_ (i := 3) (N := some 31) (v := ?_) (a' := ?_) #[true, true, true, true, false, false, false, false, false, false, false, false, false, false, false, false] rfl rfl (any_of HT_.out (by kernel_rfl)) (fun _ _ _ h => h) (Or.inl ⟨by rfl, ?_⟩) ?_ ?_
                      rotate_left
                      · intro w'
                        go_simp
                        with_reducible rfl
                      rotate_left
                      · simp only [Act.put, List.setIfInBounds_toArray, List.set_cons_zero, List.set_cons_succ, i64_w, i32_w]
                        rfl
                      refine pure_ (i := 5) (N := some 33) (v := ?_) (a' := ?_) #[true, true, true, true, false, true, false, false, false, false, false, false, false, false, false, false] rfl rfl (any_of HT_.out (by kernel_rfl)) (fun _ _ _ h => h) (Or.inl ⟨by rfl, ?_⟩) ?_ ?_
                      rotate_left
                      · intro w'
                        go_simp
                        with_reducible rfl
                      rotate_left
                      · simp only [Act.put, List.setIfInBounds_toArray, List.set_cons_zero, List.set_cons_succ, i64_w, i32_w]
                        rfl
                      refine take_ (i := 4) (N := some 32) (v := ?_) (a' := ?_) #[true, true, true, true, true, true, false, false, false, false, false, false, false, false, false, false] rfl rfl (take_ofW HT_.out HW_.out (by kernel_rfl)) (fun _ _ _ h => h) (Or.inl ⟨by rfl, ?_⟩) hHeld ?_ ?_
                      rotate_left
                      · rintro w' ⟨s0, s1, s2, s3, s4, s5, s6, s7, s8, s9, s10, s11, s12, s13, s14⟩
                        go_simp
                        with_reducible rfl
                      rotate_left
                      · simp only [Act.put, List.setIfInBounds_toArray, List.set_cons_zero, List.set_cons_succ, i64_w, i32_w]
                        rfl
                      refine take_ (i := 6) (N := some 34) (v := ?_) (a' := ?_) #[true, true, true, true, true, true, true, false, false, false, false, false, false, false, false, false] rfl rfl (take_ofW HT_.out HW_.out (by kernel_rfl)) (fun _ _ _ h => h) (Or.inl ⟨by rfl, ?_⟩) hHeld ?_ ?_
                      rotate_left
                      · rintro w' ⟨s0, s1, s2, s3, s4, s5, s6, s7, s8, s9, s10, s11, s12, s13, s14⟩
                        go_simp
                        with_reducible rfl
                      rotate_left
                      · simp only [Act.put, List.setIfInBounds_toArray, List.set_cons_zero, List.set_cons_succ, i64_w, i32_w]
                        rfl
                      refine pure_ (i := 7) (N := some 35) (v := ?_) (a' := ?_) #[true, true, true, true, true, true, true, true, false, false, false, false, false, false, false, false] rfl rfl (any_of HT_.out (by kernel_rfl)) (fun _ _ _ h => h) (Or.inl ⟨by rfl, ?_⟩) ?_ ?_
                      rotate_left
                      · intro w'
                        go_simp
                        with_reducible rfl
                      rotate_left
                      · simp only [Act.put, List.setIfInBounds_toArray, List.set_cons_zero, List.set_cons_succ, i64_w, i32_w]
                        rfl
                      refine pure_ (i := 8) (N := some 36) (v := ?_) (a' := ?_) #[true, true, true, true, true, true, true, true, true, false, false, false, false, false, false, false] rfl rfl (any_of HT_.out (by kernel_rfl)) (fun _ _ _ h => h) (Or.inl ⟨by rfl, ?_⟩) ?_ ?_
                      rotate_left
                      · intro w'
                        go_simp
                        with_reducible rfl
                      rotate_left
                      · simp only [Act.put, List.setIfInBounds_toArray, List.set_cons_zero, List.set_cons_succ, i64_w, i32_w]
                        rfl
                      refine pure_ (i := 9) (N := some 37) (v := ?_) (a' := ?_) #[true, true, true, true, true, true, true, true, true, true, false, false, false, false, false, false] rfl rfl (any_of HT_.out (by kernel_rfl)) (fun _ _ _ h => h) (Or.inl ⟨by rfl, ?_⟩) ?_ ?_
                      rotate_left
                      · intro w'
                        go_simp
                        with_reducible rfl
                      rotate_left
                      · simp only [Act.put, List.setIfInBounds_toArray, List.set_cons_zero, List.set_cons_succ, i64_w, i32_w]
                        rfl
                      refine pure_ (i := 10) (N := some 38) (v := ?_) (a' := ?_) #[true, true, true, true, true, true, true, true, true, true, true, false, false, false, false, false] rfl rfl (any_of HT_.out (by kernel_rfl)) (fun _ _ _ h => h) (Or.inl ⟨by rfl, ?_⟩) ?_ ?_
                      rotate_left
                      · intro w'
                        go_simp
                        with_reducible rfl
                      rotate_left
                      · simp only [Act.put, List.setIfInBounds_toArray, List.set_cons_zero, List.set_cons_succ, i64_w, i32_w]
                        rfl
                      refine pure_ (i := 11) (N := some 39) (v := ?_) (a' := ?_) #[true, true, true, true, true, true, true, true, true, true, true, true, false, false, false, false] rfl rfl (any_of HT_.out (by kernel_rfl)) (fun _ _ _ h => h) (Or.inl ⟨by rfl, ?_⟩) ?_ ?_
                      rotate_left
                      · intro w'
                        go_simp
                        with_reducible rfl
                      rotate_left
                      · simp only [Act.put, List.setIfInBounds_toArray, List.set_cons_zero, List.set_cons_succ, i64_w, i32_w]
                        rfl
                      refine pure_ (i := 12) (N := some 40) (v := ?_) (a' := ?_) #[true, true, true, true, true, true, true, true, true, true, true, true, true, false, false, false] rfl rfl (any_of HT_.out (by kernel_rfl)) (fun _ _ _ h => h) (Or.inl ⟨by rfl, ?_⟩) ?_ ?_
                      rotate_left
                      · intro w'
                        go_simp
                        with_reducible rfl
                      rotate_left
                      · simp only [Act.put, List.setIfInBounds_toArray, List.set_cons_zero, List.set_cons_succ, i64_w, i32_w]
                        rfl
                      refine take_ (i := 13) (N := some 41) (v := ?_) (a' := ?_) #[true, true, true, true, true, true, true, true, true, true, true, true, true, true, false, false] rfl rfl (take_ofW HT_.out HW_.out (by kernel_rfl)) (fun _ _ _ h => h) (Or.inl ⟨by rfl, ?_⟩) hHeld ?_ ?_
                      rotate_left
                      · rintro w' ⟨s0, s1, s2, s3, s4, s5, s6, s7, s8, s9, s10, s11, s12, s13, s14⟩
                        go_simp
                        with_reducible rfl
                      rotate_left
                      · simp only [Act.put, List.setIfInBounds_toArray, List.set_cons_zero, List.set_cons_succ, i64_w, i32_w]
                        rfl
                      refine pure_ (i := 14) (N := some 42) (v := ?_) (a' := ?_) #[true, true, true, true, true, true, true, true, true, true, true, true, true, true, true, false] rfl rfl (any_of HT_.out (by kernel_rfl)) (fun _ _ _ h => h) (Or.inl ⟨by rfl, ?_⟩) ?_ ?_
                      rotate_left
                      · intro w'
                        go_simp
                        with_reducible rfl
                      rotate_left
                      · simp only [Act.put, List.setIfInBounds_toArray, List.set_cons_zero, List.set_cons_succ, i64_w, i32_w]
                        rfl
                      refine pure_ (i := 15) (N := some 43) (v := ?_) (a' := ?_) #[true, true, true, true, true, true, true, true, true, true, true, true, true, true, true, true] rfl rfl (any_of HT_.out (by kernel_rfl)) (fun _ _ _ h => h) (Or.inl ⟨by rfl, ?_⟩) ?_ ?_
                      rotate_left
                      · intro w'
                        go_simp
                        with_reducible rfl
                      rotate_left
                      · simp only [Act.put, List.setIfInBounds_toArray, List.set_cons_zero, List.set_cons_succ, i64_w, i32_w]
                        rfl
                      refine done_ (done_of HT_.out (by kernel_rfl)) ?_
                      try go_wp2
                      go_roundg k2
                      case measure => have := HK1.out; have := HK2.out; omega
                      case rel => exact ⟨(x7_2), (wrap64 (x7_2 + 1)), (by first | rfl | (simp; done) | (simp [*]; done)), (by first | rfl | (simp; done) | (simp [*]; done)), H', ⟨by have := HK1.out; have := HK2.out; omega⟩, ⟨by (with_reducible repeat (first | apply Kd.R_alloc | apply Kd.R_drewN | apply Kd.R_drew)); exact HO_3.out⟩, ⟨by (with_reducible repeat (first | refine blk_drewN ?_ _ | refine blk_drew ?_ | refine blk_alloc ?_ _)); exact BK192.out⟩, ⟨by repeat (first | (with_reducible first | exact HB.out | apply below_alloc | apply pw_below_drewN | apply below_drew1 | refine below_set ?_ GE192.out) | exact HB.out)⟩⟩
                    · rw [if_neg c9] at H
                      have c9b0 : (((rd_T39 x3_1 x7_2).f2) == 0) = false := beq_eq_false_iff_ne.mpr c9
                      have c9b1 : (((rd_T39 x3_1 x7_2).f2) != 0) = true := bne_iff_ne.mpr c9
                      have H' := Aside0.mk H
                      clear H
                      obtain ⟨Ao12, co12, eo12⟩ := Kd.R_slice HO_3.out
                      subst eo12
                      try go_wp2
                      have n0_ := Aside0.mk (Kd.R_drew HO_3.out)
                      have n1_ := Aside0.mk (blk_drew BK192.out)
                      have n2_ := Aside0.mk (below_drew1 HB.out)
                      clear HO_3
                      clear BK192
                      clear HB
                      have HO_3 := n0_
                      have BK192 := n1_
                      have HB := n2_
                      clear n0_ n1_ n2_
                      have p193 : 0 ≤ (x7_2 : Int) := of_decide_eq_true (by first | (with_reducible assumption) | assumption)
                      have q193 : x7_2 < (x3_1.length : Int) := of_decide_eq_true (by first | (with_reducible assumption) | assumption)
                      obtain ⟨ad193, e193, hx193_0, hx193_1, hx193_2, hx193_3, hx193_4⟩ := at_T39 (Kd.R_reads' HO_3.out).2.2 x7_2 p193 q193
                      cases e193
                      replace p193 := eq_true p193
                      replace q193 := eq_true q193
                      have p194 : 0 ≤ (x7_2 : Int) := of_decide_eq_true (by first | (with_reducible assumption) | assumption)
                      have q194 : x7_2 < (x3_1.length : Int) := of_decide_eq_true (by first | (with_reducible assumption) | assumption)
                      obtain ⟨ad194, e194, hx194_0, hx194_1, hx194_2, hx194_3, hx194_4⟩ := at_T39 (Kd.R_reads' HO_3.out).2.2 x7_2 p194 q194
                      obtain rfl : ad193 = ad194 := (by injection e194)
                      replace p194 := eq_true p194
                      replace q194 := eq_true q194
                      refine start_ (n := 16) (S := fun w' => w'.cell? ⟨gb192, 0, none⟩ = some (.int .i64 ((rd_T59 l0 x4_1).f0)) ∧ w'.cell? ⟨gb192, 1, none⟩ = some (.bool ((rd_T59 l0 x4_1).f1)) ∧ w'.cell? ⟨gb192, 2, none⟩ = some (.string ((rd_T59 l0 x4_1).f2.f0)) ∧ w'.cell? ⟨gb192, 3, none⟩ = some (.string ((rd_T59 l0 x4_1).f2.f1)) ∧ w'.cell? ⟨gb192, 4, none⟩ = some (.string ((rd_T59 l0 x4_1).f2.f2)) ∧ w'.cell? (ad193.add ((x7_2).toNat * 5)) = some (.string ((rd_T39 x3_1 x7_2).f0.f0)) ∧ w'.cell? ⟨(ad193.add ((x7_2).toNat * 5)).block, (ad193.add ((x7_2).toNat * 5)).off + 1, none⟩ = some (.string ((rd_T39 x3_1 x7_2).f0.f1)) ∧ w'.cell? ⟨(ad193.add ((x7_2).toNat * 5)).block, (ad193.add ((x7_2).toNat * 5)).off + 2, none⟩ = some (.string ((rd_T39 x3_1 x7_2).f0.f2)) ∧ w'.cell? ⟨(ad193.add ((x7_2).toNat * 5)).block, (ad193.add ((x7_2).toNat * 5)).off + 3, none⟩ = some (.int .i64 ((rd_T39 x3_1 x7_2).f1)) ∧ w'.cell? ⟨(ad193.add ((x7_2).toNat * 5)).block, (ad193.add ((x7_2).toNat * 5)).off + 4, none⟩ = some (.int .i64 ((rd_T39 x3_1 x7_2).f2)) ∧ w'.cell? (ad193.add ((x7_2).toNat * 5)) = some (.string ((rd_T39 x3_1 x7_2).f0.f0)) ∧ w'.cell? ⟨(ad193.add ((x7_2).toNat * 5)).block, (ad193.add ((x7_2).toNat * 5)).off + 1, none⟩ = some (.string ((rd_T39 x3_1 x7_2).f0.f1)) ∧ w'.cell? ⟨(ad193.add ((x7_2).toNat * 5)).block, (ad193.add ((x7_2).toNat * 5)).off + 2, none⟩ = some (.string ((rd_T39 x3_1 x7_2).f0.f2)) ∧ w'.cell? ⟨(ad193.add ((x7_2).toNat * 5)).block, (ad193.add ((x7_2).toNat * 5)).off + 3, none⟩ = some (.int .i64 ((rd_T39 x3_1 x7_2).f1)) ∧ w'.cell? ⟨(ad193.add ((x7_2).toNat * 5)).block, (ad193.add ((x7_2).toNat * 5)).off + 4, none⟩ = some (.int .i64 ((rd_T39 x3_1 x7_2).f2))) (ds := []) #[false, false, false, false, false, false, false, false, false, false, false, false, false, false, false, false] (by kernel_rfl) rfl rfl ⟨(blk_cell BK192.out 0).trans rfl, (blk_cell BK192.out 1).trans rfl, (blk_cell BK192.out 2).trans rfl, (blk_cell BK192.out 3).trans rfl, (blk_cell BK192.out 4).trans rfl, hx193_0, hx193_1, hx193_2, hx193_3, hx193_4, hx194_0, hx194_1, hx194_2, hx194_3, hx194_4⟩ (fun hHeld => ?_); refine with_tabW porterref22_Rows.tab10 porterref22_Rows.bits10 (fun HT_ HW_ => ?_)
                      generalize wr.drew = w13 at HO_3 BK192 HB hx193_0 hx193_1 hx193_2 hx193_3 hx193_4 hx194_0 hx194_1 hx194_2 hx194_3 hx194_4 hHeld ⊢
                      refine pure_ (i := 0) (N := some 28) (v := ?_) (a' := ?_) #[true, false, false, false, false, false, false, false, false, false, false, false, false, false, false, false] rfl rfl (any_of HT_.out (by kernel_rfl)) (fun _ _ _ h => h) (Or.inl ⟨by rfl, ?_⟩) ?_ ?_
                      rotate_left
                      · intro w'
                        go_simp
                        with_reducible rfl
                      rotate_left
                      · simp only [Act.put, List.setIfInBounds_toArray, List.set_cons_zero, List.set_cons_succ, i64_w, i32_w]
                        rfl
                      refine pure_ (i := 1) (N := some 29) (v := ?_) (a' := ?_) #[true, true, false, false, false, false, false, false, false, false, false, false, false, false, false, false] rfl rfl (any_of HT_.out (by kernel_rfl)) (fun _ _ _ h => h) (Or.inl ⟨by rfl, ?_⟩) ?_ ?_
                      rotate_left
                      · intro w'
                        go_simp
                        with_reducible rfl
                      rotate_left
                      · simp only [Act.put, List.setIfInBounds_toArray, List.set_cons_zero, List.set_cons_succ, i64_w, i32_w]
                        rfl
                      refine pure_ (i := 2) (N := some 30) (v := ?_) (a' := ?_) #[true, true, true, false, false, false, false, false, false, false, false, false, false, false, false, false] rfl rfl (any_of HT_.out (by kernel_rfl)) (fun _ _ _ h => h) (Or.inl ⟨by rfl, ?_⟩) ?_ ?_
                      rotate_left
                      · intro w'
                        go_simp
                        with_reducible rfl
                      rotate_left
                      · simp only [Act.put, List.setIfInBounds_toArray, List.set_cons_zero, List.set_cons_succ, i64_w, i32_w]
                        rfl
                      refine pure_ (i := 3) (N := some 31) (v := ?_) (a' := ?_) #[true, true, true, true, false, false, false, false, false, false, false, false, false, false, false, false] rfl rfl (any_of HT_.out (by kernel_rfl)) (fun _ _ _ h => h) (Or.inl ⟨by rfl, ?_⟩) ?_ ?_
                      rotate_left
                      · intro w'
                        go_simp
                        with_reducible rfl
                      rotate_left
                      · simp only [Act.put, List.setIfInBounds_toArray, List.set_cons_zero, List.set_cons_succ, i64_w, i32_w]
                        rfl
                      refine pure_ (i := 5) (N := some 33) (v := ?_) (a' := ?_) #[true, true, true, true, false, true, false, false, false, false, false, false, false, false, false, false] rfl rfl (any_of HT_.out (by kernel_rfl)) (fun _ _ _ h => h) (Or.inl ⟨by rfl, ?_⟩) ?_ ?_
                      rotate_left
                      · intro w'
                        go_simp
                        with_reducible rfl
                      rotate_left
                      · simp only [Act.put, List.setIfInBounds_toArray, List.set_cons_zero, List.set_cons_succ, i64_w, i32_w]
                        rfl
                      refine take_ (i := 4) (N := some 32) (v := ?_) (a' := ?_) #[true, true, true, true, true, true, false, false, false, false, false, false, false, false, false, false] rfl rfl (take_ofW HT_.out HW_.out (by kernel_rfl)) (fun _ _ _ h => h) (Or.inl ⟨by rfl, ?_⟩) hHeld ?_ ?_
                      rotate_left
                      · rintro w' ⟨s0, s1, s2, s3, s4, s5, s6, s7, s8, s9, s10, s11, s12, s13, s14⟩
                        go_simp
                        with_reducible rfl
                      rotate_left
                      · simp only [Act.put, List.setIfInBounds_toArray, List.set_cons_zero, List.set_cons_succ, i64_w, i32_w]
                        rfl
                      refine take_ (i := 6) (N := some 34) (v := ?_) (a' := ?_) #[true, true, true, true, true, true, true, false, false, false, false, false, false, false, false, false] rfl rfl (take_ofW HT_.out HW_.out (by kernel_rfl)) (fun _ _ _ h => h) (Or.inl ⟨by rfl, ?_⟩) hHeld ?_ ?_
                      rotate_left
                      · rintro w' ⟨s0, s1, s2, s3, s4, s5, s6, s7, s8, s9, s10, s11, s12, s13, s14⟩
                        go_simp
                        with_reducible rfl
                      rotate_left
                      · simp only [Act.put, List.setIfInBounds_toArray, List.set_cons_zero, List.set_cons_succ, i64_w, i32_w]
                        rfl
                      refine pure_ (i := 7) (N := some 35) (v := ?_) (a' := ?_) #[true, true, true, true, true, true, true, true, false, false, false, false, false, false, false, false] rfl rfl (any_of HT_.out (by kernel_rfl)) (fun _ _ _ h => h) (Or.inl ⟨by rfl, ?_⟩) ?_ ?_
                      rotate_left
                      · intro w'
                        go_simp
                        with_reducible rfl
                      rotate_left
                      · simp only [Act.put, List.setIfInBounds_toArray, List.set_cons_zero, List.set_cons_succ, i64_w, i32_w]
                        rfl
                      refine pure_ (i := 8) (N := some 36) (v := ?_) (a' := ?_) #[true, true, true, true, true, true, true, true, true, false, false, false, false, false, false, false] rfl rfl (any_of HT_.out (by kernel_rfl)) (fun _ _ _ h => h) (Or.inl ⟨by rfl, ?_⟩) ?_ ?_
                      rotate_left
                      · intro w'
                        go_simp
                        with_reducible rfl
                      rotate_left
                      · simp only [Act.put, List.setIfInBounds_toArray, List.set_cons_zero, List.set_cons_succ, i64_w, i32_w]
                        rfl
                      refine pure_ (i := 9) (N := some 37) (v := ?_) (a' := ?_) #[true, true, true, true, true, true, true, true, true, true, false, false, false, false, false, false] rfl rfl (any_of HT_.out (by kernel_rfl)) (fun _ _ _ h => h) (Or.inl ⟨by rfl, ?_⟩) ?_ ?_
                      rotate_left
                      · intro w'
                        go_simp
                        with_reducible rfl
                      rotate_left
                      · simp only [Act.put, List.setIfInBounds_toArray, List.set_cons_zero, List.set_cons_succ, i64_w, i32_w]
                        rfl
                      refine pure_ (i := 10) (N := some 38) (v := ?_) (a' := ?_) #[true, true, true, true, true, true, true, true, true, true, true, false, false, false, false, false] rfl rfl (any_of HT_.out (by kernel_rfl)) (fun _ _ _ h => h) (Or.inl ⟨by rfl, ?_⟩) ?_ ?_
                      rotate_left
                      · intro w'
                        go_simp
                        with_reducible rfl
                      rotate_left
                      · simp only [Act.put, List.setIfInBounds_toArray, List.set_cons_zero, List.set_cons_succ, i64_w, i32_w]
                        rfl
                      refine pure_ (i := 11) (N := some 39) (v := ?_) (a' := ?_) #[true, true, true, true, true, true, true, true, true, true, true, true, false, false, false, false] rfl rfl (any_of HT_.out (by kernel_rfl)) (fun _ _ _ h => h) (Or.inl ⟨by rfl, ?_⟩) ?_ ?_
                      rotate_left
                      · intro w'
                        go_simp
                        with_reducible rfl
                      rotate_left
                      · simp only [Act.put, List.setIfInBounds_toArray, List.set_cons_zero, List.set_cons_succ, i64_w, i32_w]
                        rfl
                      refine pure_ (i := 12) (N := some 40) (v := ?_) (a' := ?_) #[true, true, true, true, true, true, true, true, true, true, true, true, true, false, false, false] rfl rfl (any_of HT_.out (by kernel_rfl)) (fun _ _ _ h => h) (Or.inl ⟨by rfl, ?_⟩) ?_ ?_
                      rotate_left
                      · intro w'
                        go_simp
                        with_reducible rfl
                      rotate_left
                      · simp only [Act.put, List.setIfInBounds_toArray, List.set_cons_zero, List.set_cons_succ, i64_w, i32_w]
                        rfl
                      refine take_ (i := 13) (N := some 41) (v := ?_) (a' := ?_) #[true, true, true, true, true, true, true, true, true, true, true, true, true, true, false, false] rfl rfl (take_ofW HT_.out HW_.out (by kernel_rfl)) (fun _ _ _ h => h) (Or.inl ⟨by rfl, ?_⟩) hHeld ?_ ?_
                      rotate_left
                      · rintro w' ⟨s0, s1, s2, s3, s4, s5, s6, s7, s8, s9, s10, s11, s12, s13, s14⟩
                        go_simp
                        with_reducible rfl
                      rotate_left
                      · simp only [Act.put, List.setIfInBounds_toArray, List.set_cons_zero, List.set_cons_succ, i64_w, i32_w]
                        rfl
                      refine pure_ (i := 14) (N := some 42) (v := ?_) (a' := ?_) #[true, true, true, true, true, true, true, true, true, true, true, true, true, true, true, false] rfl rfl (any_of HT_.out (by kernel_rfl)) (fun _ _ _ h => h) (Or.inl ⟨by rfl, ?_⟩) ?_ ?_
                      rotate_left
                      · intro w'
                        go_simp
                        with_reducible rfl
                      rotate_left
                      · simp only [Act.put, List.setIfInBounds_toArray, List.set_cons_zero, List.set_cons_succ, i64_w, i32_w]
                        rfl
                      refine pure_ (i := 15) (N := some 43) (v := ?_) (a' := ?_) #[true, true, true, true, true, true, true, true, true, true, true, true, true, true, true, true] rfl rfl (any_of HT_.out (by kernel_rfl)) (fun _ _ _ h => h) (Or.inl ⟨by rfl, ?_⟩) ?_ ?_
                      rotate_left
                      · intro w'
                        go_simp
                        with_reducible rfl
                      rotate_left
                      · simp only [Act.put, List.setIfInBounds_toArray, List.set_cons_zero, List.set_cons_succ, i64_w, i32_w]
                        rfl
                      refine done_ (done_of HT_.out (by kernel_rfl)) ?_
                      try go_wp2
                      go_roundg k2
                      case measure => have := HK1.out; have := HK2.out; omega
                      case rel => exact ⟨(x6_2), (wrap64 (x7_2 + 1)), (by first | rfl | (simp; done) | (simp [*]; done)), (by first | rfl | (simp; done) | (simp [*]; done)), H', ⟨by have := HK1.out; have := HK2.out; omega⟩, ⟨by (with_reducible repeat (first | apply Kd.R_alloc | apply Kd.R_drewN | apply Kd.R_drew)); exact HO_3.out⟩, ⟨by (with_reducible repeat (first | refine blk_drewN ?_ _ | refine blk_drew ?_ | refine blk_alloc ?_ _)); exact BK192.out⟩, ⟨by repeat (first | (with_reducible first | exact HB.out | apply below_alloc | apply pw_below_drewN | apply below_drew1 | refine below_set ?_ GE192.out) | exact HB.out)⟩⟩
                  · rw [if_neg c8] at H
                    have c8b0 : ((((rd_T39 x3_1 x7_2).f0.f0).toList) == ((rd_T59 l0 x4_1).f2.f0).toList && ((((rd_T39 x3_1 x7_2).f0.f1).toList) == ((rd_T59 l0 x4_1).f2.f1).toList && ((((rd_T39 x3_1 x7_2).f0.f2).toList) == ((rd_T59 l0 x4_1).f2.f2).toList))) = false := by simpa using c8
                    (try (have c8b1 : decide ((((rd_T39 x3_1 x7_2).f0.f0).toList) = ((rd_T59 l0 x4_1).f2.f0).toList && ((((rd_T39 x3_1 x7_2).f0.f1).toList) == ((rd_T59 l0 x4_1).f2.f1).toList && ((((rd_T39 x3_1 x7_2).f0.f2).toList) == ((rd_T59 l0 x4_1).f2.f2).toList))) = false := by simpa using c8))
                    (try (have c8b2 : ((((rd_T39 x3_1 x7_2).f0.f0).toList) == ((rd_T59 l0 x4_1).f2.f0).toList && ((((rd_T39 x3_1 x7_2).f0.f1).toList) == ((rd_T59 l0 x4_1).f2.f1).toList && ((((rd_T39 x3_1 x7_2).f0.f2).toList) == ((rd_T59 l0 x4_1).f2.f2).toList))) = false := by simpa using c8))
                    (try (have c8b3 : ¬ ((((rd_T39 x3_1 x7_2).f0.f0).toList) = ((rd_T59 l0 x4_1).f2.f0).toList && ((((rd_T39 x3_1 x7_2).f0.f1).toList) == ((rd_T59 l0 x4_1).f2.f1).toList && ((((rd_T39 x3_1 x7_2).f0.f2).toList) == ((rd_T59 l0 x4_1).f2.f2).toList))) := by simpa using c8))
                    clear c8
                    have H' := Aside0.mk H
                    clear H
                    obtain ⟨Ao14, co14, eo14⟩ := Kd.R_slice HO_3.out
                    subst eo14
                    try go_wp2
                    have n0_ := Aside0.mk (Kd.R_drew HO_3.out)
                    have n1_ := Aside0.mk (blk_drew BK192.out)
                    have n2_ := Aside0.mk (below_drew1 HB.out)
                    clear HO_3
                    clear BK192
                    clear HB
                    have HO_3 := n0_
                    have BK192 := n1_
                    have HB := n2_
                    clear n0_ n1_ n2_
                    have p193 : 0 ≤ (x7_2 : Int) := of_decide_eq_true (by first | (with_reducible assumption) | assumption)
                    have q193 : x7_2 < (x3_1.length : Int) := of_decide_eq_true (by first | (with_reducible assumption) | assumption)
                    obtain ⟨ad193, e193, hx193_0, hx193_1, hx193_2, hx193_3, hx193_4⟩ := at_T39 (Kd.R_reads' HO_3.out).2.2 x7_2 p193 q193
                    cases e193
                    replace p193 := eq_true p193
                    replace q193 := eq_true q193
                    refine start_ (n := 16) (S := fun w' => w'.cell? ⟨gb192, 0, none⟩ = some (.int .i64 ((rd_T59 l0 x4_1).f0)) ∧ w'.cell? ⟨gb192, 1, none⟩ = some (.bool ((rd_T59 l0 x4_1).f1)) ∧ w'.cell? ⟨gb192, 2, none⟩ = some (.string ((rd_T59 l0 x4_1).f2.f0)) ∧ w'.cell? ⟨gb192, 3, none⟩ = some (.string ((rd_T59 l0 x4_1).f2.f1)) ∧ w'.cell? ⟨gb192, 4, none⟩ = some (.string ((rd_T59 l0 x4_1).f2.f2)) ∧ w'.cell? (ad193.add ((x7_2).toNat * 5)) = some (.string ((rd_T39 x3_1 x7_2).f0.f0)) ∧ w'.cell? ⟨(ad193.add ((x7_2).toNat * 5)).block, (ad193.add ((x7_2).toNat * 5)).off + 1, none⟩ = some (.string ((rd_T39 x3_1 x7_2).f0.f1)) ∧ w'.cell? ⟨(ad193.add ((x7_2).toNat * 5)).block, (ad193.add ((x7_2).toNat * 5)).off + 2, none⟩ = some (.string ((rd_T39 x3_1 x7_2).f0.f2)) ∧ w'.cell? ⟨(ad193.add ((x7_2).toNat * 5)).block, (ad193.add ((x7_2).toNat * 5)).off + 3, none⟩ = some (.int .i64 ((rd_T39 x3_1 x7_2).f1)) ∧ w'.cell? ⟨(ad193.add ((x7_2).toNat * 5)).block, (ad193.add ((x7_2).toNat * 5)).off + 4, none⟩ = some (.int .i64 ((rd_T39 x3_1 x7_2).f2))) (ds := []) #[false, false, false, false, false, false, false, false, false, false, false, false, false, false, false, false] (by kernel_rfl) rfl rfl ⟨(blk_cell BK192.out 0).trans rfl, (blk_cell BK192.out 1).trans rfl, (blk_cell BK192.out 2).trans rfl, (blk_cell BK192.out 3).trans rfl, (blk_cell BK192.out 4).trans rfl, hx193_0, hx193_1, hx193_2, hx193_3, hx193_4⟩ (fun hHeld => ?_); refine with_tabW porterref22_Rows.tab10 porterref22_Rows.bits10 (fun HT_ HW_ => ?_)
                    generalize wr.drew = w15 at HO_3 BK192 HB hx193_0 hx193_1 hx193_2 hx193_3 hx193_4 hHeld ⊢
                    refine pure_ (i := 0) (N := some 28) (v := ?_) (a' := ?_) #[true, false, false, false, false, false, false, false, false, false, false, false, false, false, false, false] rfl rfl (any_of HT_.out (by kernel_rfl)) (fun _ _ _ h => h) (Or.inl ⟨by rfl, ?_⟩) ?_ ?_
                    rotate_left
                    · intro w'
                      go_simp
                      with_reducible rfl
                    rotate_left
                    · simp only [Act.put, List.setIfInBounds_toArray, List.set_cons_zero, List.set_cons_succ, i64_w, i32_w]
                      rfl
                    refine pure_ (i := 1) (N := some 29) (v := ?_) (a' := ?_) #[true, true, false, false, false, false, false, false, false, false, false, false, false, false, false, false] rfl rfl (any_of HT_.out (by kernel_rfl)) (fun _ _ _ h => h) (Or.inl ⟨by rfl, ?_⟩) ?_ ?_
                    rotate_left
                    · intro w'
                      go_simp
                      with_reducible rfl
                    rotate_left
                    · simp only [Act.put, List.setIfInBounds_toArray, List.set_cons_zero, List.set_cons_succ, i64_w, i32_w]
                      rfl
                    refine pure_ (i := 2) (N := some 30) (v := ?_) (a' := ?_) #[true, true, true, false, false, false, false, false, false, false, false, false, false, false, false, false] rfl rfl (any_of HT_.out (by kernel_rfl)) (fun _ _ _ h => h) (Or.inl ⟨by rfl, ?_⟩) ?_ ?_
                    rotate_left
                    · intro w'
                      go_simp
                      with_reducible rfl
                    rotate_left
                    · simp only [Act.put, List.setIfInBounds_toArray, List.set_cons_zero, List.set_cons_succ, i64_w, i32_w]
                      rfl
                    refine pure_ (i := 3) (N := some 31) (v := ?_) (a' := ?_) #[true, true, true, true, false, false, false, false, false, false, false, false, false, false, false, false] rfl rfl (any_of HT_.out (by kernel_rfl)) (fun _ _ _ h => h) (Or.inl ⟨by rfl, ?_⟩) ?_ ?_
                    rotate_left
                    · intro w'
                      go_simp
                      with_reducible rfl
                    rotate_left
                    · simp only [Act.put, List.setIfInBounds_toArray, List.set_cons_zero, List.set_cons_succ, i64_w, i32_w]
                      rfl
                    refine pure_ (i := 5) (N := some 33) (v := ?_) (a' := ?_) #[true, true, true, true, false, true, false, false, false, false, false, false, false, false, false, false] rfl rfl (any_of HT_.out (by kernel_rfl)) (fun _ _ _ h => h) (Or.inl ⟨by rfl, ?_⟩) ?_ ?_
                    rotate_left
                    · intro w'
                      go_simp
                      with_reducible rfl
                    rotate_left
                    · simp only [Act.put, List.setIfInBounds_toArray, List.set_cons_zero, List.set_cons_succ, i64_w, i32_w]
                      rfl
                    refine take_ (i := 4) (N := some 32) (v := ?_) (a' := ?_) #[true, true, true, true, true, true, false, false, false, false, false, false, false, false, false, false] rfl rfl (take_ofW HT_.out HW_.out (by kernel_rfl)) (fun _ _ _ h => h) (Or.inl ⟨by rfl, ?_⟩) hHeld ?_ ?_
                    rotate_left
                    · rintro w' ⟨s0, s1, s2, s3, s4, s5, s6, s7, s8, s9⟩
                      go_simp
                      with_reducible rfl
                    rotate_left
                    · simp only [Act.put, List.setIfInBounds_toArray, List.set_cons_zero, List.set_cons_succ, i64_w, i32_w]
                      rfl
                    refine take_ (i := 6) (N := some 34) (v := ?_) (a' := ?_) #[true, true, true, true, true, true, true, false, false, false, false, false, false, false, false, false] rfl rfl (take_ofW HT_.out HW_.out (by kernel_rfl)) (fun _ _ _ h => h) (Or.inl ⟨by rfl, ?_⟩) hHeld ?_ ?_
                    rotate_left
                    · rintro w' ⟨s0, s1, s2, s3, s4, s5, s6, s7, s8, s9⟩
                      go_simp
                      with_reducible rfl
                    rotate_left
                    · simp only [Act.put, List.setIfInBounds_toArray, List.set_cons_zero, List.set_cons_succ, i64_w, i32_w]
                      rfl
                    refine pure_ (i := 7) (N := some 35) (v := ?_) (a' := ?_) #[true, true, true, true, true, true, true, true, false, false, false, false, false, false, false, false] rfl rfl (any_of HT_.out (by kernel_rfl)) (fun _ _ _ h => h) (Or.inl ⟨by rfl, ?_⟩) ?_ ?_
                    rotate_left
                    · intro w'
                      go_simp
                      with_reducible rfl
                    rotate_left
                    · simp only [Act.put, List.setIfInBounds_toArray, List.set_cons_zero, List.set_cons_succ, i64_w, i32_w]
                      rfl
                    refine pure_ (i := 8) (N := some 36) (v := ?_) (a' := ?_) #[true, true, true, true, true, true, true, true, true, false, false, false, false, false, false, false] rfl rfl (any_of HT_.out (by kernel_rfl)) (fun _ _ _ h => h) (Or.inl ⟨by rfl, ?_⟩) ?_ ?_
                    rotate_left
                    · intro w'
                      go_simp
                      with_reducible rfl
                    rotate_left
                    · simp only [Act.put, List.setIfInBounds_toArray, List.set_cons_zero, List.set_cons_succ, i64_w, i32_w]
                      rfl
                    refine pure_ (i := 9) (N := some 37) (v := undef) (a' := ?_) #[true, true, true, true, true, true, true, true, true, true, false, false, false, false, false, false] rfl rfl (any_of HT_.out (by kernel_rfl)) (fun _ _ _ h => h) (Or.inr ⟨by rfl, rfl⟩) ?_ ?_
                    rotate_left
                    · simp only [Act.put, List.setIfInBounds_toArray, List.set_cons_zero, List.set_cons_succ, i64_w, i32_w]
                      rfl
                    refine pure_ (i := 10) (N := some 38) (v := undef) (a' := ?_) #[true, true, true, true, true, true, true, true, true, true, true, false, false, false, false, false] rfl rfl (any_of HT_.out (by kernel_rfl)) (fun _ _ _ h => h) (Or.inr ⟨by rfl, rfl⟩) ?_ ?_
                    rotate_left
                    · simp only [Act.put, List.setIfInBounds_toArray, List.set_cons_zero, List.set_cons_succ, i64_w, i32_w]
                      rfl
                    refine pure_ (i := 11) (N := some 39) (v := undef) (a' := ?_) #[true, true, true, true, true, true, true, true, true, true, true, true, false, false, false, false] rfl rfl (any_of HT_.out (by kernel_rfl)) (fun _ _ _ h => h) (Or.inr ⟨by rfl, rfl⟩) ?_ ?_
                    rotate_left
                    · simp only [Act.put, List.setIfInBounds_toArray, List.set_cons_zero, List.set_cons_succ, i64_w, i32_w]
                      rfl
                    refine pure_ (i := 12) (N := some 40) (v := undef) (a' := ?_) #[true, true, true, true, true, true, true, true, true, true, true, true, true, false, false, false] rfl rfl (any_of HT_.out (by kernel_rfl)) (fun _ _ _ h => h) (Or.inr ⟨by rfl, rfl⟩) ?_ ?_
                    rotate_left
                    · simp only [Act.put, List.setIfInBounds_toArray, List.set_cons_zero, List.set_cons_succ, i64_w, i32_w]
                      rfl
                    refine pure_ (i := 13) (N := some 41) (v := undef) (a' := ?_) #[true, true, true, true, true, true, true, true, true, true, true, true, true, true, false, false] rfl rfl (any_of HT_.out (by kernel_rfl)) (fun _ _ _ h => h) (Or.inr ⟨by rfl, rfl⟩) ?_ ?_
                    rotate_left
                    · simp only [Act.put, List.setIfInBounds_toArray, List.set_cons_zero, List.set_cons_succ, i64_w, i32_w]
                      rfl
                    refine pure_ (i := 14) (N := some 42) (v := undef) (a' := ?_) #[true, true, true, true, true, true, true, true, true, true, true, true, true, true, true, false] rfl rfl (any_of HT_.out (by kernel_rfl)) (fun _ _ _ h => h) (Or.inr ⟨by rfl, rfl⟩) ?_ ?_
                    rotate_left
                    · simp only [Act.put, List.setIfInBounds_toArray, List.set_cons_zero, List.set_cons_succ, i64_w, i32_w]
                      rfl
                    refine pure_ (i := 15) (N := some 43) (v := ?_) (a' := ?_) #[true, true, true, true, true, true, true, true, true, true, true, true, true, true, true, true] rfl rfl (any_of HT_.out (by kernel_rfl)) (fun _ _ _ h => h) (Or.inl ⟨by rfl, ?_⟩) ?_ ?_
                    rotate_left
                    · intro w'
                      go_simp
                      with_reducible rfl
                    rotate_left
                    · simp only [Act.put, List.setIfInBounds_toArray, List.set_cons_zero, List.set_cons_succ, i64_w, i32_w]
                      rfl
                    refine done_ (done_of HT_.out (by kernel_rfl)) ?_
                    try go_wp2
                    go_roundg k2
                    case measure => have := HK1.out; have := HK2.out; omega
                    case rel => exact ⟨(x6_2), (wrap64 (x7_2 + 1)), (by first | rfl | (simp; done) | (simp [*]; done)), (by first | rfl | (simp; done) | (simp [*]; done)), H', ⟨by have := HK1.out; have := HK2.out; omega⟩, ⟨by (with_reducible repeat (first | apply Kd.R_alloc | apply Kd.R_drewN | apply Kd.R_drew)); exact HO_3.out⟩, ⟨by (with_reducible repeat (first | refine blk_drewN ?_ _ | refine blk_drew ?_ | refine blk_alloc ?_ _)); exact BK192.out⟩, ⟨by repeat (first | (with_reducible first | exact HB.out | apply below_alloc | apply pw_below_drewN | apply below_drew1 | refine below_set ?_ GE192.out) | exact HB.out)⟩⟩
                · rw [if_neg c7] at H
                  exact absurd H (by simp)
              · rw [if_neg c6] at H
                have c6b0 : decide (x7_2 < (x3_1.length : Int)) = false := decide_eq_false c6
                clear c6
                have HC16 := Aside0.mk H
                clear H
                obtain ⟨Ao17, co17, eo17⟩ := Kd.R_slice HO_3.out
                subst eo17
                go_upto_region 12 with (fail)
                go_cut [50] (fun v50 wc => ∃ (kq : Nat) (x50_15 : Bool), v50 = .bool x50_15 ∧ Aside0 (porterref22_Rows.j2 kq l0 x3_1 x4_1 x6_2 x50_15 ((rd_T59 l0 x4_1).f0) ((rd_T59 l0 x4_1).f1) ((rd_T59 l0 x4_1).f2.f0) ((rd_T59 l0 x4_1).f2.f1) ((rd_T59 l0 x4_1).f2.f2) = some r) ∧ Aside0 (kq ≤ k2) ∧ Aside0 (Kd.R k39 39 wc w.heap.size (fun _ => True) (.slice Ao17 x3_1.length co17) x3_1) ∧ Aside0 (wc.heap[gb192]? = some (.cells #[.int .i64 ((rd_T59 l0 x4_1).f0), .bool ((rd_T59 l0 x4_1).f1), .string ((rd_T59 l0 x4_1).f2.f0), .string ((rd_T59 l0 x4_1).f2.f1), .string ((rd_T59 l0 x4_1).f2.f2)] 59 (0, 0))) ∧ Aside0 (Below w.heap.size w wc))
                case first =>
                  have H := HC16.out
                  clear HC16
                  by_cases c18 : ((rd_T59 l0 x4_1).f1) = true
                  · rw [if_pos c18] at H
                    have c18b0 : ((rd_T59 l0 x4_1).f1) = true := c18
                    clear c18
                    (first | rw [c18b0] | (simp only [i64_w, i32_w]; rw [c18b0]) | skip)
                    have H' := Aside0.mk H
                    clear H
                    have hcz19_0 : wr.cell? ⟨gb192, 0, none⟩ = some (.int .i64 ((rd_T59 l0 x4_1).f0)) := (blk_cell BK192.out 0).trans rfl
                    have hcz19_1 : wr.cell? ⟨gb192, 1, none⟩ = some (.bool ((rd_T59 l0 x4_1).f1)) := (blk_cell BK192.out 1).trans rfl
                    have hcz19_2 : wr.cell? ⟨gb192, 2, none⟩ = some (.string ((rd_T59 l0 x4_1).f2.f0)) := (blk_cell BK192.out 2).trans rfl
                    have hcz19_3 : wr.cell? ⟨gb192, 3, none⟩ = some (.string ((rd_T59 l0 x4_1).f2.f1)) := (blk_cell BK192.out 3).trans rfl
                    have hcz19_4 : wr.cell? ⟨gb192, 4, none⟩ = some (.string ((rd_T59 l0 x4_1).f2.f2)) := (blk_cell BK192.out 4).trans rfl
                    have hfz19_0 := blk_frozen BK192.out 0
                    have hfz19_1 := blk_frozen BK192.out 1
                    have hfz19_2 := blk_frozen BK192.out 2
                    have hfz19_3 := blk_frozen BK192.out 3
                    have hfz19_4 := blk_frozen BK192.out 4
                    go_wp2
                    go_meet
                    case rel => exact ⟨_, (decide (x6_2 ≥ 0)), (by first | rfl | (simp; done) | (simp [*]; done)), H', ⟨by have := HK1.out; have := HK2.out; first | omega | exact Nat.le_refl _⟩, ⟨by (with_reducible repeat (first | apply Kd.R_alloc | apply Kd.R_drewN | apply Kd.R_drew)); exact HO_3.out⟩, ⟨by (with_reducible repeat (first | refine blk_drewN ?_ _ | refine blk_drew ?_ | refine blk_alloc ?_ _)); exact BK192.out⟩, ⟨by repeat (first | (with_reducible first | exact HB.out | apply below_alloc | apply pw_below_drewN | apply below_drew1 | refine below_set ?_ GE192.out) | exact HB.out)⟩⟩
                  · rw [if_neg c18] at H
                    have c18b0 : ((rd_T59 l0 x4_1).f1) = false := by simpa using c18
                    clear c18
                    (first | rw [c18b0] | (simp only [i64_w, i32_w]; rw [c18b0]) | skip)
                    have H' := Aside0.mk H
                    clear H
                    have hcz20_0 : wr.cell? ⟨gb192, 0, none⟩ = some (.int .i64 ((rd_T59 l0 x4_1).f0)) := (blk_cell BK192.out 0).trans rfl
                    have hcz20_1 : wr.cell? ⟨gb192, 1, none⟩ = some (.bool ((rd_T59 l0 x4_1).f1)) := (blk_cell BK192.out 1).trans rfl
                    have hcz20_2 : wr.cell? ⟨gb192, 2, none⟩ = some (.string ((rd_T59 l0 x4_1).f2.f0)) := (blk_cell BK192.out 2).trans rfl
                    have hcz20_3 : wr.cell? ⟨gb192, 3, none⟩ = some (.string ((rd_T59 l0 x4_1).f2.f1)) := (blk_cell BK192.out 3).trans rfl
                    have hcz20_4 : wr.cell? ⟨gb192, 4, none⟩ = some (.string ((rd_T59 l0 x4_1).f2.f2)) := (blk_cell BK192.out 4).trans rfl
                    have hfz20_0 := blk_frozen BK192.out 0
                    have hfz20_1 := blk_frozen BK192.out 1
                    have hfz20_2 := blk_frozen BK192.out 2
                    have hfz20_3 := blk_frozen BK192.out 3
                    have hfz20_4 := blk_frozen BK192.out 4
                    go_wp2
                    go_meet
                    case rel => exact ⟨_, (false), (by first | rfl | (simp; done) | (simp [*]; done)), H', ⟨by have := HK1.out; have := HK2.out; first | omega | exact Nat.le_refl _⟩, ⟨by (with_reducible repeat (first | apply Kd.R_alloc | apply Kd.R_drewN | apply Kd.R_drew)); exact HO_3.out⟩, ⟨by (with_reducible repeat (first | refine blk_drewN ?_ _ | refine blk_drew ?_ | refine blk_alloc ?_ _)); exact BK192.out⟩, ⟨by repeat (first | (with_reducible first | exact HB.out | apply below_alloc | apply pw_below_drewN | apply below_drew1 | refine below_set ?_ GE192.out) | exact HB.out)⟩⟩
                case rest =>
                  clear HC16
                  try clear c1
                  try clear p1
                  try clear q1
                  try clear hx1
                  try clear c2
                  try clear c2b0
                  try clear p2
                  try clear c3
                  try clear c3b0
                  try clear c6
                  try clear c6b0
                  try clear p6
                  try clear c7
                  try clear c7b0
                  try clear c8
                  try clear c8b0
                  try clear c8b1
                  try clear c8b2
                  try clear c9
                  try clear c9b0
                  try clear c9b1
                  try clear c18
                  try clear c18b0
                  try clear p19
                  try clear q19
                  try clear hx19
                  try clear hcz19_0
                  try clear hcz19_1
                  try clear hcz19_2
                  try clear hcz19_3
                  try clear hcz19_4
                  try clear hcz20_0
                  try clear hcz20_1
                  try clear hcz20_2
                  try clear hcz20_3
                  try clear hcz20_4
                  try clear hcz5_0
                  try clear hcz5_1
                  try clear hcz5_2
                  try clear hcz5_3
                  try clear hcz5_4
                  try clear hfz19_0
                  try clear hfz19_1
                  try clear hfz19_2
                  try clear hfz19_3
                  try clear hfz19_4
                  try clear hfz20_0
                  try clear hfz20_1
                  try clear hfz20_2
                  try clear hfz20_3
                  try clear hfz20_4
                  try clear hfz5_0
                  try clear hfz5_1
                  try clear hfz5_2
                  try clear hfz5_3
                  try clear hfz5_4
                  try clear hx191_0
                  try clear hx191_1
                  try clear hx191_2
                  try clear hx191_3
                  try clear hx191_4
                  try clear hx193_0
                  try clear hx193_1
                  try clear hx193_2
                  try clear hx193_3
                  try clear hx193_4
                  try clear hx194_0
                  try clear hx194_1
                  try clear hx194_2
                  try clear hx194_3
                  try clear hx194_4
                  try clear p1
                  try clear p191
                  try clear p193
                  try clear p194
                  try clear p2
                  try clear q1
                  try clear q191
                  try clear q193
                  try clear q194
                  obtain ⟨kq, x50_15, rfl, HA, HJ15, HO_3, BK192, HB⟩ := hcut
                  cases kq with
                  | zero => exact absurd HA.out (by simp [porterref22_Rows.j2])
                  | succ kj15 =>
                    have H := HA.out
                    clear HA
                    simp only [porterref22_Rows.j2] at H
                    by_cases c21 : x50_15 = true
                    · subst c21
                      have H1 : (if 0 ≤ x6_2 then (if x6_2 < (x3_1.length : Int) then ((some (x3_1.set (x6_2 : Int).toNat (⟨(⟨(rd_T39 x3_1 x6_2).f0.f0, (rd_T39 x3_1 x6_2).f0.f1, (rd_T39 x3_1 x6_2).f0.f2⟩ : S37), (rd_T39 x3_1 x6_2).f1, ((rd_T59 l0 x4_1).f0)⟩ : S39) : List (S39))).bind fun y195 => (if ((rd_T59 l0 x4_1).f1) = true then (porterref22_Rows.l0 kj15 l0 y195 (wrap64 (x4_1 + 1))) else (if x6_2 < 0 then (if y195.length < 2199023255552 then (porterref22_Rows.l0 kj15 l0 (y195 ++ [(⟨(⟨((rd_T59 l0 x4_1).f2.f0), ((rd_T59 l0 x4_1).f2.f1), ((rd_T59 l0 x4_1).f2.f2)⟩ : S37), ((rd_T59 l0 x4_1).f0), 0⟩ : S39)]) (wrap64 (x4_1 + 1))) else (none)) else (porterref22_Rows.l0 kj15 l0 y195 (wrap64 (x4_1 + 1)))))) else (none)) else (none)) = some r := by rw [if_pos rfl] at H; exact H
                      clear H
                      have H := H1
                      clear H1
                      by_cases c22 : 0 ≤ x6_2
                      · rw [if_pos c22] at H
                        have c22b0 : decide (0 ≤ x6_2) = true := decide_eq_true c22
                        clear c22
                        by_cases c23 : x6_2 < (x3_1.length : Int)
                        · rw [if_pos c23] at H
                          have c23b0 : decide (x6_2 < (x3_1.length : Int)) = true := decide_eq_true c23
                          clear c23
                          obtain ⟨y195, hy195⟩ : ∃ y_ : List (S39), y_ = (x3_1.set (x6_2 : Int).toNat (⟨(⟨(rd_T39 x3_1 x6_2).f0.f0, (rd_T39 x3_1 x6_2).f0.f1, (rd_T39 x3_1 x6_2).f0.f2⟩ : S37), (rd_T39 x3_1 x6_2).f1, ((rd_T59 l0 x4_1).f0)⟩ : S39)) := ⟨_, rfl⟩
                          replace H : (if ((rd_T59 l0 x4_1).f1) = true then (porterref22_Rows.l0 kj15 l0 y195 (wrap64 (x4_1 + 1))) else (if x6_2 < 0 then (if y195.length < 2199023255552 then (porterref22_Rows.l0 kj15 l0 (y195 ++ [(⟨(⟨((rd_T59 l0 x4_1).f2.f0), ((rd_T59 l0 x4_1).f2.f1), ((rd_T59 l0 x4_1).f2.f2)⟩ : S37), ((rd_T59 l0 x4_1).f0), 0⟩ : S39)]) (wrap64 (x4_1 + 1))) else (none)) else (porterref22_Rows.l0 kj15 l0 y195 (wrap64 (x4_1 + 1))))) = some r := by first | (rw [hy195]; with_reducible exact H) | (have H2_ := (Option.bind_some _ _).symm.trans H; rw [hy195]; with_reducible exact H2_) | (have H2_ := (Option.bind_some _ _).symm.trans H; with_reducible exact H2_) | with_reducible exact H | (rw [hy195]; exact H) | exact H
                          have Ny195 := Aside0.mk hy195
                          clear hy195
                          by_cases c25 : ((rd_T59 l0 x4_1).f1) = true
                          · rw [if_pos c25] at H
                            have c25b0 : ((rd_T59 l0 x4_1).f1) = true := c25
                            clear c25
                            have H' := Aside0.mk H
                            clear H
                            have hcz26_0 : wc.cell? ⟨gb192, 0, none⟩ = some (.int .i64 ((rd_T59 l0 x4_1).f0)) := (blk_cell BK192.out 0).trans rfl
                            have hcz26_1 : wc.cell? ⟨gb192, 1, none⟩ = some (.bool ((rd_T59 l0 x4_1).f1)) := (blk_cell BK192.out 1).trans rfl
                            have hcz26_2 : wc.cell? ⟨gb192, 2, none⟩ = some (.string ((rd_T59 l0 x4_1).f2.f0)) := (blk_cell BK192.out 2).trans rfl
                            have hcz26_3 : wc.cell? ⟨gb192, 3, none⟩ = some (.string ((rd_T59 l0 x4_1).f2.f1)) := (blk_cell BK192.out 3).trans rfl
                            have hcz26_4 : wc.cell? ⟨gb192, 4, none⟩ = some (.string ((rd_T59 l0 x4_1).f2.f2)) := (blk_cell BK192.out 4).trans rfl
                            have hfz26_0 := blk_frozen BK192.out 0
                            have hfz26_1 := blk_frozen BK192.out 1
                            have hfz26_2 := blk_frozen BK192.out 2
                            have hfz26_3 := blk_frozen BK192.out 3
                            have hfz26_4 := blk_frozen BK192.out 4
                            have p24 : 0 ≤ (x6_2 : Int) := of_decide_eq_true (by first | (with_reducible assumption) | assumption)
                            have q24 : (x6_2 : Int) < ((x3_1.length : Int) : Int) := of_decide_eq_true (by first | (with_reducible assumption) | assumption)
                            obtain ⟨go24, co24, eo24, gb24, gl24, cl24, HG24⟩ := Kd.R_form HO_3.out (by omega)
                            (first | cases eo24 | (injection eo24 with ea_ en_ ec_; (first | subst ea_ | (injection ea_ with ea_; subst ea_)); subst ec_; clear en_))
                            have GB24 := Aside0.mk gb24
                            have GG24 := Aside0.mk HG24
                            clear gb24 gl24 HG24
                            obtain ⟨ce24, hcl24, hM24, hcc24, hfr24⟩ := Kd.R_elem HO_3.out z39 (x6_2 : Int) p24 q24
                            obtain rfl := k39_openM hM24
                            have hx24_0 : wc.cell? ⟨go24, (x6_2 : Int).toNat * 5, none⟩ = some (.string ((rd_T39 x3_1 x6_2).f0.f0)) := hcc24 0 _ rfl
                            have hx24_1 : wc.cell? ⟨go24, (x6_2 : Int).toNat * 5 + 1, none⟩ = some (.string ((rd_T39 x3_1 x6_2).f0.f1)) := hcc24 1 _ rfl
                            have hx24_2 : wc.cell? ⟨go24, (x6_2 : Int).toNat * 5 + 2, none⟩ = some (.string ((rd_T39 x3_1 x6_2).f0.f2)) := hcc24 2 _ rfl
                            have hx24_3 : wc.cell? ⟨go24, (x6_2 : Int).toNat * 5 + 3, none⟩ = some (.int .i64 ((rd_T39 x3_1 x6_2).f1)) := hcc24 3 _ rfl
                            have hx24_4 : wc.cell? ⟨go24, (x6_2 : Int).toNat * 5 + 4, none⟩ = some (.int .i64 ((rd_T39 x3_1 x6_2).f2)) := hcc24 4 _ rfl
                            have hf24_0 : wc.frozen? ⟨go24, (x6_2 : Int).toNat * 5, none⟩ = false := hfr24 0
                            have hf24_1 : wc.frozen? ⟨go24, (x6_2 : Int).toNat * 5 + 1, none⟩ = false := hfr24 1
                            have hf24_2 : wc.frozen? ⟨go24, (x6_2 : Int).toNat * 5 + 2, none⟩ = false := hfr24 2
                            have hf24_3 : wc.frozen? ⟨go24, (x6_2 : Int).toNat * 5 + 3, none⟩ = false := hfr24 3
                            have hf24_4 : wc.frozen? ⟨go24, (x6_2 : Int).toNat * 5 + 4, none⟩ = false := hfr24 4
                            clear hcl24 hcc24 hfr24 hM24
                            replace p24 := eq_true p24
                            replace q24 := eq_true q24
                            have HX27 := Aside0.mk (show Kd.R k39 39 wc w.heap.size (fun _ => True) (.slice (some ⟨go24, 0, none⟩) x3_1.length co17) x3_1 from (by (with_reducible repeat (first | apply Kd.R_alloc | apply Kd.R_drewN | apply Kd.R_drew)); exact HO_3.out))
                            obtain ⟨ce27, hcl27, hM27, hcc27, hfr27⟩ := Kd.R_elem HX27.out z39 (x6_2 : Int) (of_decide_eq_true (by first | (with_reducible assumption) | assumption)) (by have h_ : (x6_2 : Int) < ((x3_1.length : Int) : Int) := of_decide_eq_true (by first | (with_reducible assumption) | assumption); first | exact h_ | (have e_ := (Kd.R_reads' HO_3.out).1; omega) | simpa using h_)
                            obtain rfl := k39_openM hM27
                            have HP27 := Kd.R_seg HX27.out (x6_2 : Int) (of_decide_eq_true (by first | (with_reducible assumption) | assumption)) (by have h_ : (x6_2 : Int) < ((x3_1.length : Int) : Int) := of_decide_eq_true (by first | (with_reducible assumption) | assumption); first | exact h_ | (have e_ := (Kd.R_reads' HO_3.out).1; omega) | simpa using h_) (seg := [.int .i64 ((rd_T59 l0 x4_1).f0)]) (j := 4) hcl27 hcc27 (show 5 ≤ 5 from by decide) (x' := (⟨(⟨(rd_T39 x3_1 x6_2).f0.f0, (rd_T39 x3_1 x6_2).f0.f1, (rd_T39 x3_1 x6_2).f0.f2⟩ : S37), (rd_T39 x3_1 x6_2).f1, ((rd_T59 l0 x4_1).f0)⟩ : S39)) (k39_mkM _ _ _ (⟨(⟨(rd_T39 x3_1 x6_2).f0.f0, (rd_T39 x3_1 x6_2).f0.f1, (rd_T39 x3_1 x6_2).f0.f2⟩ : S37), (rd_T39 x3_1 x6_2).f1, ((rd_T59 l0 x4_1).f0)⟩ : S39) ) (fun _ hk => hk)
                            have hx27_4 := hcc27 4 _ rfl
                            (try simp only [show (k39).sz = 5 from rfl, Nat.mul_one, Nat.add_zero] at hx27_4)
                            have hf27_4 := hfr27 4
                            (try simp only [show (k39).sz = 5 from rfl, Nat.mul_one, Nat.add_zero] at hf27_4)
                            clear hcl27 hcc27 hfr27 hM27
                            go_wp2_with (first | ((with_reducible refine gate_store (t := 2) (p := 56) rfl ?_); refine store_event (t := 2) (p := 56) (v := ?vo_w28) (w1 := (wc.setCell ⟨go24, (x6_2 : Int).toNat * 5 + 4, none⟩ (.int .i64 ((rd_T59 l0 x4_1).f0)))) ?hg ?ho ?hn ?hr ?_; (case ho => rfl); (case hg => rfl); (case hn => rfl); (case hr => first | (go_simp; done) | (go_simp; rfl)); intro w28 hw; have hg : wc.grownBy w28 (some go24) := (by rw [hw]; exact HP27.2); have hp_ : Kd.R k39 39 w28 w.heap.size (fun _ => True) (.slice (some ⟨go24, 0, none⟩) x3_1.length co17) y195 := (by rw [hw, Ny195.out]; exact HP27.1); clear HP27; have n0_ := Aside0.mk (hp_); have n1_ := Aside0.mk (blk_grown (g := gb192) (o := .cells #[.int .i64 ((rd_T59 l0 x4_1).f0), .bool ((rd_T59 l0 x4_1).f1), .string ((rd_T59 l0 x4_1).f2.f0), .string ((rd_T59 l0 x4_1).f2.f1), .string ((rd_T59 l0 x4_1).f2.f2)] 59 (0, 0)) (by (with_reducible repeat (first | refine blk_drewN ?_ _ | refine blk_drew ?_ | refine blk_alloc ?_ _)); exact BK192.out) hg (Kd.R_ne HO_3.out BK192.out (by decide))); have n2_ := Aside0.mk ((by rw [hw]; exact below_set (HB.out) GB24.out : Below w.heap.size w w28)); clear HO_3; clear BK192; clear HB; have HO_3 := n0_; have BK192 := n1_; have HB := n2_; clear n0_ n1_ n2_; clear hg hw hp_; have hcz29_0 : w28.cell? ⟨gb192, 0, none⟩ = some (.int .i64 ((rd_T59 l0 x4_1).f0)) := (blk_cell BK192.out 0).trans rfl; have hcz29_1 : w28.cell? ⟨gb192, 1, none⟩ = some (.bool ((rd_T59 l0 x4_1).f1)) := (blk_cell BK192.out 1).trans rfl; have hcz29_2 : w28.cell? ⟨gb192, 2, none⟩ = some (.string ((rd_T59 l0 x4_1).f2.f0)) := (blk_cell BK192.out 2).trans rfl; have hcz29_3 : w28.cell? ⟨gb192, 3, none⟩ = some (.string ((rd_T59 l0 x4_1).f2.f1)) := (blk_cell BK192.out 3).trans rfl; have hcz29_4 : w28.cell? ⟨gb192, 4, none⟩ = some (.string ((rd_T59 l0 x4_1).f2.f2)) := (blk_cell BK192.out 4).trans rfl; have hfz29_0 := blk_frozen BK192.out 0; have hfz29_1 := blk_frozen BK192.out 1; have hfz29_2 := blk_frozen BK192.out 2; have hfz29_3 := blk_frozen BK192.out 3; have hfz29_4 := blk_frozen BK192.out 4))
                            go_roundg kj15
                            case measure => have := HK1.out; have := HK2.out; have := HJ15.out; omega
                            case rel => exact ⟨(y195), (wrap64 (x4_1 + 1)), (by first | rfl | (simp; done) | (simp [*]; done)), H', ⟨by have := HK1.out; have := HK2.out; have := HJ15.out; omega⟩, ⟨by (with_reducible repeat (first | apply Kd.R_alloc | apply Kd.R_drewN | apply Kd.R_drew)); exact HO_3.out⟩, ⟨by repeat (first | (with_reducible first | exact HB.out | apply below_alloc | apply pw_below_drewN | apply below_drew1 | refine below_set ?_ GE192.out) | exact HB.out)⟩⟩
                          · rw [if_neg c25] at H
                            have c25b0 : ((rd_T59 l0 x4_1).f1) = false := by simpa using c25
                            clear c25
                            by_cases c30 : x6_2 < 0
                            · rw [if_pos c30] at H
                              have c30b0 : decide (x6_2 < 0) = true := decide_eq_true c30
                              clear c30
                              by_cases c31 : y195.length < 2199023255552
                              · rw [if_pos c31] at H
                                have LMc31 := Aside0.mk c31
                                clear c31
                                obtain ⟨y196, hy196⟩ : ∃ y_ : List (S39), y_ = (y195 ++ [(⟨(⟨((rd_T59 l0 x4_1).f2.f0), ((rd_T59 l0 x4_1).f2.f1), ((rd_T59 l0 x4_1).f2.f2)⟩ : S37), ((rd_T59 l0 x4_1).f0), 0⟩ : S39)]) := ⟨_, rfl⟩
                                replace H : (porterref22_Rows.l0 kj15 l0 y196 (wrap64 (x4_1 + 1))) = some r := by first | (rw [hy196]; with_reducible exact H) | (have H2_ := (Option.bind_some _ _).symm.trans H; rw [hy196]; with_reducible exact H2_) | (have H2_ := (Option.bind_some _ _).symm.trans H; with_reducible exact H2_) | with_reducible exact H | (rw [hy196]; exact H) | exact H
                                have Ny196 := Aside0.mk hy196
                                clear hy196
                                have H' := Aside0.mk H
                                clear H
                                have hcz32_0 : wc.cell? ⟨gb192, 0, none⟩ = some (.int .i64 ((rd_T59 l0 x4_1).f0)) := (blk_cell BK192.out 0).trans rfl
                                have hcz32_1 : wc.cell? ⟨gb192, 1, none⟩ = some (.bool ((rd_T59 l0 x4_1).f1)) := (blk_cell BK192.out 1).trans rfl
                                have hcz32_2 : wc.cell? ⟨gb192, 2, none⟩ = some (.string ((rd_T59 l0 x4_1).f2.f0)) := (blk_cell BK192.out 2).trans rfl
                                have hcz32_3 : wc.cell? ⟨gb192, 3, none⟩ = some (.string ((rd_T59 l0 x4_1).f2.f1)) := (blk_cell BK192.out 3).trans rfl
                                have hcz32_4 : wc.cell? ⟨gb192, 4, none⟩ = some (.string ((rd_T59 l0 x4_1).f2.f2)) := (blk_cell BK192.out 4).trans rfl
                                have hfz32_0 := blk_frozen BK192.out 0
                                have hfz32_1 := blk_frozen BK192.out 1
                                have hfz32_2 := blk_frozen BK192.out 2
                                have hfz32_3 := blk_frozen BK192.out 3
                                have hfz32_4 := blk_frozen BK192.out 4
                                have p24 : 0 ≤ (x6_2 : Int) := of_decide_eq_true (by first | (with_reducible assumption) | assumption)
                                have q24 : (x6_2 : Int) < ((x3_1.length : Int) : Int) := of_decide_eq_true (by first | (with_reducible assumption) | assumption)
                                obtain ⟨go24, co24, eo24, gb24, gl24, cl24, HG24⟩ := Kd.R_form HO_3.out (by omega)
                                (first | cases eo24 | (injection eo24 with ea_ en_ ec_; (first | subst ea_ | (injection ea_ with ea_; subst ea_)); subst ec_; clear en_))
                                have GB24 := Aside0.mk gb24
                                have GG24 := Aside0.mk HG24
                                clear gb24 gl24 HG24
                                obtain ⟨ce24, hcl24, hM24, hcc24, hfr24⟩ := Kd.R_elem HO_3.out z39 (x6_2 : Int) p24 q24
                                obtain rfl := k39_openM hM24
                                have hx24_0 : wc.cell? ⟨go24, (x6_2 : Int).toNat * 5, none⟩ = some (.string ((rd_T39 x3_1 x6_2).f0.f0)) := hcc24 0 _ rfl
                                have hx24_1 : wc.cell? ⟨go24, (x6_2 : Int).toNat * 5 + 1, none⟩ = some (.string ((rd_T39 x3_1 x6_2).f0.f1)) := hcc24 1 _ rfl
                                have hx24_2 : wc.cell? ⟨go24, (x6_2 : Int).toNat * 5 + 2, none⟩ = some (.string ((rd_T39 x3_1 x6_2).f0.f2)) := hcc24 2 _ rfl
                                have hx24_3 : wc.cell? ⟨go24, (x6_2 : Int).toNat * 5 + 3, none⟩ = some (.int .i64 ((rd_T39 x3_1 x6_2).f1)) := hcc24 3 _ rfl
                                have hx24_4 : wc.cell? ⟨go24, (x6_2 : Int).toNat * 5 + 4, none⟩ = some (.int .i64 ((rd_T39 x3_1 x6_2).f2)) := hcc24 4 _ rfl
                                have hf24_0 : wc.frozen? ⟨go24, (x6_2 : Int).toNat * 5, none⟩ = false := hfr24 0
                                have hf24_1 : wc.frozen? ⟨go24, (x6_2 : Int).toNat * 5 + 1, none⟩ = false := hfr24 1
                                have hf24_2 : wc.frozen? ⟨go24, (x6_2 : Int).toNat * 5 + 2, none⟩ = false := hfr24 2
                                have hf24_3 : wc.frozen? ⟨go24, (x6_2 : Int).toNat * 5 + 3, none⟩ = false := hfr24 3
                                have hf24_4 : wc.frozen? ⟨go24, (x6_2 : Int).toNat * 5 + 4, none⟩ = false := hfr24 4
                                clear hcl24 hcc24 hfr24 hM24
                                replace p24 := eq_true p24
                                replace q24 := eq_true q24
                                have HX33 := Aside0.mk (show Kd.R k39 39 wc w.heap.size (fun _ => True) (.slice (some ⟨go24, 0, none⟩) x3_1.length co17) x3_1 from (by (with_reducible repeat (first | apply Kd.R_alloc | apply Kd.R_drewN | apply Kd.R_drew)); exact HO_3.out))
                                obtain ⟨ce33, hcl33, hM33, hcc33, hfr33⟩ := Kd.R_elem HX33.out z39 (x6_2 : Int) (of_decide_eq_true (by first | (with_reducible assumption) | assumption)) (by have h_ : (x6_2 : Int) < ((x3_1.length : Int) : Int) := of_decide_eq_true (by first | (with_reducible assumption) | assumption); first | exact h_ | (have e_ := (Kd.R_reads' HO_3.out).1; omega) | simpa using h_)
                                obtain rfl := k39_openM hM33
                                have HP33 := Kd.R_seg HX33.out (x6_2 : Int) (of_decide_eq_true (by first | (with_reducible assumption) | assumption)) (by have h_ : (x6_2 : Int) < ((x3_1.length : Int) : Int) := of_decide_eq_true (by first | (with_reducible assumption) | assumption); first | exact h_ | (have e_ := (Kd.R_reads' HO_3.out).1; omega) | simpa using h_) (seg := [.int .i64 ((rd_T59 l0 x4_1).f0)]) (j := 4) hcl33 hcc33 (show 5 ≤ 5 from by decide) (x' := (⟨(⟨(rd_T39 x3_1 x6_2).f0.f0, (rd_T39 x3_1 x6_2).f0.f1, (rd_T39 x3_1 x6_2).f0.f2⟩ : S37), (rd_T39 x3_1 x6_2).f1, ((rd_T59 l0 x4_1).f0)⟩ : S39)) (k39_mkM _ _ _ (⟨(⟨(rd_T39 x3_1 x6_2).f0.f0, (rd_T39 x3_1 x6_2).f0.f1, (rd_T39 x3_1 x6_2).f0.f2⟩ : S37), (rd_T39 x3_1 x6_2).f1, ((rd_T59 l0 x4_1).f0)⟩ : S39) ) (fun _ hk => hk)
                                have hx33_4 := hcc33 4 _ rfl
                                (try simp only [show (k39).sz = 5 from rfl, Nat.mul_one, Nat.add_zero] at hx33_4)
                                have hf33_4 := hfr33 4
                                (try simp only [show (k39).sz = 5 from rfl, Nat.mul_one, Nat.add_zero] at hf33_4)
                                clear hcl33 hcc33 hfr33 hM33
                                go_wp2_with (first | ((with_reducible refine gate_store (t := 2) (p := 56) rfl ?_); refine store_event (t := 2) (p := 56) (v := ?vo_w34) (w1 := (wc.setCell ⟨go24, (x6_2 : Int).toNat * 5 + 4, none⟩ (.int .i64 ((rd_T59 l0 x4_1).f0)))) ?hg ?ho ?hn ?hr ?_; (case ho => rfl); (case hg => rfl); (case hn => rfl); (case hr => first | (go_simp; done) | (go_simp; rfl)); intro w34 hw; have hg : wc.grownBy w34 (some go24) := (by rw [hw]; exact HP33.2); have hp_ : Kd.R k39 39 w34 w.heap.size (fun _ => True) (.slice (some ⟨go24, 0, none⟩) x3_1.length co17) y195 := (by rw [hw, Ny195.out]; exact HP33.1); clear HP33; have n0_ := Aside0.mk (hp_); have n1_ := Aside0.mk (blk_grown (g := gb192) (o := .cells #[.int .i64 ((rd_T59 l0 x4_1).f0), .bool ((rd_T59 l0 x4_1).f1), .string ((rd_T59 l0 x4_1).f2.f0), .string ((rd_T59 l0 x4_1).f2.f1), .string ((rd_T59 l0 x4_1).f2.f2)] 59 (0, 0)) (by (with_reducible repeat (first | refine blk_drewN ?_ _ | refine blk_drew ?_ | refine blk_alloc ?_ _)); exact BK192.out) hg (Kd.R_ne HO_3.out BK192.out (by decide))); have n2_ := Aside0.mk ((by rw [hw]; exact below_set (HB.out) GB24.out : Below w.heap.size w w34)); clear HO_3; clear BK192; clear HB; have HO_3 := n0_; have BK192 := n1_; have HB := n2_; clear n0_ n1_ n2_; clear hg hw hp_; have hcz35_0 : w34.cell? ⟨gb192, 0, none⟩ = some (.int .i64 ((rd_T59 l0 x4_1).f0)) := (blk_cell BK192.out 0).trans rfl; have hcz35_1 : w34.cell? ⟨gb192, 1, none⟩ = some (.bool ((rd_T59 l0 x4_1).f1)) := (blk_cell BK192.out 1).trans rfl; have hcz35_2 : w34.cell? ⟨gb192, 2, none⟩ = some (.string ((rd_T59 l0 x4_1).f2.f0)) := (blk_cell BK192.out 2).trans rfl; have hcz35_3 : w34.cell? ⟨gb192, 3, none⟩ = some (.string ((rd_T59 l0 x4_1).f2.f1)) := (blk_cell BK192.out 3).trans rfl; have hcz35_4 : w34.cell? ⟨gb192, 4, none⟩ = some (.string ((rd_T59 l0 x4_1).f2.f2)) := (blk_cell BK192.out 4).trans rfl; have hfz35_0 := blk_frozen BK192.out 0; have hfz35_1 := blk_frozen BK192.out 1; have hfz35_2 := blk_frozen BK192.out 2; have hfz35_3 := blk_frozen BK192.out 3; have hfz35_4 := blk_frozen BK192.out 4) | ((with_reducible refine gate_builtin (b := .append) (xs := #[.tmp 64, .tmp 70]) rfl ?_); at_builtin; refine Kd.R_append k39 (w0 := w) w.heap.size rfl (.tmp 64) (.tmp 70) 22 39 (.agg #[(.string ⟨#[]⟩), (.string ⟨#[]⟩), (.string ⟨#[]⟩), (.int .i64 0), (.int .i64 0)]) 64 rfl Try.underlying22 info39 rfl (by decide) (by omega) (.slice (some ⟨go24, 0, none⟩) x3_1.length co17) y195 (⟨(⟨((rd_T59 l0 x4_1).f2.f0), ((rd_T59 l0 x4_1).f2.f1), ((rd_T59 l0 x4_1).f2.f2)⟩ : S37), ((rd_T59 l0 x4_1).f0), 0⟩ : S39) [.string ((rd_T59 l0 x4_1).f2.f0), .string ((rd_T59 l0 x4_1).f2.f1), .string ((rd_T59 l0 x4_1).f2.f2), .int .i64 ((rd_T59 l0 x4_1).f0), .int .i64 0] (fun _ => True) (fun _ => False) rfl rfl ?aP (fun _ hk => hk.elim) ?aF ?aO ?aB ?aS ?aL ?_; (case aP => exact k39_mkM _ _ _ (⟨(⟨((rd_T59 l0 x4_1).f2.f0), ((rd_T59 l0 x4_1).f2.f1), ((rd_T59 l0 x4_1).f2.f2)⟩ : S37), ((rd_T59 l0 x4_1).f0), 0⟩ : S39)); (case aB => exact (by repeat (first | (with_reducible first | exact HB.out | apply below_alloc | apply pw_below_drewN | apply below_drew1 | refine below_set ?_ GE192.out) | exact HB.out))); (case aF => exact (fun _ _ => trivial)); (case aO => exact (by (with_reducible repeat (first | apply Kd.R_alloc | apply Kd.R_drewN | apply Kd.R_drew)); exact HO_3.out)); (case aS => exact (below_size (by repeat (first | (with_reducible first | exact HB.out | apply below_alloc | apply pw_below_drewN | apply below_drew1 | refine below_set ?_ GE192.out) | exact HB.out)))); (case aL => have := LMc31.out; omega); intro v197 w36 ho hb hg hat; rw [← Ny196.out] at ho; have n0_ := Aside0.mk (blk_grown (g := gb192) (o := .cells #[.int .i64 ((rd_T59 l0 x4_1).f0), .bool ((rd_T59 l0 x4_1).f1), .string ((rd_T59 l0 x4_1).f2.f0), .string ((rd_T59 l0 x4_1).f2.f1), .string ((rd_T59 l0 x4_1).f2.f2)] 59 (0, 0)) (by (with_reducible repeat (first | refine blk_drewN ?_ _ | refine blk_drew ?_ | refine blk_alloc ?_ _)); exact BK192.out) hg (Kd.R_ne HO_3.out BK192.out (by decide))); have n1_ := Aside0.mk (hb); have n2_ := Aside0.mk (ho); clear BK192; clear HB; clear HO_3; have BK192 := n0_; have HB := n1_; have HO198 := n2_; clear n0_ n1_ n2_; clear ho hb hg hat))
                                go_roundg kj15
                                case measure => have := HK1.out; have := HK2.out; have := HJ15.out; omega
                                case rel => exact ⟨(y196), (wrap64 (x4_1 + 1)), (by first | rfl | (simp; done) | (simp [*]; done)), H', ⟨by have := HK1.out; have := HK2.out; have := HJ15.out; omega⟩, ⟨by (with_reducible repeat (first | apply Kd.R_alloc | apply Kd.R_drewN | apply Kd.R_drew)); exact HO198.out⟩, ⟨by repeat (first | (with_reducible first | exact HB.out | apply below_alloc | apply pw_below_drewN | apply below_drew1 | refine below_set ?_ GE192.out) | exact HB.out)⟩⟩
                              · rw [if_neg c31] at H
                                exact absurd H (by simp)
                            · rw [if_neg c30] at H
                              have c30b0 : decide (x6_2 < 0) = false := decide_eq_false c30
                              clear c30
                              have H' := Aside0.mk H
                              clear H
                              have hcz37_0 : wc.cell? ⟨gb192, 0, none⟩ = some (.int .i64 ((rd_T59 l0 x4_1).f0)) := (blk_cell BK192.out 0).trans rfl
                              have hcz37_1 : wc.cell? ⟨gb192, 1, none⟩ = some (.bool ((rd_T59 l0 x4_1).f1)) := (blk_cell BK192.out 1).trans rfl
                              have hcz37_2 : wc.cell? ⟨gb192, 2, none⟩ = some (.string ((rd_T59 l0 x4_1).f2.f0)) := (blk_cell BK192.out 2).trans rfl
                              have hcz37_3 : wc.cell? ⟨gb192, 3, none⟩ = some (.string ((rd_T59 l0 x4_1).f2.f1)) := (blk_cell BK192.out 3).trans rfl
                              have hcz37_4 : wc.cell? ⟨gb192, 4, none⟩ = some (.string ((rd_T59 l0 x4_1).f2.f2)) := (blk_cell BK192.out 4).trans rfl
                              have hfz37_0 := blk_frozen BK192.out 0
                              have hfz37_1 := blk_frozen BK192.out 1
                              have hfz37_2 := blk_frozen BK192.out 2
                              have hfz37_3 := blk_frozen BK192.out 3
                              have hfz37_4 := blk_frozen BK192.out 4
                              have p24 : 0 ≤ (x6_2 : Int) := of_decide_eq_true (by first | (with_reducible assumption) | assumption)
                              have q24 : (x6_2 : Int) < ((x3_1.length : Int) : Int) := of_decide_eq_true (by first | (with_reducible assumption) | assumption)
                              obtain ⟨go24, co24, eo24, gb24, gl24, cl24, HG24⟩ := Kd.R_form HO_3.out (by omega)
                              (first | cases eo24 | (injection eo24 with ea_ en_ ec_; (first | subst ea_ | (injection ea_ with ea_; subst ea_)); subst ec_; clear en_))
                              have GB24 := Aside0.mk gb24
                              have GG24 := Aside0.mk HG24
                              clear gb24 gl24 HG24
                              obtain ⟨ce24, hcl24, hM24, hcc24, hfr24⟩ := Kd.R_elem HO_3.out z39 (x6_2 : Int) p24 q24
                              obtain rfl := k39_openM hM24
                              have hx24_0 : wc.cell? ⟨go24, (x6_2 : Int).toNat * 5, none⟩ = some (.string ((rd_T39 x3_1 x6_2).f0.f0)) := hcc24 0 _ rfl
                              have hx24_1 : wc.cell? ⟨go24, (x6_2 : Int).toNat * 5 + 1, none⟩ = some (.string ((rd_T39 x3_1 x6_2).f0.f1)) := hcc24 1 _ rfl
                              have hx24_2 : wc.cell? ⟨go24, (x6_2 : Int).toNat * 5 + 2, none⟩ = some (.string ((rd_T39 x3_1 x6_2).f0.f2)) := hcc24 2 _ rfl
                              have hx24_3 : wc.cell? ⟨go24, (x6_2 : Int).toNat * 5 + 3, none⟩ = some (.int .i64 ((rd_T39 x3_1 x6_2).f1)) := hcc24 3 _ rfl
                              have hx24_4 : wc.cell? ⟨go24, (x6_2 : Int).toNat * 5 + 4, none⟩ = some (.int .i64 ((rd_T39 x3_1 x6_2).f2)) := hcc24 4 _ rfl
                              have hf24_0 : wc.frozen? ⟨go24, (x6_2 : Int).toNat * 5, none⟩ = false := hfr24 0
                              have hf24_1 : wc.frozen? ⟨go24, (x6_2 : Int).toNat * 5 + 1, none⟩ = false := hfr24 1
                              have hf24_2 : wc.frozen? ⟨go24, (x6_2 : Int).toNat * 5 + 2, none⟩ = false := hfr24 2
                              have hf24_3 : wc.frozen? ⟨go24, (x6_2 : Int).toNat * 5 + 3, none⟩ = false := hfr24 3
                              have hf24_4 : wc.frozen? ⟨go24, (x6_2 : Int).toNat * 5 + 4, none⟩ = false := hfr24 4
                              clear hcl24 hcc24 hfr24 hM24
                              replace p24 := eq_true p24
                              replace q24 := eq_true q24
                              have HX38 := Aside0.mk (show Kd.R k39 39 wc w.heap.size (fun _ => True) (.slice (some ⟨go24, 0, none⟩) x3_1.length co17) x3_1 from (by (with_reducible repeat (first | apply Kd.R_alloc | apply Kd.R_drewN | apply Kd.R_drew)); exact HO_3.out))
                              obtain ⟨ce38, hcl38, hM38, hcc38, hfr38⟩ := Kd.R_elem HX38.out z39 (x6_2 : Int) (of_decide_eq_true (by first | (with_reducible assumption) | assumption)) (by have h_ : (x6_2 : Int) < ((x3_1.length : Int) : Int) := of_decide_eq_true (by first | (with_reducible assumption) | assumption); first | exact h_ | (have e_ := (Kd.R_reads' HO_3.out).1; omega) | simpa using h_)
                              obtain rfl := k39_openM hM38
                              have HP38 := Kd.R_seg HX38.out (x6_2 : Int) (of_decide_eq_true (by first | (with_reducible assumption) | assumption)) (by have h_ : (x6_2 : Int) < ((x3_1.length : Int) : Int) := of_decide_eq_true (by first | (with_reducible assumption) | assumption); first | exact h_ | (have e_ := (Kd.R_reads' HO_3.out).1; omega) | simpa using h_) (seg := [.int .i64 ((rd_T59 l0 x4_1).f0)]) (j := 4) hcl38 hcc38 (show 5 ≤ 5 from by decide) (x' := (⟨(⟨(rd_T39 x3_1 x6_2).f0.f0, (rd_T39 x3_1 x6_2).f0.f1, (rd_T39 x3_1 x6_2).f0.f2⟩ : S37), (rd_T39 x3_1 x6_2).f1, ((rd_T59 l0 x4_1).f0)⟩ : S39)) (k39_mkM _ _ _ (⟨(⟨(rd_T39 x3_1 x6_2).f0.f0, (rd_T39 x3_1 x6_2).f0.f1, (rd_T39 x3_1 x6_2).f0.f2⟩ : S37), (rd_T39 x3_1 x6_2).f1, ((rd_T59 l0 x4_1).f0)⟩ : S39) ) (fun _ hk => hk)
                              have hx38_4 := hcc38 4 _ rfl
                              (try simp only [show (k39).sz = 5 from rfl, Nat.mul_one, Nat.add_zero] at hx38_4)
                              have hf38_4 := hfr38 4
                              (try simp only [show (k39).sz = 5 from rfl, Nat.mul_one, Nat.add_zero] at hf38_4)
                              clear hcl38 hcc38 hfr38 hM38
                              go_wp2_with (first | ((with_reducible refine gate_store (t := 2) (p := 56) rfl ?_); refine store_event (t := 2) (p := 56) (v := ?vo_w39) (w1 := (wc.setCell ⟨go24, (x6_2 : Int).toNat * 5 + 4, none⟩ (.int .i64 ((rd_T59 l0 x4_1).f0)))) ?hg ?ho ?hn ?hr ?_; (case ho => rfl); (case hg => rfl); (case hn => rfl); (case hr => first | (go_simp; done) | (go_simp; rfl)); intro w39 hw; have hg : wc.grownBy w39 (some go24) := (by rw [hw]; exact HP38.2); have hp_ : Kd.R k39 39 w39 w.heap.size (fun _ => True) (.slice (some ⟨go24, 0, none⟩) x3_1.length co17) y195 := (by rw [hw, Ny195.out]; exact HP38.1); clear HP38; have n0_ := Aside0.mk (hp_); have n1_ := Aside0.mk (blk_grown (g := gb192) (o := .cells #[.int .i64 ((rd_T59 l0 x4_1).f0), .bool ((rd_T59 l0 x4_1).f1), .string ((rd_T59 l0 x4_1).f2.f0), .string ((rd_T59 l0 x4_1).f2.f1), .string ((rd_T59 l0 x4_1).f2.f2)] 59 (0, 0)) (by (with_reducible repeat (first | refine blk_drewN ?_ _ | refine blk_drew ?_ | refine blk_alloc ?_ _)); exact BK192.out) hg (Kd.R_ne HO_3.out BK192.out (by decide))); have n2_ := Aside0.mk ((by rw [hw]; exact below_set (HB.out) GB24.out : Below w.heap.size w w39)); clear HO_3; clear BK192; clear HB; have HO_3 := n0_; have BK192 := n1_; have HB := n2_; clear n0_ n1_ n2_; clear hg hw hp_; have hcz40_0 : w39.cell? ⟨gb192, 0, none⟩ = some (.int .i64 ((rd_T59 l0 x4_1).f0)) := (blk_cell BK192.out 0).trans rfl; have hcz40_1 : w39.cell? ⟨gb192, 1, none⟩ = some (.bool ((rd_T59 l0 x4_1).f1)) := (blk_cell BK192.out 1).trans rfl; have hcz40_2 : w39.cell? ⟨gb192, 2, none⟩ = some (.string ((rd_T59 l0 x4_1).f2.f0)) := (blk_cell BK192.out 2).trans rfl; have hcz40_3 : w39.cell? ⟨gb192, 3, none⟩ = some (.string ((rd_T59 l0 x4_1).f2.f1)) := (blk_cell BK192.out 3).trans rfl; have hcz40_4 : w39.cell? ⟨gb192, 4, none⟩ = some (.string ((rd_T59 l0 x4_1).f2.f2)) := (blk_cell BK192.out 4).trans rfl; have hfz40_0 := blk_frozen BK192.out 0; have hfz40_1 := blk_frozen BK192.out 1; have hfz40_2 := blk_frozen BK192.out 2; have hfz40_3 := blk_frozen BK192.out 3; have hfz40_4 := blk_frozen BK192.out 4))
                              go_roundg kj15
                              case measure => have := HK1.out; have := HK2.out; have := HJ15.out; omega
                              case rel => exact ⟨(y195), (wrap64 (x4_1 + 1)), (by first | rfl | (simp; done) | (simp [*]; done)), H', ⟨by have := HK1.out; have := HK2.out; have := HJ15.out; omega⟩, ⟨by (with_reducible repeat (first | apply Kd.R_alloc | apply Kd.R_drewN | apply Kd.R_drew)); exact HO_3.out⟩, ⟨by repeat (first | (with_reducible first | exact HB.out | apply below_alloc | apply pw_below_drewN | apply below_drew1 | refine below_set ?_ GE192.out) | exact HB.out)⟩⟩
                        · rw [if_neg c23] at H
                          exact absurd H (by simp)
                      · rw [if_neg c22] at H
                        exact absurd H (by simp)
                    · replace c21 := Bool.eq_false_iff.mpr c21
                      subst c21
                      have H1 : (if ((rd_T59 l0 x4_1).f1) = true then (porterref22_Rows.l0 kj15 l0 x3_1 (wrap64 (x4_1 + 1))) else (if x6_2 < 0 then (if x3_1.length < 2199023255552 then (porterref22_Rows.l0 kj15 l0 (x3_1 ++ [(⟨(⟨((rd_T59 l0 x4_1).f2.f0), ((rd_T59 l0 x4_1).f2.f1), ((rd_T59 l0 x4_1).f2.f2)⟩ : S37), ((rd_T59 l0 x4_1).f0), 0⟩ : S39)]) (wrap64 (x4_1 + 1))) else (none)) else (porterref22_Rows.l0 kj15 l0 x3_1 (wrap64 (x4_1 + 1))))) = some r := by rw [if_neg (show ¬ (false = true) by decide)] at H; exact H
                      clear H
                      have H := H1
                      clear H1
                      by_cases c41 : ((rd_T59 l0 x4_1).f1) = true
                      · rw [if_pos c41] at H
                        have c41b0 : ((rd_T59 l0 x4_1).f1) = true := c41
                        clear c41
                        have H' := Aside0.mk H
                        clear H
                        have hcz42_0 : wc.cell? ⟨gb192, 0, none⟩ = some (.int .i64 ((rd_T59 l0 x4_1).f0)) := (blk_cell BK192.out 0).trans rfl
                        have hcz42_1 : wc.cell? ⟨gb192, 1, none⟩ = some (.bool ((rd_T59 l0 x4_1).f1)) := (blk_cell BK192.out 1).trans rfl
                        have hcz42_2 : wc.cell? ⟨gb192, 2, none⟩ = some (.string ((rd_T59 l0 x4_1).f2.f0)) := (blk_cell BK192.out 2).trans rfl
                        have hcz42_3 : wc.cell? ⟨gb192, 3, none⟩ = some (.string ((rd_T59 l0 x4_1).f2.f1)) := (blk_cell BK192.out 3).trans rfl
                        have hcz42_4 : wc.cell? ⟨gb192, 4, none⟩ = some (.string ((rd_T59 l0 x4_1).f2.f2)) := (blk_cell BK192.out 4).trans rfl
                        have hfz42_0 := blk_frozen BK192.out 0
                        have hfz42_1 := blk_frozen BK192.out 1
                        have hfz42_2 := blk_frozen BK192.out 2
                        have hfz42_3 := blk_frozen BK192.out 3
                        have hfz42_4 := blk_frozen BK192.out 4
                        go_wp2
                        go_roundg kj15
                        case measure => have := HK1.out; have := HK2.out; have := HJ15.out; omega
                        case rel => exact ⟨(x3_1), (wrap64 (x4_1 + 1)), (by first | rfl | (simp; done) | (simp [*]; done)), H', ⟨by have := HK1.out; have := HK2.out; have := HJ15.out; omega⟩, ⟨by (with_reducible repeat (first | apply Kd.R_alloc | apply Kd.R_drewN | apply Kd.R_drew)); exact HO_3.out⟩, ⟨by repeat (first | (with_reducible first | exact HB.out | apply below_alloc | apply pw_below_drewN | apply below_drew1 | refine below_set ?_ GE192.out) | exact HB.out)⟩⟩
                      · rw [if_neg c41] at H
                        have c41b0 : ((rd_T59 l0 x4_1).f1) = false := by simpa using c41
                        clear c41
                        by_cases c43 : x6_2 < 0
                        · rw [if_pos c43] at H
                          have c43b0 : decide (x6_2 < 0) = true := decide_eq_true c43
                          clear c43
                          by_cases c44 : x3_1.length < 2199023255552
                          · rw [if_pos c44] at H
                            have LMc44 := Aside0.mk c44
                            clear c44
                            obtain ⟨y199, hy199⟩ : ∃ y_ : List (S39), y_ = (x3_1 ++ [(⟨(⟨((rd_T59 l0 x4_1).f2.f0), ((rd_T59 l0 x4_1).f2.f1), ((rd_T59 l0 x4_1).f2.f2)⟩ : S37), ((rd_T59 l0 x4_1).f0), 0⟩ : S39)]) := ⟨_, rfl⟩
                            replace H : (porterref22_Rows.l0 kj15 l0 y199 (wrap64 (x4_1 + 1))) = some r := by first | (rw [hy199]; with_reducible exact H) | (have H2_ := (Option.bind_some _ _).symm.trans H; rw [hy199]; with_reducible exact H2_) | (have H2_ := (Option.bind_some _ _).symm.trans H; with_reducible exact H2_) | with_reducible exact H | (rw [hy199]; exact H) | exact H
                            have Ny199 := Aside0.mk hy199
                            clear hy199
                            have H' := Aside0.mk H
                            clear H
                            have hcz45_0 : wc.cell? ⟨gb192, 0, none⟩ = some (.int .i64 ((rd_T59 l0 x4_1).f0)) := (blk_cell BK192.out 0).trans rfl
                            have hcz45_1 : wc.cell? ⟨gb192, 1, none⟩ = some (.bool ((rd_T59 l0 x4_1).f1)) := (blk_cell BK192.out 1).trans rfl
                            have hcz45_2 : wc.cell? ⟨gb192, 2, none⟩ = some (.string ((rd_T59 l0 x4_1).f2.f0)) := (blk_cell BK192.out 2).trans rfl
                            have hcz45_3 : wc.cell? ⟨gb192, 3, none⟩ = some (.string ((rd_T59 l0 x4_1).f2.f1)) := (blk_cell BK192.out 3).trans rfl
                            have hcz45_4 : wc.cell? ⟨gb192, 4, none⟩ = some (.string ((rd_T59 l0 x4_1).f2.f2)) := (blk_cell BK192.out 4).trans rfl
                            have hfz45_0 := blk_frozen BK192.out 0
                            have hfz45_1 := blk_frozen BK192.out 1
                            have hfz45_2 := blk_frozen BK192.out 2
                            have hfz45_3 := blk_frozen BK192.out 3
                            have hfz45_4 := blk_frozen BK192.out 4
                            go_wp2_with (first | ((with_reducible refine gate_builtin (b := .append) (xs := #[.tmp 64, .tmp 70]) rfl ?_); at_builtin; refine Kd.R_append k39 (w0 := w) w.heap.size rfl (.tmp 64) (.tmp 70) 22 39 (.agg #[(.string ⟨#[]⟩), (.string ⟨#[]⟩), (.string ⟨#[]⟩), (.int .i64 0), (.int .i64 0)]) 64 rfl Try.underlying22 info39 rfl (by decide) (by omega) (.slice Ao17 x3_1.length co17) x3_1 (⟨(⟨((rd_T59 l0 x4_1).f2.f0), ((rd_T59 l0 x4_1).f2.f1), ((rd_T59 l0 x4_1).f2.f2)⟩ : S37), ((rd_T59 l0 x4_1).f0), 0⟩ : S39) [.string ((rd_T59 l0 x4_1).f2.f0), .string ((rd_T59 l0 x4_1).f2.f1), .string ((rd_T59 l0 x4_1).f2.f2), .int .i64 ((rd_T59 l0 x4_1).f0), .int .i64 0] (fun _ => True) (fun _ => False) rfl rfl ?aP (fun _ hk => hk.elim) ?aF ?aO ?aB ?aS ?aL ?_; (case aP => exact k39_mkM _ _ _ (⟨(⟨((rd_T59 l0 x4_1).f2.f0), ((rd_T59 l0 x4_1).f2.f1), ((rd_T59 l0 x4_1).f2.f2)⟩ : S37), ((rd_T59 l0 x4_1).f0), 0⟩ : S39)); (case aB => exact (by repeat (first | (with_reducible first | exact HB.out | apply below_alloc | apply pw_below_drewN | apply below_drew1 | refine below_set ?_ GE192.out) | exact HB.out))); (case aF => exact (fun _ _ => trivial)); (case aO => exact (by (with_reducible repeat (first | apply Kd.R_alloc | apply Kd.R_drewN | apply Kd.R_drew)); exact HO_3.out)); (case aS => exact (below_size (by repeat (first | (with_reducible first | exact HB.out | apply below_alloc | apply pw_below_drewN | apply below_drew1 | refine below_set ?_ GE192.out) | exact HB.out)))); (case aL => have := LMc44.out; omega); intro v200 w46 ho hb hg hat; rw [← Ny199.out] at ho; have n0_ := Aside0.mk (blk_grown (g := gb192) (o := .cells #[.int .i64 ((rd_T59 l0 x4_1).f0), .bool ((rd_T59 l0 x4_1).f1), .string ((rd_T59 l0 x4_1).f2.f0), .string ((rd_T59 l0 x4_1).f2.f1), .string ((rd_T59 l0 x4_1).f2.f2)] 59 (0, 0)) (by (with_reducible repeat (first | refine blk_drewN ?_ _ | refine blk_drew ?_ | refine blk_alloc ?_ _)); exact BK192.out) hg (Kd.R_ne HO_3.out BK192.out (by decide))); have n1_ := Aside0.mk (hb); have n2_ := Aside0.mk (ho); clear BK192; clear HB; clear HO_3; have BK192 := n0_; have HB := n1_; have HO201 := n2_; clear n0_ n1_ n2_; clear ho hb hg hat))
                            go_roundg kj15
                            case measure => have := HK1.out; have := HK2.out; have := HJ15.out; omega
                            case rel => exact ⟨(y199), (wrap64 (x4_1 + 1)), (by first | rfl | (simp; done) | (simp [*]; done)), H', ⟨by have := HK1.out; have := HK2.out; have := HJ15.out; omega⟩, ⟨by (with_reducible repeat (first | apply Kd.R_alloc | apply Kd.R_drewN | apply Kd.R_drew)); exact HO201.out⟩, ⟨by repeat (first | (with_reducible first | exact HB.out | apply below_alloc | apply pw_below_drewN | apply below_drew1 | refine below_set ?_ GE192.out) | exact HB.out)⟩⟩
                          · rw [if_neg c44] at H
                            exact absurd H (by simp)
                        · rw [if_neg c43] at H
                          have c43b0 : decide (x6_2 < 0) = false := decide_eq_false c43
                          clear c43
                          have H' := Aside0.mk H
                          clear H
                          have hcz47_0 : wc.cell? ⟨gb192, 0, none⟩ = some (.int .i64 ((rd_T59 l0 x4_1).f0)) := (blk_cell BK192.out 0).trans rfl
                          have hcz47_1 : wc.cell? ⟨gb192, 1, none⟩ = some (.bool ((rd_T59 l0 x4_1).f1)) := (blk_cell BK192.out 1).trans rfl
                          have hcz47_2 : wc.cell? ⟨gb192, 2, none⟩ = some (.string ((rd_T59 l0 x4_1).f2.f0)) := (blk_cell BK192.out 2).trans rfl
                          have hcz47_3 : wc.cell? ⟨gb192, 3, none⟩ = some (.string ((rd_T59 l0 x4_1).f2.f1)) := (blk_cell BK192.out 3).trans rfl
                          have hcz47_4 : wc.cell? ⟨gb192, 4, none⟩ = some (.string ((rd_T59 l0 x4_1).f2.f2)) := (blk_cell BK192.out 4).trans rfl
                          have hfz47_0 := blk_frozen BK192.out 0
                          have hfz47_1 := blk_frozen BK192.out 1
                          have hfz47_2 := blk_frozen BK192.out 2
                          have hfz47_3 := blk_frozen BK192.out 3
                          have hfz47_4 := blk_frozen BK192.out 4
                          go_wp2
                          go_roundg kj15
                          case measure => have := HK1.out; have := HK2.out; have := HJ15.out; omega
                          case rel => exact ⟨(x3_1), (wrap64 (x4_1 + 1)), (by first | rfl | (simp; done) | (simp [*]; done)), H', ⟨by have := HK1.out; have := HK2.out; have := HJ15.out; omega⟩, ⟨by (with_reducible repeat (first | apply Kd.R_alloc | apply Kd.R_drewN | apply Kd.R_drew)); exact HO_3.out⟩, ⟨by repeat (first | (with_reducible first | exact HB.out | apply below_alloc | apply pw_below_drewN | apply below_drew1 | refine below_set ?_ GE192.out) | exact HB.out)⟩⟩
        · rw [if_neg c3] at H
          exact absurd H (by simp)
      · rw [if_neg c2] at H
        have c2b0 : decide (x4_1 < (l0.length : Int)) = false := decide_eq_false c2
        clear c2
        have H' := Aside0.mk H
        clear H
        go_wp2
        go_loopg [8, 9] k1 (fun kq v8 v9 w' => ∃ (x8_2 : List (S39)) (x9_2 : Int), v9 = .int .i64 x9_2 ∧ Aside0 (porterref22_Rows.l2 kq x3_1 x8_2 x9_2 = some r) ∧ Aside0 (kq ≤ k1) ∧ Aside0 (Kd.R k39 39 w' w.heap.size (fun k_ => some k_ ≠ (v8 : Value).ownBlock) u3 x3_1) ∧ Aside0 (Kd.R k39 39 w' w.heap.size (fun k_ => some k_ ≠ (u3 : Value).ownBlock) v8 x8_2) ∧ Aside0 (Below w.heap.size w w'))
        case atStart => exact ⟨(([] : List (S39))), (0), (by first | rfl | (simp; done) | (simp [*]; done)), H', ⟨Nat.le_refl _⟩, ⟨by (with_reducible repeat (first | apply Kd.R_alloc | apply Kd.R_drewN | apply Kd.R_drew)); exact Kd.R_mono HO_3.out (fun _ hk => (by simp [Value.ownBlock]))⟩, ⟨by first | exact Kd.R_nil _ _ _ _ _ | exact Kd.N_nil _ _ _ _ _ | exact Kd.V_nil _ _ _ _ _ | exact Kd.Q_nil _ _ _ _ _ | exact Kd.S_nil _ _ _ _ _⟩, ⟨by repeat (first | (with_reducible first | exact HB.out | apply below_alloc | apply pw_below_drewN | apply below_drew1) | exact HB.out)⟩⟩
        case round =>
          clear H'
          try clear c1
          try clear p1
          try clear q1
          try clear hx1
          try clear c2
          try clear c2b0
          try clear p2
          try clear q2
          try clear hx2
          try clear hf2
          try clear c3
          try clear c3b0
          try clear hx3
          try clear hf3
          try clear c4
          try clear c6
          try clear c6b0
          try clear p6
          try clear c7
          try clear c7b0
          try clear c8
          try clear c8b0
          try clear c8b1
          try clear c8b2
          try clear c9
          try clear c9b0
          try clear c9b1
          try clear c18
          try clear c18b0
          try clear p19
          try clear q19
          try clear hx19
          try clear c21
          try clear c22
          try clear c22b0
          try clear c23
          try clear c23b0
          try clear c24
          try clear p24
          try clear q24
          try clear hx24
          try clear hf24
          try clear c25
          try clear c25b0
          try clear c27
          try clear hx27
          try clear hf27
          try clear c30
          try clear c30b0
          try clear c31
          try clear c33
          try clear hx33
          try clear hf33
          try clear c38
          try clear hx38
          try clear hf38
          try clear c41
          try clear c41b0
          try clear c43
          try clear c43b0
          try clear c44
          try clear hcz19_0
          try clear hcz19_1
          try clear hcz19_2
          try clear hcz19_3
          try clear hcz19_4
          try clear hcz20_0
          try clear hcz20_1
          try clear hcz20_2
          try clear hcz20_3
          try clear hcz20_4
          try clear hcz26_0
          try clear hcz26_1
          try clear hcz26_2
          try clear hcz26_3
          try clear hcz26_4
          try clear hcz29_0
          try clear hcz29_1
          try clear hcz29_2
          try clear hcz29_3
          try clear hcz29_4
          try clear hcz32_0
          try clear hcz32_1
          try clear hcz32_2
          try clear hcz32_3
          try clear hcz32_4
          try clear hcz35_0
          try clear hcz35_1
          try clear hcz35_2
          try clear hcz35_3
          try clear hcz35_4
          try clear hcz37_0
          try clear hcz37_1
          try clear hcz37_2
          try clear hcz37_3
          try clear hcz37_4
          try clear hcz40_0
          try clear hcz40_1
          try clear hcz40_2
          try clear hcz40_3
          try clear hcz40_4
          try clear hcz42_0
          try clear hcz42_1
          try clear hcz42_2
          try clear hcz42_3
          try clear hcz42_4
          try clear hcz45_0
          try clear hcz45_1
          try clear hcz45_2
          try clear hcz45_3
          try clear hcz45_4
          try clear hcz47_0
          try clear hcz47_1
          try clear hcz47_2
          try clear hcz47_3
          try clear hcz47_4
          try clear hcz5_0
          try clear hcz5_1
          try clear hcz5_2
          try clear hcz5_3
          try clear hcz5_4
          try clear hfz19_0
          try clear hfz19_1
          try clear hfz19_2
          try clear hfz19_3
          try clear hfz19_4
          try clear hfz20_0
          try clear hfz20_1
          try clear hfz20_2
          try clear hfz20_3
          try clear hfz20_4
          try clear hfz26_0
          try clear hfz26_1
          try clear hfz26_2
          try clear hfz26_3
          try clear hfz26_4
          try clear hfz29_0
          try clear hfz29_1
          try clear hfz29_2
          try clear hfz29_3
          try clear hfz29_4
          try clear hfz32_0
          try clear hfz32_1
          try clear hfz32_2
          try clear hfz32_3
          try clear hfz32_4
          try clear hfz35_0
          try clear hfz35_1
          try clear hfz35_2
          try clear hfz35_3
          try clear hfz35_4
          try clear hfz37_0
          try clear hfz37_1
          try clear hfz37_2
          try clear hfz37_3
          try clear hfz37_4
          try clear hfz40_0
          try clear hfz40_1
          try clear hfz40_2
          try clear hfz40_3
          try clear hfz40_4
          try clear hfz42_0
          try clear hfz42_1
          try clear hfz42_2
          try clear hfz42_3
          try clear hfz42_4
          try clear hfz45_0
          try clear hfz45_1
          try clear hfz45_2
          try clear hfz45_3
          try clear hfz45_4
          try clear hfz47_0
          try clear hfz47_1
          try clear hfz47_2
          try clear hfz47_3
          try clear hfz47_4
          try clear hfz5_0
          try clear hfz5_1
          try clear hfz5_2
          try clear hfz5_3
          try clear hfz5_4
          try clear hx191_0
          try clear hx191_1
          try clear hx191_2
          try clear hx191_3
          try clear hx191_4
          try clear hx193_0
          try clear hx193_1
          try clear hx193_2
          try clear hx193_3
          try clear hx193_4
          try clear hx194_0
          try clear hx194_1
          try clear hx194_2
          try clear hx194_3
          try clear hx194_4
          try clear hx24_0
          try clear hx24_1
          try clear hx24_2
          try clear hx24_3
          try clear hx24_4
          try clear hx27_4
          try clear hx33_4
          try clear hx38_4
          try clear p1
          try clear p19
          try clear p191
          try clear p193
          try clear p194
          try clear p2
          try clear p24
          try clear p6
          try clear q1
          try clear q19
          try clear q191
          try clear q193
          try clear q194
          try clear q24
          obtain ⟨x8_2, x9_2, rfl, HA, HK2, HO_3, HO_8, HB⟩ := hrel
          cases gk with
          | zero => exact absurd HA.out (by simp [porterref22_Rows.l2])
          | succ k2 =>
            have H := HA.out
            clear HA
            simp only [porterref22_Rows.l2] at H
            by_cases c48 : x9_2 < (x3_1.length : Int)
            · rw [if_pos c48] at H
              have c48b0 : decide (x9_2 < (x3_1.length : Int)) = true := decide_eq_true c48
              clear c48
              have H' := Aside0.mk H
              clear H
              obtain ⟨Ao49, co49, eo49⟩ := Kd.R_slice HO_3.out
              subst eo49
              obtain ⟨Ao50, co50, eo50⟩ := Kd.R_slice HO_8.out
              subst eo50
              go_wp2
              go_loopg [10] k2 (fun kq v10 w' => ∃ (x10_3 : Int), v10 = .int .i64 x10_3 ∧ Aside0 (porterref22_Rows.l3 kq x3_1 x8_2 x9_2 x10_3 = some r) ∧ Aside0 (kq ≤ k2) ∧ Aside0 (Kd.R k39 39 w' w.heap.size (fun k_ => some k_ ≠ ((.slice Ao50 x8_2.length co50) : Value).ownBlock) (.slice Ao49 x3_1.length co49) x3_1) ∧ Aside0 (Kd.R k39 39 w' w.heap.size (fun k_ => some k_ ≠ ((.slice Ao49 x3_1.length co49) : Value).ownBlock) (.slice Ao50 x8_2.length co50) x8_2) ∧ Aside0 (Below w.heap.size w w'))
              case atStart => exact ⟨((x8_2.length : Int)), (by first | rfl | (simp; done) | (simp [*]; done)), H', ⟨Nat.le_refl _⟩, ⟨by (with_reducible repeat (first | apply Kd.R_alloc | apply Kd.R_drewN | apply Kd.R_drew)); exact HO_3.out⟩, ⟨by (with_reducible repeat (first | apply Kd.R_alloc | apply Kd.R_drewN | apply Kd.R_drew)); exact HO_8.out⟩, ⟨by repeat (first | (with_reducible first | exact HB.out | apply below_alloc | apply pw_below_drewN | apply below_drew1) | exact HB.out)⟩⟩
              case round =>
                clear H'
                try clear c1
                try clear p1
                try clear q1
                try clear hx1
                try clear c2
                try clear c2b0
                try clear p2
                try clear q2
                try clear hx2
                try clear hf2
                try clear c3
                try clear c3b0
                try clear hx3
                try clear hf3
                try clear c4
                try clear c6
                try clear c6b0
                try clear p6
                try clear c7
                try clear c7b0
                try clear c8
                try clear c8b0
                try clear c8b1
                try clear c8b2
                try clear c9
                try clear c9b0
                try clear c9b1
                try clear c18
                try clear c18b0
                try clear p19
                try clear q19
                try clear hx19
                try clear c21
                try clear c22
                try clear c22b0
                try clear c23
                try clear c23b0
                try clear c24
                try clear p24
                try clear q24
                try clear hx24
                try clear hf24
                try clear c25
                try clear c25b0
                try clear c27
                try clear hx27
                try clear hf27
                try clear c30
                try clear c30b0
                try clear c31
                try clear c33
                try clear hx33
                try clear hf33
                try clear c38
                try clear hx38
                try clear hf38
                try clear c41
                try clear c41b0
                try clear c43
                try clear c43b0
                try clear c44
                try clear c48
                try clear c48b0
                try clear hcz19_0
                try clear hcz19_1
                try clear hcz19_2
                try clear hcz19_3
                try clear hcz19_4
                try clear hcz20_0
                try clear hcz20_1
                try clear hcz20_2
                try clear hcz20_3
                try clear hcz20_4
                try clear hcz26_0
                try clear hcz26_1
                try clear hcz26_2
                try clear hcz26_3
                try clear hcz26_4
                try clear hcz29_0
                try clear hcz29_1
                try clear hcz29_2
                try clear hcz29_3
                try clear hcz29_4
                try clear hcz32_0
                try clear hcz32_1
                try clear hcz32_2
                try clear hcz32_3
                try clear hcz32_4
                try clear hcz35_0
                try clear hcz35_1
                try clear hcz35_2
                try clear hcz35_3
                try clear hcz35_4
                try clear hcz37_0
                try clear hcz37_1
                try clear hcz37_2
                try clear hcz37_3
                try clear hcz37_4
                try clear hcz40_0
                try clear hcz40_1
                try clear hcz40_2
                try clear hcz40_3
                try clear hcz40_4
                try clear hcz42_0
                try clear hcz42_1
                try clear hcz42_2
                try clear hcz42_3
                try clear hcz42_4
                try clear hcz45_0
                try clear hcz45_1
                try clear hcz45_2
                try clear hcz45_3
                try clear hcz45_4
                try clear hcz47_0
                try clear hcz47_1
                try clear hcz47_2
                try clear hcz47_3
                try clear hcz47_4
                try clear hcz5_0
                try clear hcz5_1
                try clear hcz5_2
                try clear hcz5_3
                try clear hcz5_4
                try clear hfz19_0
                try clear hfz19_1
                try clear hfz19_2
                try clear hfz19_3
                try clear hfz19_4
                try clear hfz20_0
                try clear hfz20_1
                try clear hfz20_2
                try clear hfz20_3
                try clear hfz20_4
                try clear hfz26_0
                try clear hfz26_1
                try clear hfz26_2
                try clear hfz26_3
                try clear hfz26_4
                try clear hfz29_0
                try clear hfz29_1
                try clear hfz29_2
                try clear hfz29_3
                try clear hfz29_4
                try clear hfz32_0
                try clear hfz32_1
                try clear hfz32_2
                try clear hfz32_3
                try clear hfz32_4
                try clear hfz35_0
                try clear hfz35_1
                try clear hfz35_2
                try clear hfz35_3
                try clear hfz35_4
                try clear hfz37_0
                try clear hfz37_1
                try clear hfz37_2
                try clear hfz37_3
                try clear hfz37_4
                try clear hfz40_0
                try clear hfz40_1
                try clear hfz40_2
                try clear hfz40_3
                try clear hfz40_4
                try clear hfz42_0
                try clear hfz42_1
                try clear hfz42_2
                try clear hfz42_3
                try clear hfz42_4
                try clear hfz45_0
                try clear hfz45_1
                try clear hfz45_2
                try clear hfz45_3
                try clear hfz45_4
                try clear hfz47_0
                try clear hfz47_1
                try clear hfz47_2
                try clear hfz47_3
                try clear hfz47_4
                try clear hfz5_0
                try clear hfz5_1
                try clear hfz5_2
                try clear hfz5_3
                try clear hfz5_4
                try clear hx191_0
                try clear hx191_1
                try clear hx191_2
                try clear hx191_3
                try clear hx191_4
                try clear hx193_0
                try clear hx193_1
                try clear hx193_2
                try clear hx193_3
                try clear hx193_4
                try clear hx194_0
                try clear hx194_1
                try clear hx194_2
                try clear hx194_3
                try clear hx194_4
                try clear hx24_0
                try clear hx24_1
                try clear hx24_2
                try clear hx24_3
                try clear hx24_4
                try clear hx27_4
                try clear hx33_4
                try clear hx38_4
                try clear p1
                try clear p19
                try clear p191
                try clear p193
                try clear p194
                try clear p2
                try clear p24
                try clear p6
                try clear q1
                try clear q19
                try clear q191
                try clear q193
                try clear q194
                try clear q2
                try clear q24
                obtain ⟨x10_3, rfl, HA, HK3, HO_3, HO_8, HB⟩ := hrel
                cases gk with
                | zero => exact absurd HA.out (by simp [porterref22_Rows.l3])
                | succ k3 =>
                  have H := HA.out
                  clear HA
                  simp only [porterref22_Rows.l3] at H
                  by_cases c51 : x10_3 > 0
                  · rw [if_pos c51] at H
                    have c51b0 : decide (0 < x10_3) = true := decide_eq_true c51
                    clear c51
                    by_cases c52 : 0 ≤ x9_2
                    · rw [if_pos c52] at H
                      have c52b0 : decide (0 ≤ x9_2) = true := decide_eq_true c52
                      clear c52
                      by_cases c53 : x9_2 < (x3_1.length : Int)
                      · rw [if_pos c53] at H
                        have c53b0 : decide (x9_2 < (x3_1.length : Int)) = true := decide_eq_true c53
                        clear c53
                        obtain ⟨ji54, hji54⟩ : ∃ j_ : Int, (wrap64 (x10_3 - 1)) = j_ := ⟨_, rfl⟩
                        replace H : (if 0 ≤ (ji54) then (if (ji54) < (x8_2.length : Int) then ((porterref07_Before.f ((rd_T39 x3_1 x9_2).f0.f0) ((rd_T39 x3_1 x9_2).f0.f1) ((rd_T39 x3_1 x9_2).f0.f2) ((rd_T39 x3_1 x9_2).f1) ((rd_T39 x3_1 x9_2).f2) ((rd_T39 x8_2 (ji54)).f0.f0) ((rd_T39 x8_2 (ji54)).f0.f1) ((rd_T39 x8_2 (ji54)).f0.f2) ((rd_T39 x8_2 (ji54)).f1) ((rd_T39 x8_2 (ji54)).f2)).bind fun t204 => (if t204 = true then (porterref22_Rows.l3 k3 x3_1 x8_2 x9_2 ji54) else ((some (([] : List (S39)) : List (S39))).bind fun y205 => (if 0 ≤ x10_3 then (if x10_3 ≤ (x8_2.length : Int) then ((some (x8_2.take (x10_3 : Int).toNat : List (S39))).bind fun y208 => (if y205.length + y208.length < 2199023255552 then ((some (y205 ++ y208 : List (S39))).bind fun y212 => (if y212.length < 2199023255552 then ((some (y212 ++ [(⟨(⟨(rd_T39 x3_1 x9_2).f0.f0, (rd_T39 x3_1 x9_2).f0.f1, (rd_T39 x3_1 x9_2).f0.f2⟩ : S37), (rd_T39 x3_1 x9_2).f1, (rd_T39 x3_1 x9_2).f2⟩ : S39)] : List (S39))).bind fun y216 => ((some (x8_2.drop (x10_3 : Int).toNat : List (S39))).bind fun y219 => (if y216.length + y219.length < 2199023255552 then (porterref22_Rows.l2 k3 x3_1 (y216 ++ y219) (wrap64 (x9_2 + 1))) else (none)))) else (none))) else (none))) else (none)) else (none))))) else (none)) else (none)) = some r := by first | (rw [hji54] at H; exact H) | (simp only [hji54] at H ⊢; exact H)
                        have hji54w : (IntKind.i64.wrap (x10_3 - 1)) = ji54 := (i64_w _).trans hji54
                        by_cases c55 : 0 ≤ (ji54)
                        · rw [if_pos c55] at H
                          have c55b0 : decide (0 ≤ (ji54)) = true := decide_eq_true c55
                          clear c55
                          by_cases c56 : (ji54) < (x8_2.length : Int)
                          · rw [if_pos c56] at H
                            have c56b0 : decide ((ji54) < (x8_2.length : Int)) = true := decide_eq_true c56
                            clear c56
                            replace H := Option.bind_eq_some_iff.mp H
                            obtain ⟨t204, A570, H⟩ := H
                            replace H : (if t204 = true then (porterref22_Rows.l3 k3 x3_1 x8_2 x9_2 ji54) else ((some (([] : List (S39)) : List (S39))).bind fun y205 => (if 0 ≤ x10_3 then (if x10_3 ≤ (x8_2.length : Int) then ((some (x8_2.take (x10_3 : Int).toNat : List (S39))).bind fun y208 => (if y205.length + y208.length < 2199023255552 then ((some (y205 ++ y208 : List (S39))).bind fun y212 => (if y212.length < 2199023255552 then ((some (y212 ++ [(⟨(⟨(rd_T39 x3_1 x9_2).f0.f0, (rd_T39 x3_1 x9_2).f0.f1, (rd_T39 x3_1 x9_2).f0.f2⟩ : S37), (rd_T39 x3_1 x9_2).f1, (rd_T39 x3_1 x9_2).f2⟩ : S39)] : List (S39))).bind fun y216 => ((some (x8_2.drop (x10_3 : Int).toNat : List (S39))).bind fun y219 => (if y216.length + y219.length < 2199023255552 then (porterref22_Rows.l2 k3 x3_1 (y216 ++ y219) (wrap64 (x9_2 + 1))) else (none)))) else (none))) else (none))) else (none)) else (none)))) = some r := H
                            have A57 := Aside0.mk A570
                            clear A570
                            by_cases c58 : t204 = true
                            · subst c58
                              have H1 : (porterref22_Rows.l3 k3 x3_1 x8_2 x9_2 ji54) = some r := by rw [if_pos rfl] at H; exact H
                              clear H
                              have H := H1
                              clear H1
                              have H' := Aside0.mk H
                              clear H
                              try go_wp2
                              have n0_ := Aside0.mk (Kd.R_drew HO_3.out)
                              have n1_ := Aside0.mk (Kd.R_drew HO_8.out)
                              have n2_ := Aside0.mk (below_drew1 HB.out)
                              clear HO_3
                              clear HO_8
                              clear HB
                              have HO_3 := n0_
                              have HO_8 := n1_
                              have HB := n2_
                              clear n0_ n1_ n2_
                              have p202 : 0 ≤ (x9_2 : Int) := of_decide_eq_true (by first | (with_reducible assumption) | assumption)
                              have q202 : x9_2 < (x3_1.length : Int) := of_decide_eq_true (by first | (with_reducible assumption) | assumption)
                              obtain ⟨ad202, e202, hx202_0, hx202_1, hx202_2, hx202_3, hx202_4⟩ := at_T39 (Kd.R_reads' HO_3.out).2.2 x9_2 p202 q202
                              cases e202
                              replace p202 := eq_true p202
                              replace q202 := eq_true q202
                              have p203 : 0 ≤ ((ji54) : Int) := of_decide_eq_true (by first | (with_reducible assumption) | assumption)
                              have q203 : (ji54) < (x8_2.length : Int) := of_decide_eq_true (by first | (with_reducible assumption) | assumption)
                              obtain ⟨ad203, e203, hx203_0, hx203_1, hx203_2, hx203_3, hx203_4⟩ := at_T39 (Kd.R_reads' HO_8.out).2.2 (ji54) p203 q203
                              cases e203
                              replace p203 := eq_true p203
                              replace q203 := eq_true q203
                              refine start_ (n := 14) (S := fun w' => w'.cell? (ad202.add ((x9_2).toNat * 5)) = some (.string ((rd_T39 x3_1 x9_2).f0.f0)) ∧ w'.cell? ⟨(ad202.add ((x9_2).toNat * 5)).block, (ad202.add ((x9_2).toNat * 5)).off + 1, none⟩ = some (.string ((rd_T39 x3_1 x9_2).f0.f1)) ∧ w'.cell? ⟨(ad202.add ((x9_2).toNat * 5)).block, (ad202.add ((x9_2).toNat * 5)).off + 2, none⟩ = some (.string ((rd_T39 x3_1 x9_2).f0.f2)) ∧ w'.cell? ⟨(ad202.add ((x9_2).toNat * 5)).block, (ad202.add ((x9_2).toNat * 5)).off + 3, none⟩ = some (.int .i64 ((rd_T39 x3_1 x9_2).f1)) ∧ w'.cell? ⟨(ad202.add ((x9_2).toNat * 5)).block, (ad202.add ((x9_2).toNat * 5)).off + 4, none⟩ = some (.int .i64 ((rd_T39 x3_1 x9_2).f2)) ∧ w'.cell? (ad203.add (((ji54)).toNat * 5)) = some (.string ((rd_T39 x8_2 (ji54)).f0.f0)) ∧ w'.cell? ⟨(ad203.add (((ji54)).toNat * 5)).block, (ad203.add (((ji54)).toNat * 5)).off + 1, none⟩ = some (.string ((rd_T39 x8_2 (ji54)).f0.f1)) ∧ w'.cell? ⟨(ad203.add (((ji54)).toNat * 5)).block, (ad203.add (((ji54)).toNat * 5)).off + 2, none⟩ = some (.string ((rd_T39 x8_2 (ji54)).f0.f2)) ∧ w'.cell? ⟨(ad203.add (((ji54)).toNat * 5)).block, (ad203.add (((ji54)).toNat * 5)).off + 3, none⟩ = some (.int .i64 ((rd_T39 x8_2 (ji54)).f1)) ∧ w'.cell? ⟨(ad203.add (((ji54)).toNat * 5)).block, (ad203.add (((ji54)).toNat * 5)).off + 4, none⟩ = some (.int .i64 ((rd_T39 x8_2 (ji54)).f2))) (ds := []) #[false, false, false, false, false, false, false, false, false, false, false, false, false, false] (by kernel_rfl) rfl rfl ⟨hx202_0, hx202_1, hx202_2, hx202_3, hx202_4, hx203_0, hx203_1, hx203_2, hx203_3, hx203_4⟩ (fun hHeld => ?_); refine with_tabW porterref22_Rows.tab21 porterref22_Rows.bits21 (fun HT_ HW_ => ?_)
                              generalize wr.drew = w59 at HO_3 HO_8 HB hx202_0 hx202_1 hx202_2 hx202_3 hx202_4 hx203_0 hx203_1 hx203_2 hx203_3 hx203_4 hHeld ⊢
                              refine pure_ (i := 0) (N := some 80) (v := ?_) (a' := ?_) #[true, false, false, false, false, false, false, false, false, false, false, false, false, false] rfl rfl (any_of HT_.out (by kernel_rfl)) (fun _ _ _ h => h) (Or.inl ⟨by rfl, ?_⟩) ?_ ?_
                              rotate_left
                              · intro w'
                                go_simp
                                with_reducible rfl
                              rotate_left
                              · simp only [Act.put, List.setIfInBounds_toArray, List.set_cons_zero, List.set_cons_succ, i64_w, i32_w]
                                rfl
                              refine pure_ (i := 1) (N := some 81) (v := ?_) (a' := ?_) #[true, true, false, false, false, false, false, false, false, false, false, false, false, false] rfl rfl (any_of HT_.out (by kernel_rfl)) (fun _ _ _ h => h) (Or.inl ⟨by rfl, ?_⟩) ?_ ?_
                              rotate_left
                              · intro w'
                                go_simp
                                with_reducible rfl
                              rotate_left
                              · simp only [Act.put, List.setIfInBounds_toArray, List.set_cons_zero, List.set_cons_succ, i64_w, i32_w]
                                rfl
                              refine pure_ (i := 2) (N := some 82) (v := ?_) (a' := ?_) #[true, true, true, false, false, false, false, false, false, false, false, false, false, false] rfl rfl (any_of HT_.out (by kernel_rfl)) (fun _ _ _ h => h) (Or.inl ⟨by rfl, ?_⟩) ?_ ?_
                              rotate_left
                              · intro w'
                                go_simp
                                with_reducible rfl
                              rotate_left
                              · simp only [Act.put, List.setIfInBounds_toArray, List.set_cons_zero, List.set_cons_succ, i64_w, i32_w]
                                rfl
                              refine pure_ (i := 3) (N := some 83) (v := ?_) (a' := ?_) #[true, true, true, true, false, false, false, false, false, false, false, false, false, false] rfl rfl (any_of HT_.out (by kernel_rfl)) (fun _ _ _ h => h) (Or.inl ⟨by rfl, ?_⟩) ?_ ?_
                              rotate_left
                              · intro w'
                                go_simp
                                with_reducible rfl
                              rotate_left
                              · simp only [Act.put, List.setIfInBounds_toArray, List.set_cons_zero, List.set_cons_succ, i64_w, i32_w]
                                rfl
                              refine pure_ (i := 4) (N := some 84) (v := ?_) (a' := ?_) #[true, true, true, true, true, false, false, false, false, false, false, false, false, false] rfl rfl (any_of HT_.out (by kernel_rfl)) (fun _ _ _ h => h) (Or.inl ⟨by rfl, ?_⟩) ?_ ?_
                              rotate_left
                              · intro w'
                                go_simp
                                with_reducible rfl
                              rotate_left
                              · simp only [Act.put, List.setIfInBounds_toArray, List.set_cons_zero, List.set_cons_succ, i64_w, i32_w]
                                rfl
                              refine pure_ (i := 5) (N := some 85) (v := ?_) (a' := ?_) #[true, true, true, true, true, true, false, false, false, false, false, false, false, false] rfl rfl (any_of HT_.out (by kernel_rfl)) (fun _ _ _ h => h) (Or.inl ⟨by rfl, ?_⟩) ?_ ?_
                              rotate_left
                              · intro w'
                                go_simp
                                with_reducible rfl
                              rotate_left
                              · simp only [Act.put, List.setIfInBounds_toArray, List.set_cons_zero, List.set_cons_succ, i64_w, i32_w]
                                rfl
                              refine pure_ (i := 7) (N := some 87) (v := ?_) (a' := ?_) #[true, true, true, true, true, true, false, true, false, false, false, false, false, false] rfl rfl (any_of HT_.out (by kernel_rfl)) (fun _ _ _ h => h) (Or.inl ⟨by rfl, ?_⟩) ?_ ?_
                              rotate_left
                              · intro w'
                                go_simp
                                with_reducible rfl
                              rotate_left
                              · simp only [Act.put, List.setIfInBounds_toArray, List.set_cons_zero, List.set_cons_succ, i64_w, i32_w]
                                rfl
                              refine pure_ (i := 8) (N := some 88) (v := ?_) (a' := ?_) #[true, true, true, true, true, true, false, true, true, false, false, false, false, false] rfl rfl (any_of HT_.out (by kernel_rfl)) (fun _ _ _ h => h) (Or.inl ⟨by rfl, ?_⟩) ?_ ?_
                              rotate_left
                              · intro w'
                                go_simp
                                with_reducible rfl
                              rotate_left
                              · simp only [Act.put, List.setIfInBounds_toArray, List.set_cons_zero, List.set_cons_succ, i64_w, i32_w]
                                rfl
                              refine pure_ (i := 9) (N := some 89) (v := ?_) (a' := ?_) #[true, true, true, true, true, true, false, true, true, true, false, false, false, false] rfl rfl (any_of HT_.out (by kernel_rfl)) (fun _ _ _ h => h) (Or.inl ⟨by rfl, ?_⟩) ?_ ?_
                              rotate_left
                              · intro w'
                                go_simp
                                with_reducible rfl
                              rotate_left
                              · simp only [Act.put, List.setIfInBounds_toArray, List.set_cons_zero, List.set_cons_succ, i64_w, i32_w]
                                rfl
                              refine pure_ (i := 10) (N := some 90) (v := ?_) (a' := ?_) #[true, true, true, true, true, true, false, true, true, true, true, false, false, false] rfl rfl (any_of HT_.out (by kernel_rfl)) (fun _ _ _ h => h) (Or.inl ⟨by rfl, ?_⟩) ?_ ?_
                              rotate_left
                              · intro w'
                                go_simp
                                with_reducible rfl
                              rotate_left
                              · simp only [Act.put, List.setIfInBounds_toArray, List.set_cons_zero, List.set_cons_succ, i64_w, i32_w]
                                rfl
                              refine take_ (i := 6) (N := some 86) (v := ?_) (a' := ?_) #[true, true, true, true, true, true, true, true, true, true, true, false, false, false] rfl rfl (take_ofW HT_.out HW_.out (by kernel_rfl)) (fun _ _ _ h => h) (Or.inl ⟨by rfl, ?_⟩) hHeld ?_ ?_
                              rotate_left
                              · rintro w' ⟨s0, s1, s2, s3, s4, s5, s6, s7, s8, s9⟩
                                go_simp
                                with_reducible rfl
                              rotate_left
                              · simp only [Act.put, List.setIfInBounds_toArray, List.set_cons_zero, List.set_cons_succ, i64_w, i32_w]
                                rfl
                              refine take_ (i := 11) (N := some 91) (v := ?_) (a' := ?_) #[true, true, true, true, true, true, true, true, true, true, true, true, false, false] rfl rfl (take_ofW HT_.out HW_.out (by kernel_rfl)) (fun _ _ _ h => h) (Or.inl ⟨by rfl, ?_⟩) hHeld ?_ ?_
                              rotate_left
                              · rintro w' ⟨s0, s1, s2, s3, s4, s5, s6, s7, s8, s9⟩
                                go_simp
                                with_reducible rfl
                              rotate_left
                              · simp only [Act.put, List.setIfInBounds_toArray, List.set_cons_zero, List.set_cons_succ, i64_w, i32_w]
                                rfl
                              refine one_ (i := 12) (N := some 92) #[true, true, true, true, true, true, true, true, true, true, true, true, true, false] rfl rfl (one_of HT_.out (by kernel_rfl)) (by decide) (fun K hK => ?_)
                              refine goes_ Try.func40 (by kernel_rfl) rfl #[.agg #[.string ((rd_T39 x3_1 x9_2).f0.f0), .string ((rd_T39 x3_1 x9_2).f0.f1), .string ((rd_T39 x3_1 x9_2).f0.f2), .int .i64 ((rd_T39 x3_1 x9_2).f1), .int .i64 ((rd_T39 x3_1 x9_2).f2)], .agg #[.string ((rd_T39 x8_2 (ji54)).f0.f0), .string ((rd_T39 x8_2 (ji54)).f0.f1), .string ((rd_T39 x8_2 (ji54)).f0.f2), .int .i64 ((rd_T39 x8_2 (ji54)).f1), .int .i64 ((rd_T39 x8_2 (ji54)).f2)]] (by rfl) rfl rfl (by (try simp only [List.map_toArray, List.map_cons, List.map_nil]); first | done | (simp only [hji54]; rfl) | rfl | (simp only [List.length_drop, List.length_take]; rfl)) ?_
                              with_reducible refine (porterref07_Before.calls ((rd_T39 x3_1 x9_2).f0.f0) ((rd_T39 x3_1 x9_2).f0.f1) ((rd_T39 x3_1 x9_2).f0.f2) ((rd_T39 x3_1 x9_2).f1) ((rd_T39 x3_1 x9_2).f2) ((rd_T39 x8_2 (ji54)).f0.f0) ((rd_T39 x8_2 (ji54)).f0.f1) ((rd_T39 x8_2 (ji54)).f0.f2) ((rd_T39 x8_2 (ji54)).f1) ((rd_T39 x8_2 (ji54)).f2) true _ A57.out).mono ?_
                              rintro e w60 ⟨rfl, hb⟩
                              have HS0_ := (hb.cell (World.block_lt_of_cell? _ _ (hHeld.1))).trans (hHeld.1)
                              have HS1_ := (hb.cell (World.block_lt_of_cell? _ _ (hHeld.2.1))).trans (hHeld.2.1)
                              have HS2_ := (hb.cell (World.block_lt_of_cell? _ _ (hHeld.2.2.1))).trans (hHeld.2.2.1)
                              have HS3_ := (hb.cell (World.block_lt_of_cell? _ _ (hHeld.2.2.2.1))).trans (hHeld.2.2.2.1)
                              have HS4_ := (hb.cell (World.block_lt_of_cell? _ _ (hHeld.2.2.2.2.1))).trans (hHeld.2.2.2.2.1)
                              have HS5_ := (hb.cell (World.block_lt_of_cell? _ _ (hHeld.2.2.2.2.2.1))).trans (hHeld.2.2.2.2.2.1)
                              have HS6_ := (hb.cell (World.block_lt_of_cell? _ _ (hHeld.2.2.2.2.2.2.1))).trans (hHeld.2.2.2.2.2.2.1)
                              have HS7_ := (hb.cell (World.block_lt_of_cell? _ _ (hHeld.2.2.2.2.2.2.2.1))).trans (hHeld.2.2.2.2.2.2.2.1)
                              have HS8_ := (hb.cell (World.block_lt_of_cell? _ _ (hHeld.2.2.2.2.2.2.2.2.1))).trans (hHeld.2.2.2.2.2.2.2.2.1)
                              have HS9_ := (hb.cell (World.block_lt_of_cell? _ _ (hHeld.2.2.2.2.2.2.2.2.2))).trans (hHeld.2.2.2.2.2.2.2.2.2)
                              refine ⟨_, rfl, ?_⟩
                              have n0_ := Aside0.mk (Kd.R_below (by (with_reducible repeat (first | apply Kd.R_alloc | apply Kd.R_drewN | apply Kd.R_drew)); exact HO_3.out) hb)
                              have n1_ := Aside0.mk (Kd.R_below (by (with_reducible repeat (first | apply Kd.R_alloc | apply Kd.R_drewN | apply Kd.R_drew)); exact HO_8.out) hb)
                              have n2_ := Aside0.mk (below_step (by repeat (first | (with_reducible first | exact HB.out | apply below_alloc | apply pw_below_drewN | apply below_drew1) | exact HB.out)) hb)
                              clear HO_3
                              clear HO_8
                              clear HB
                              have HO_3 := n0_
                              have HO_8 := n1_
                              have HB := n2_
                              clear n0_ n1_ n2_
                              (try clear hb)
                              (try clear hb2)
                              (try clear hk)
                              (try clear hi)
                              refine hK.out _ _ ⟨HS0_, HS1_, HS2_, HS3_, HS4_, HS5_, HS6_, HS7_, HS8_, HS9_⟩ (fun hHeld => ?_)
                              clear hK K
                              refine norm_ (a' := ?_) ?_ ?_
                              rotate_left
                              · show Act.put _ (some 92) _ = _
                                simp only [Act.put, List.setIfInBounds_toArray, List.set_cons_zero, List.set_cons_succ, i64_w, i32_w]
                                rfl
                              refine pure_ (i := 13) (N := some 93) (v := ?_) (a' := ?_) #[true, true, true, true, true, true, true, true, true, true, true, true, true, true] rfl rfl (any_of HT_.out (by kernel_rfl)) (fun _ _ _ h => h) (Or.inl ⟨by rfl, ?_⟩) ?_ ?_
                              rotate_left
                              · intro w'
                                go_simp
                                with_reducible rfl
                              rotate_left
                              · simp only [Act.put, List.setIfInBounds_toArray, List.set_cons_zero, List.set_cons_succ, i64_w, i32_w]
                                rfl
                              refine done_ (done_of HT_.out (by kernel_rfl)) ?_
                              try go_wp2
                              go_roundg k3
                              case measure => have := HK1.out; have := HK2.out; have := HK3.out; omega
                              case rel => exact ⟨(ji54), (by first | rfl | (simp; done) | (simp only [← hji54] <;> (first | rfl | simp)) | (simp [*]; done)), H', ⟨by have := HK1.out; have := HK2.out; have := HK3.out; omega⟩, ⟨by (with_reducible repeat (first | apply Kd.R_alloc | apply Kd.R_drewN | apply Kd.R_drew)); exact HO_3.out⟩, ⟨by (with_reducible repeat (first | apply Kd.R_alloc | apply Kd.R_drewN | apply Kd.R_drew)); exact HO_8.out⟩, ⟨by repeat (first | (with_reducible first | exact HB.out | apply below_alloc | apply pw_below_drewN | apply below_drew1) | exact HB.out)⟩⟩
                            · replace c58 := Bool.eq_false_iff.mpr c58
                              subst c58
                              have H1 : ((some (([] : List (S39)) : List (S39))).bind fun y205 => (if 0 ≤ x10_3 then (if x10_3 ≤ (x8_2.length : Int) then ((some (x8_2.take (x10_3 : Int).toNat : List (S39))).bind fun y208 => (if y205.length + y208.length < 2199023255552 then ((some (y205 ++ y208 : List (S39))).bind fun y212 => (if y212.length < 2199023255552 then ((some (y212 ++ [(⟨(⟨(rd_T39 x3_1 x9_2).f0.f0, (rd_T39 x3_1 x9_2).f0.f1, (rd_T39 x3_1 x9_2).f0.f2⟩ : S37), (rd_T39 x3_1 x9_2).f1, (rd_T39 x3_1 x9_2).f2⟩ : S39)] : List (S39))).bind fun y216 => ((some (x8_2.drop (x10_3 : Int).toNat : List (S39))).bind fun y219 => (if y216.length + y219.length < 2199023255552 then (porterref22_Rows.l2 k3 x3_1 (y216 ++ y219) (wrap64 (x9_2 + 1))) else (none)))) else (none))) else (none))) else (none)) else (none))) = some r := by rw [if_neg (show ¬ (false = true) by decide)] at H; exact H
                              clear H
                              have H := H1
                              clear H1
                              obtain ⟨y205, hy205⟩ : ∃ y_ : List (S39), y_ = (([] : List (S39))) := ⟨_, rfl⟩
                              replace H : (if 0 ≤ x10_3 then (if x10_3 ≤ (x8_2.length : Int) then ((some (x8_2.take (x10_3 : Int).toNat : List (S39))).bind fun y208 => (if y205.length + y208.length < 2199023255552 then ((some (y205 ++ y208 : List (S39))).bind fun y212 => (if y212.length < 2199023255552 then ((some (y212 ++ [(⟨(⟨(rd_T39 x3_1 x9_2).f0.f0, (rd_T39 x3_1 x9_2).f0.f1, (rd_T39 x3_1 x9_2).f0.f2⟩ : S37), (rd_T39 x3_1 x9_2).f1, (rd_T39 x3_1 x9_2).f2⟩ : S39)] : List (S39))).bind fun y216 => ((some (x8_2.drop (x10_3 : Int).toNat : List (S39))).bind fun y219 => (if y216.length + y219.length < 2199023255552 then (porterref22_Rows.l2 k3 x3_1 (y216 ++ y219) (wrap64 (x9_2 + 1))) else (none)))) else (none))) else (none))) else (none)) else (none)) = some r := by first | (rw [hy205]; with_reducible exact H) | (have H2_ := (Option.bind_some _ _).symm.trans H; rw [hy205]; with_reducible exact H2_) | (have H2_ := (Option.bind_some _ _).symm.trans H; with_reducible exact H2_) | with_reducible exact H | (rw [hy205]; exact H) | exact H
                              have Ny205 := Aside0.mk hy205
                              clear hy205
                              by_cases c61 : 0 ≤ x10_3
                              · rw [if_pos c61] at H
                                have c61b0 := eq_true c61
                                have c61b1 : decide (0 ≤ x10_3) = true := decide_eq_true c61
                                clear c61
                                by_cases c62 : x10_3 ≤ (x8_2.length : Int)
                                · rw [if_pos c62] at H
                                  have c62b0 := eq_true c62
                                  have c62b1 : decide (x10_3 ≤ (x8_2.length : Int)) = true := decide_eq_true c62
                                  clear c62
                                  obtain ⟨y208, hy208⟩ : ∃ y_ : List (S39), y_ = (x8_2.take (x10_3 : Int).toNat) := ⟨_, rfl⟩
                                  replace H : (if y205.length + y208.length < 2199023255552 then ((some (y205 ++ y208 : List (S39))).bind fun y212 => (if y212.length < 2199023255552 then ((some (y212 ++ [(⟨(⟨(rd_T39 x3_1 x9_2).f0.f0, (rd_T39 x3_1 x9_2).f0.f1, (rd_T39 x3_1 x9_2).f0.f2⟩ : S37), (rd_T39 x3_1 x9_2).f1, (rd_T39 x3_1 x9_2).f2⟩ : S39)] : List (S39))).bind fun y216 => ((some (x8_2.drop (x10_3 : Int).toNat : List (S39))).bind fun y219 => (if y216.length + y219.length < 2199023255552 then (porterref22_Rows.l2 k3 x3_1 (y216 ++ y219) (wrap64 (x9_2 + 1))) else (none)))) else (none))) else (none)) = some r := by first | (rw [hy208]; with_reducible exact H) | (have H2_ := (Option.bind_some _ _).symm.trans H; rw [hy208]; with_reducible exact H2_) | (have H2_ := (Option.bind_some _ _).symm.trans H; with_reducible exact H2_) | with_reducible exact H | (rw [hy208]; exact H) | exact H
                                  have Ny208 := Aside0.mk hy208
                                  clear hy208
                                  by_cases c63 : y205.length + y208.length < 2199023255552
                                  · rw [if_pos c63] at H
                                    have LMc63 := Aside0.mk c63
                                    clear c63
                                    obtain ⟨y212, hy212⟩ : ∃ y_ : List (S39), y_ = (y205 ++ y208) := ⟨_, rfl⟩
                                    replace H : (if y212.length < 2199023255552 then ((some (y212 ++ [(⟨(⟨(rd_T39 x3_1 x9_2).f0.f0, (rd_T39 x3_1 x9_2).f0.f1, (rd_T39 x3_1 x9_2).f0.f2⟩ : S37), (rd_T39 x3_1 x9_2).f1, (rd_T39 x3_1 x9_2).f2⟩ : S39)] : List (S39))).bind fun y216 => ((some (x8_2.drop (x10_3 : Int).toNat : List (S39))).bind fun y219 => (if y216.length + y219.length < 2199023255552 then (porterref22_Rows.l2 k3 x3_1 (y216 ++ y219) (wrap64 (x9_2 + 1))) else (none)))) else (none)) = some r := by first | (rw [hy212]; with_reducible exact H) | (have H2_ := (Option.bind_some _ _).symm.trans H; rw [hy212]; with_reducible exact H2_) | (have H2_ := (Option.bind_some _ _).symm.trans H; with_reducible exact H2_) | with_reducible exact H | (rw [hy212]; exact H) | exact H
                                    have Ny212 := Aside0.mk hy212
                                    clear hy212
                                    by_cases c64 : y212.length < 2199023255552
                                    · rw [if_pos c64] at H
                                      have LMc64 := Aside0.mk c64
                                      clear c64
                                      obtain ⟨y216, hy216⟩ : ∃ y_ : List (S39), y_ = (y212 ++ [(⟨(⟨(rd_T39 x3_1 x9_2).f0.f0, (rd_T39 x3_1 x9_2).f0.f1, (rd_T39 x3_1 x9_2).f0.f2⟩ : S37), (rd_T39 x3_1 x9_2).f1, (rd_T39 x3_1 x9_2).f2⟩ : S39)]) := ⟨_, rfl⟩
                                      replace H : ((some (x8_2.drop (x10_3 : Int).toNat : List (S39))).bind fun y219 => (if y216.length + y219.length < 2199023255552 then (porterref22_Rows.l2 k3 x3_1 (y216 ++ y219) (wrap64 (x9_2 + 1))) else (none))) = some r := by first | (rw [hy216]; with_reducible exact H) | (have H2_ := (Option.bind_some _ _).symm.trans H; rw [hy216]; with_reducible exact H2_) | (have H2_ := (Option.bind_some _ _).symm.trans H; with_reducible exact H2_) | with_reducible exact H | (rw [hy216]; exact H) | exact H
                                      have Ny216 := Aside0.mk hy216
                                      clear hy216
                                      have c65b0 := eq_true (of_decide_eq_true (by first | (with_reducible assumption) | assumption) : 0 ≤ x10_3)
                                      have c66b0 := eq_true (of_decide_eq_true (by first | (with_reducible assumption) | assumption) : x10_3 ≤ (x8_2.length : Int))
                                      obtain ⟨y219, hy219⟩ : ∃ y_ : List (S39), y_ = (x8_2.drop (x10_3 : Int).toNat) := ⟨_, rfl⟩
                                      replace H : (if y216.length + y219.length < 2199023255552 then (porterref22_Rows.l2 k3 x3_1 (y216 ++ y219) (wrap64 (x9_2 + 1))) else (none)) = some r := by first | (rw [hy219]; with_reducible exact H) | (have H2_ := (Option.bind_some _ _).symm.trans H; rw [hy219]; with_reducible exact H2_) | (have H2_ := (Option.bind_some _ _).symm.trans H; with_reducible exact H2_) | with_reducible exact H | (rw [hy219]; exact H) | exact H
                                      have Ny219 := Aside0.mk hy219
                                      clear hy219
                                      by_cases c67 : y216.length + y219.length < 2199023255552
                                      · rw [if_pos c67] at H
                                        have LMc67 := Aside0.mk c67
                                        clear c67
                                        obtain ⟨y223, hy223⟩ : ∃ y_ : List (S39), y_ = (y216 ++ y219) := ⟨_, rfl⟩
                                        replace H : (porterref22_Rows.l2 k3 x3_1 y223 (wrap64 (x9_2 + 1))) = some r := by first | (rw [hy223]; with_reducible exact H) | (have H2_ := (Option.bind_some _ _).symm.trans H; rw [hy223]; with_reducible exact H2_) | (have H2_ := (Option.bind_some _ _).symm.trans H; with_reducible exact H2_) | with_reducible exact H | (rw [hy223]; exact H) | exact H
                                        have Ny223 := Aside0.mk hy223
                                        clear hy223
                                        have H' := Aside0.mk H
                                        clear H
                                        try go_wp2
                                        have n0_ := Aside0.mk (Kd.R_drew HO_3.out)
                                        have n1_ := Aside0.mk (Kd.R_drew HO_8.out)
                                        have n2_ := Aside0.mk (below_drew1 HB.out)
                                        clear HO_3
                                        clear HO_8
                                        clear HB
                                        have HO_3 := n0_
                                        have HO_8 := n1_
                                        have HB := n2_
                                        clear n0_ n1_ n2_
                                        have p202 : 0 ≤ (x9_2 : Int) := of_decide_eq_true (by first | (with_reducible assumption) | assumption)
                                        have q202 : x9_2 < (x3_1.length : Int) := of_decide_eq_true (by first | (with_reducible assumption) | assumption)
                                        obtain ⟨ad202, e202, hx202_0, hx202_1, hx202_2, hx202_3, hx202_4⟩ := at_T39 (Kd.R_reads' HO_3.out).2.2 x9_2 p202 q202
                                        cases e202
                                        replace p202 := eq_true p202
                                        replace q202 := eq_true q202
                                        have p203 : 0 ≤ ((ji54) : Int) := of_decide_eq_true (by first | (with_reducible assumption) | assumption)
                                        have q203 : (ji54) < (x8_2.length : Int) := of_decide_eq_true (by first | (with_reducible assumption) | assumption)
                                        obtain ⟨ad203, e203, hx203_0, hx203_1, hx203_2, hx203_3, hx203_4⟩ := at_T39 (Kd.R_reads' HO_8.out).2.2 (ji54) p203 q203
                                        cases e203
                                        replace p203 := eq_true p203
                                        replace q203 := eq_true q203
                                        refine start_ (n := 14) (S := fun w' => w'.cell? (ad202.add ((x9_2).toNat * 5)) = some (.string ((rd_T39 x3_1 x9_2).f0.f0)) ∧ w'.cell? ⟨(ad202.add ((x9_2).toNat * 5)).block, (ad202.add ((x9_2).toNat * 5)).off + 1, none⟩ = some (.string ((rd_T39 x3_1 x9_2).f0.f1)) ∧ w'.cell? ⟨(ad202.add ((x9_2).toNat * 5)).block, (ad202.add ((x9_2).toNat * 5)).off + 2, none⟩ = some (.string ((rd_T39 x3_1 x9_2).f0.f2)) ∧ w'.cell? ⟨(ad202.add ((x9_2).toNat * 5)).block, (ad202.add ((x9_2).toNat * 5)).off + 3, none⟩ = some (.int .i64 ((rd_T39 x3_1 x9_2).f1)) ∧ w'.cell? ⟨(ad202.add ((x9_2).toNat * 5)).block, (ad202.add ((x9_2).toNat * 5)).off + 4, none⟩ = some (.int .i64 ((rd_T39 x3_1 x9_2).f2)) ∧ w'.cell? (ad203.add (((ji54)).toNat * 5)) = some (.string ((rd_T39 x8_2 (ji54)).f0.f0)) ∧ w'.cell? ⟨(ad203.add (((ji54)).toNat * 5)).block, (ad203.add (((ji54)).toNat * 5)).off + 1, none⟩ = some (.string ((rd_T39 x8_2 (ji54)).f0.f1)) ∧ w'.cell? ⟨(ad203.add (((ji54)).toNat * 5)).block, (ad203.add (((ji54)).toNat * 5)).off + 2, none⟩ = some (.string ((rd_T39 x8_2 (ji54)).f0.f2)) ∧ w'.cell? ⟨(ad203.add (((ji54)).toNat * 5)).block, (ad203.add (((ji54)).toNat * 5)).off + 3, none⟩ = some (.int .i64 ((rd_T39 x8_2 (ji54)).f1)) ∧ w'.cell? ⟨(ad203.add (((ji54)).toNat * 5)).block, (ad203.add (((ji54)).toNat * 5)).off + 4, none⟩ = some (.int .i64 ((rd_T39 x8_2 (ji54)).f2))) (ds := []) #[false, false, false, false, false, false, false, false, false, false, false, false, false, false] (by kernel_rfl) rfl rfl ⟨hx202_0, hx202_1, hx202_2, hx202_3, hx202_4, hx203_0, hx203_1, hx203_2, hx203_3, hx203_4⟩ (fun hHeld => ?_); refine with_tabW porterref22_Rows.tab21 porterref22_Rows.bits21 (fun HT_ HW_ => ?_)
                                        generalize wr.drew = w68 at HO_3 HO_8 HB hx202_0 hx202_1 hx202_2 hx202_3 hx202_4 hx203_0 hx203_1 hx203_2 hx203_3 hx203_4 hHeld ⊢
                                        refine pure_ (i := 0) (N := some 80) (v := ?_) (a' := ?_) #[true, false, false, false, false, false, false, false, false, false, false, false, false, false] rfl rfl (any_of HT_.out (by kernel_rfl)) (fun _ _ _ h => h) (Or.inl ⟨by rfl, ?_⟩) ?_ ?_
                                        rotate_left
                                        · intro w'
                                          go_simp
                                          with_reducible rfl
                                        rotate_left
                                        · simp only [Act.put, List.setIfInBounds_toArray, List.set_cons_zero, List.set_cons_succ, i64_w, i32_w]
                                          rfl
                                        refine pure_ (i := 1) (N := some 81) (v := ?_) (a' := ?_) #[true, true, false, false, false, false, false, false, false, false, false, false, false, false] rfl rfl (any_of HT_.out (by kernel_rfl)) (fun _ _ _ h => h) (Or.inl ⟨by rfl, ?_⟩) ?_ ?_
                                        rotate_left
                                        · intro w'
                                          go_simp
                                          with_reducible rfl
                                        rotate_left
                                        · simp only [Act.put, List.setIfInBounds_toArray, List.set_cons_zero, List.set_cons_succ, i64_w, i32_w]
                                          rfl
                                        refine pure_ (i := 2) (N := some 82) (v := ?_) (a' := ?_) #[true, true, true, false, false, false, false, false, false, false, false, false, false, false] rfl rfl (any_of HT_.out (by kernel_rfl)) (fun _ _ _ h => h) (Or.inl ⟨by rfl, ?_⟩) ?_ ?_
                                        rotate_left
                                        · intro w'
                                          go_simp
                                          with_reducible rfl
                                        rotate_left
                                        · simp only [Act.put, List.setIfInBounds_toArray, List.set_cons_zero, List.set_cons_succ, i64_w, i32_w]
                                          rfl
                                        refine pure_ (i := 3) (N := some 83) (v := ?_) (a' := ?_) #[true, true, true, true, false, false, false, false, false, false, false, false, false, false] rfl rfl (any_of HT_.out (by kernel_rfl)) (fun _ _ _ h => h) (Or.inl ⟨by rfl, ?_⟩) ?_ ?_
                                        rotate_left
                                        · intro w'
                                          go_simp
                                          with_reducible rfl
                                        rotate_left
                                        · simp only [Act.put, List.setIfInBounds_toArray, List.set_cons_zero, List.set_cons_succ, i64_w, i32_w]
                                          rfl
                                        refine pure_ (i := 4) (N := some 84) (v := ?_) (a' := ?_) #[true, true, true, true, true, false, false, false, false, false, false, false, false, false] rfl rfl (any_of HT_.out (by kernel_rfl)) (fun _ _ _ h => h) (Or.inl ⟨by rfl, ?_⟩) ?_ ?_
                                        rotate_left
                                        · intro w'
                                          go_simp
                                          with_reducible rfl
                                        rotate_left
                                        · simp only [Act.put, List.setIfInBounds_toArray, List.set_cons_zero, List.set_cons_succ, i64_w, i32_w]
                                          rfl
                                        refine pure_ (i := 5) (N := some 85) (v := ?_) (a' := ?_) #[true, true, true, true, true, true, false, false, false, false, false, false, false, false] rfl rfl (any_of HT_.out (by kernel_rfl)) (fun _ _ _ h => h) (Or.inl ⟨by rfl, ?_⟩) ?_ ?_
                                        rotate_left
                                        · intro w'
                                          go_simp
                                          with_reducible rfl
                                        rotate_left
                                        · simp only [Act.put, List.setIfInBounds_toArray, List.set_cons_zero, List.set_cons_succ, i64_w, i32_w]
                                          rfl
                                        refine pure_ (i := 7) (N := some 87) (v := ?_) (a' := ?_) #[true, true, true, true, true, true, false, true, false, false, false, false, false, false] rfl rfl (any_of HT_.out (by kernel_rfl)) (fun _ _ _ h => h) (Or.inl ⟨by rfl, ?_⟩) ?_ ?_
                                        rotate_left
                                        · intro w'
                                          go_simp
                                          with_reducible rfl
                                        rotate_left
                                        · simp only [Act.put, List.setIfInBounds_toArray, List.set_cons_zero, List.set_cons_succ, i64_w, i32_w]
                                          rfl
                                        refine pure_ (i := 8) (N := some 88) (v := ?_) (a' := ?_) #[true, true, true, true, true, true, false, true, true, false, false, false, false, false] rfl rfl (any_of HT_.out (by kernel_rfl)) (fun _ _ _ h => h) (Or.inl ⟨by rfl, ?_⟩) ?_ ?_
                                        rotate_left
                                        · intro w'
                                          go_simp
                                          with_reducible rfl
                                        rotate_left
                                        · simp only [Act.put, List.setIfInBounds_toArray, List.set_cons_zero, List.set_cons_succ, i64_w, i32_w]
                                          rfl
                                        refine pure_ (i := 9) (N := some 89) (v := ?_) (a' := ?_) #[true, true, true, true, true, true, false, true, true, true, false, false, false, false] rfl rfl (any_of HT_.out (by kernel_rfl)) (fun _ _ _ h => h) (Or.inl ⟨by rfl, ?_⟩) ?_ ?_
                                        rotate_left
                                        · intro w'
                                          go_simp
                                          with_reducible rfl
                                        rotate_left
                                        · simp only [Act.put, List.setIfInBounds_toArray, List.set_cons_zero, List.set_cons_succ, i64_w, i32_w]
                                          rfl
                                        refine pure_ (i := 10) (N := some 90) (v := ?_) (a' := ?_) #[true, true, true, true, true, true, false, true, true, true, true, false, false, false] rfl rfl (any_of HT_.out (by kernel_rfl)) (fun _ _ _ h => h) (Or.inl ⟨by rfl, ?_⟩) ?_ ?_
                                        rotate_left
                                        · intro w'
                                          go_simp
                                          with_reducible rfl
                                        rotate_left
                                        · simp only [Act.put, List.setIfInBounds_toArray, List.set_cons_zero, List.set_cons_succ, i64_w, i32_w]
                                          rfl
                                        refine take_ (i := 6) (N := some 86) (v := ?_) (a' := ?_) #[true, true, true, true, true, true, true, true, true, true, true, false, false, false] rfl rfl (take_ofW HT_.out HW_.out (by kernel_rfl)) (fun _ _ _ h => h) (Or.inl ⟨by rfl, ?_⟩) hHeld ?_ ?_
                                        rotate_left
                                        · rintro w' ⟨s0, s1, s2, s3, s4, s5, s6, s7, s8, s9⟩
                                          go_simp
                                          with_reducible rfl
                                        rotate_left
                                        · simp only [Act.put, List.setIfInBounds_toArray, List.set_cons_zero, List.set_cons_succ, i64_w, i32_w]
                                          rfl
                                        refine take_ (i := 11) (N := some 91) (v := ?_) (a' := ?_) #[true, true, true, true, true, true, true, true, true, true, true, true, false, false] rfl rfl (take_ofW HT_.out HW_.out (by kernel_rfl)) (fun _ _ _ h => h) (Or.inl ⟨by rfl, ?_⟩) hHeld ?_ ?_
                                        rotate_left
                                        · rintro w' ⟨s0, s1, s2, s3, s4, s5, s6, s7, s8, s9⟩
                                          go_simp
                                          with_reducible rfl
                                        rotate_left
                                        · simp only [Act.put, List.setIfInBounds_toArray, List.set_cons_zero, List.set_cons_succ, i64_w, i32_w]
                                          rfl
                                        refine one_ (i := 12) (N := some 92) #[true, true, true, true, true, true, true, true, true, true, true, true, true, false] rfl rfl (one_of HT_.out (by kernel_rfl)) (by decide) (fun K hK => ?_)
                                        refine goes_ Try.func40 (by kernel_rfl) rfl #[.agg #[.string ((rd_T39 x3_1 x9_2).f0.f0), .string ((rd_T39 x3_1 x9_2).f0.f1), .string ((rd_T39 x3_1 x9_2).f0.f2), .int .i64 ((rd_T39 x3_1 x9_2).f1), .int .i64 ((rd_T39 x3_1 x9_2).f2)], .agg #[.string ((rd_T39 x8_2 (ji54)).f0.f0), .string ((rd_T39 x8_2 (ji54)).f0.f1), .string ((rd_T39 x8_2 (ji54)).f0.f2), .int .i64 ((rd_T39 x8_2 (ji54)).f1), .int .i64 ((rd_T39 x8_2 (ji54)).f2)]] (by rfl) rfl rfl (by (try simp only [List.map_toArray, List.map_cons, List.map_nil]); first | done | (simp only [hji54]; rfl) | rfl | (simp only [List.length_drop, List.length_take]; rfl)) ?_
                                        with_reducible refine (porterref07_Before.calls ((rd_T39 x3_1 x9_2).f0.f0) ((rd_T39 x3_1 x9_2).f0.f1) ((rd_T39 x3_1 x9_2).f0.f2) ((rd_T39 x3_1 x9_2).f1) ((rd_T39 x3_1 x9_2).f2) ((rd_T39 x8_2 (ji54)).f0.f0) ((rd_T39 x8_2 (ji54)).f0.f1) ((rd_T39 x8_2 (ji54)).f0.f2) ((rd_T39 x8_2 (ji54)).f1) ((rd_T39 x8_2 (ji54)).f2) false _ A57.out).mono ?_
                                        rintro e w69 ⟨rfl, hb⟩
                                        have HS0_ := (hb.cell (World.block_lt_of_cell? _ _ (hHeld.1))).trans (hHeld.1)
                                        have HS1_ := (hb.cell (World.block_lt_of_cell? _ _ (hHeld.2.1))).trans (hHeld.2.1)
                                        have HS2_ := (hb.cell (World.block_lt_of_cell? _ _ (hHeld.2.2.1))).trans (hHeld.2.2.1)
                                        have HS3_ := (hb.cell (World.block_lt_of_cell? _ _ (hHeld.2.2.2.1))).trans (hHeld.2.2.2.1)
                                        have HS4_ := (hb.cell (World.block_lt_of_cell? _ _ (hHeld.2.2.2.2.1))).trans (hHeld.2.2.2.2.1)
                                        have HS5_ := (hb.cell (World.block_lt_of_cell? _ _ (hHeld.2.2.2.2.2.1))).trans (hHeld.2.2.2.2.2.1)
                                        have HS6_ := (hb.cell (World.block_lt_of_cell? _ _ (hHeld.2.2.2.2.2.2.1))).trans (hHeld.2.2.2.2.2.2.1)
                                        have HS7_ := (hb.cell (World.block_lt_of_cell? _ _ (hHeld.2.2.2.2.2.2.2.1))).trans (hHeld.2.2.2.2.2.2.2.1)
                                        have HS8_ := (hb.cell (World.block_lt_of_cell? _ _ (hHeld.2.2.2.2.2.2.2.2.1))).trans (hHeld.2.2.2.2.2.2.2.2.1)
                                        have HS9_ := (hb.cell (World.block_lt_of_cell? _ _ (hHeld.2.2.2.2.2.2.2.2.2))).trans (hHeld.2.2.2.2.2.2.2.2.2)
                                        refine ⟨_, rfl, ?_⟩
                                        have n0_ := Aside0.mk (Kd.R_below (by (with_reducible repeat (first | apply Kd.R_alloc | apply Kd.R_drewN | apply Kd.R_drew)); exact HO_3.out) hb)
                                        have n1_ := Aside0.mk (Kd.R_below (by (with_reducible repeat (first | apply Kd.R_alloc | apply Kd.R_drewN | apply Kd.R_drew)); exact HO_8.out) hb)
                                        have n2_ := Aside0.mk (below_step (by repeat (first | (with_reducible first | exact HB.out | apply below_alloc | apply pw_below_drewN | apply below_drew1) | exact HB.out)) hb)
                                        clear HO_3
                                        clear HO_8
                                        clear HB
                                        have HO_3 := n0_
                                        have HO_8 := n1_
                                        have HB := n2_
                                        clear n0_ n1_ n2_
                                        (try clear hb)
                                        (try clear hb2)
                                        (try clear hk)
                                        (try clear hi)
                                        refine hK.out _ _ ⟨HS0_, HS1_, HS2_, HS3_, HS4_, HS5_, HS6_, HS7_, HS8_, HS9_⟩ (fun hHeld => ?_)
                                        clear hK K
                                        refine norm_ (a' := ?_) ?_ ?_
                                        rotate_left
                                        · show Act.put _ (some 92) _ = _
                                          simp only [Act.put, List.setIfInBounds_toArray, List.set_cons_zero, List.set_cons_succ, i64_w, i32_w]
                                          rfl
                                        refine pure_ (i := 13) (N := some 93) (v := ?_) (a' := ?_) #[true, true, true, true, true, true, true, true, true, true, true, true, true, true] rfl rfl (any_of HT_.out (by kernel_rfl)) (fun _ _ _ h => h) (Or.inl ⟨by rfl, ?_⟩) ?_ ?_
                                        rotate_left
                                        · intro w'
                                          go_simp
                                          with_reducible rfl
                                        rotate_left
                                        · simp only [Act.put, List.setIfInBounds_toArray, List.set_cons_zero, List.set_cons_succ, i64_w, i32_w]
                                          rfl
                                        refine done_ (done_of HT_.out (by kernel_rfl)) ?_
                                        try go_wp2_with (first | ((with_reducible refine gate_dst (N := 96) rfl ?_); refine Kd.R_lit k39 _ 39 ?hg (N := 96) ?hd (xs := ([] : List (S39))) (inner := []) (ok := fun _ => True) (okp := fun _ => True) ?hr ?hp (fun _ hk => hk) trivial (Below.refl _ _) (Nat.le_refl _) (by simp) ?_; (case hd => rfl); (case hg => rfl); (case hr => first | (go_simp; done) | (go_simp; rfl)); (case hp => exact (Reps.none _ _)); intro v206 w70 ho71 hb hg_ hnew_; clear hg_ hnew_; (first | rw [← Ny205.out] at ho71 | (simp only [Int.reduceToNat] at ho71; rw [← Ny205.out] at ho71)); have n0_ := Aside0.mk (Kd.R_elder' (by (with_reducible repeat (first | apply Kd.R_alloc | apply Kd.R_drewN | apply Kd.R_drew)); exact HO_3.out) (Kd.R_base ho71) hb); have n1_ := Aside0.mk (Kd.R_elder' (by (with_reducible repeat (first | apply Kd.R_alloc | apply Kd.R_drewN | apply Kd.R_drew)); exact HO_8.out) (Kd.R_base ho71) hb); have n2_ := Aside0.mk (Kd.R_lower (Kd.R_new' (Kd.R_new' ho71 (Kd.R_lt (by (with_reducible repeat (first | apply Kd.R_alloc | apply Kd.R_drewN | apply Kd.R_drew)); exact HO_3.out))) (Kd.R_lt (by (with_reducible repeat (first | apply Kd.R_alloc | apply Kd.R_drewN | apply Kd.R_drew)); exact HO_8.out))) (below_size (by repeat (first | (with_reducible first | exact HB.out | apply below_alloc | apply pw_below_drewN | apply below_drew1) | exact HB.out)))); have n3_ := Aside0.mk (below_step (by repeat (first | (with_reducible first | exact HB.out | apply below_alloc | apply pw_below_drewN | apply below_drew1) | exact HB.out)) hb); clear HO_3; clear HO_8; clear HB; have HO_3 := n0_; have HO_8 := n1_; have HO207 := n2_; have HB := n3_; clear n0_ n1_ n2_ n3_; clear hb ho71; have q72 : (x10_3 : Int) ≤ ((x8_2.length : Int) : Int) := of_decide_eq_true (by first | (with_reducible assumption) | assumption); obtain ⟨i072, hi072, _, hsz72, _⟩ := info_parts info39; have hroom72 : x8_2.length ≤ co50 := (Kd.R_reads' HO_8.out).2.1; have hC72 : Kd.C k39 _ (some ad203) x8_2.length x8_2 := (Kd.R_reads' HO_8.out).2.2; have hcut72 := cut_to (P := Try.prog) 22 39 .i64 Try.underlying22 hi072 (some ad203) x8_2.length co50 x10_3 (of_decide_eq_true (by first | (with_reducible assumption) | assumption)) q72 hroom72; have hr72 := Kd.C_take (m := (x10_3 : Int).toNat) hC72 (by omega); have hy72 : y208.length = (x10_3 : Int).toNat := (by rw [Ny208.out, List.length_take]; omega); rw [← Ny208.out] at hr72; rw [← hy72] at hcut72; have HR211 := Aside0.mk hr72; have HC211 := Aside0.mk (show y208.length ≤ co50 from by omega); clear hr72 hC72 hroom72 hi072 hsz72; have KY72 := Aside0.mk hy72; clear hy72; have KL72 := Aside0.mk (show (x10_3 : Int).toNat ≤ x8_2.length from by omega); replace q72 := eq_true q72) | ((with_reducible refine gate_builtin (b := .append) (xs := #[.tmp 96, .tmp 99]) rfl ?_); at_builtin; refine Kd.R_append_rows k39 (w0 := w) w.heap.size rfl (.tmp 96) (.tmp 99) 22 39 (.agg #[(.string ⟨#[]⟩), (.string ⟨#[]⟩), (.string ⟨#[]⟩), (.int .i64 0), (.int .i64 0)]) 64 rfl Try.underlying22 info39 rfl (by decide) (by omega) v206 y205 y208 _ _ _ (fun k_ => some k_ ≠ (.slice (some ad202) x3_1.length co49 : Value).ownBlock ∧ some k_ ≠ (.slice (some ad203) x8_2.length co50 : Value).ownBlock) (fun _ => False) rfl rfl ?aO ?aR (fun _ _ h => h) (fun _ h => h.elim) ?aF ?aB ?aS ?aL ?_; (case aR => repeat (first | exact (by repeat (first | (with_reducible exact HR211.out) | (with_reducible refine Kd.C_alloc ?_ _) | (with_reducible refine Kd.C_drewN ?_ _) | (with_reducible refine Kd.C_drew ?_) | exact HR211.out)) | (with_reducible refine Kd.C_alloc ?_ _) | (with_reducible refine Kd.C_drewN ?_ _) | (with_reducible refine Kd.C_drew ?_))); (case aB => exact (by repeat (first | (with_reducible first | exact HB.out | apply below_alloc | apply pw_below_drewN | apply below_drew1) | exact HB.out))); (case aF => exact (fun k_ hk => ⟨Kd.fresh' (Kd.R_lt (by (with_reducible repeat (first | apply Kd.R_alloc | apply Kd.R_drewN | apply Kd.R_drew)); exact HO_3.out)) k_ hk, Kd.fresh' (Kd.R_lt (by (with_reducible repeat (first | apply Kd.R_alloc | apply Kd.R_drewN | apply Kd.R_drew)); exact HO_8.out)) k_ hk⟩)); (case aO => exact (by (with_reducible repeat (first | apply Kd.R_alloc | apply Kd.R_drewN | apply Kd.R_drew)); exact Kd.R_mono HO207.out (fun _ hk => ⟨hk.1.2, hk.2⟩))); (case aS => exact (below_size (by repeat (first | (with_reducible first | exact HB.out | apply below_alloc | apply pw_below_drewN | apply below_drew1) | exact HB.out)))); (case aL => have := LMc63.out; omega); intro v213 w73 ho hb hg hat; rw [← Ny212.out] at ho; have n0_ := Aside0.mk (Kd.R_after (ok := (fun k_ => some k_ ≠ (.slice (some ad203) x8_2.length co50 : Value).ownBlock)) (by (with_reducible repeat (first | apply Kd.R_alloc | apply Kd.R_drewN | apply Kd.R_drew)); exact HO_3.out) hg hat); have n1_ := Aside0.mk (Kd.R_after (ok := (fun k_ => some k_ ≠ (.slice (some ad202) x3_1.length co49 : Value).ownBlock)) (by (with_reducible repeat (first | apply Kd.R_alloc | apply Kd.R_drewN | apply Kd.R_drew)); exact HO_8.out) hg hat); have n2_ := Aside0.mk (hb); have n3_ := Aside0.mk ((show Kd.C k39 w73 (some ad203) y208.length y208 from by rw [Ny208.out]; exact Kd.C_take (m := (x10_3 : Int).toNat) ((Kd.R_reads' (Kd.R_after (ok := (fun k_ => some k_ ≠ (.slice (some ad202) x3_1.length co49 : Value).ownBlock)) (by (with_reducible repeat (first | apply Kd.R_alloc | apply Kd.R_drewN | apply Kd.R_drew)); exact HO_8.out) hg hat)).2.2) KL72.out)); have n4_ := Aside0.mk (ho); clear HO_3; clear HO_8; clear HB; clear HR211; clear HO207; have HO_3 := n0_; have HO_8 := n1_; have HB := n2_; have HR211 := n3_; have HO214 := n4_; clear n0_ n1_ n2_ n3_ n4_; clear ho hb hg hat; have p215 : 0 ≤ (x9_2 : Int) := of_decide_eq_true (by first | (with_reducible assumption) | assumption); have q215 : x9_2 < (x3_1.length : Int) := of_decide_eq_true (by first | (with_reducible assumption) | assumption); obtain ⟨ad215, e215, hx215_0, hx215_1, hx215_2, hx215_3, hx215_4⟩ := at_T39 (Kd.R_reads' HO_3.out).2.2 x9_2 p215 q215; obtain rfl : ad202 = ad215 := (by injection e215); replace p215 := eq_true p215; replace q215 := eq_true q215) | ((with_reducible refine gate_builtin (b := .append) (xs := #[.tmp 101, .tmp 106]) rfl ?_); at_builtin; refine Kd.R_append k39 (w0 := w) w.heap.size rfl (.tmp 101) (.tmp 106) 22 39 (.agg #[(.string ⟨#[]⟩), (.string ⟨#[]⟩), (.string ⟨#[]⟩), (.int .i64 0), (.int .i64 0)]) 64 rfl Try.underlying22 info39 rfl (by decide) (by omega) v213 y212 (⟨(⟨(rd_T39 x3_1 x9_2).f0.f0, (rd_T39 x3_1 x9_2).f0.f1, (rd_T39 x3_1 x9_2).f0.f2⟩ : S37), (rd_T39 x3_1 x9_2).f1, (rd_T39 x3_1 x9_2).f2⟩ : S39) [.string ((rd_T39 x3_1 x9_2).f0.f0), .string ((rd_T39 x3_1 x9_2).f0.f1), .string ((rd_T39 x3_1 x9_2).f0.f2), .int .i64 ((rd_T39 x3_1 x9_2).f1), .int .i64 ((rd_T39 x3_1 x9_2).f2)] (fun k_ => some k_ ≠ (.slice (some ad202) x3_1.length co49 : Value).ownBlock ∧ some k_ ≠ (.slice (some ad203) x8_2.length co50 : Value).ownBlock) (fun _ => False) rfl rfl ?aP (fun _ hk => hk.elim) ?aF ?aO ?aB ?aS ?aL ?_; (case aP => exact k39_mkM _ _ _ (⟨(⟨(rd_T39 x3_1 x9_2).f0.f0, (rd_T39 x3_1 x9_2).f0.f1, (rd_T39 x3_1 x9_2).f0.f2⟩ : S37), (rd_T39 x3_1 x9_2).f1, (rd_T39 x3_1 x9_2).f2⟩ : S39)); (case aB => exact (by repeat (first | (with_reducible first | exact HB.out | apply below_alloc | apply pw_below_drewN | apply below_drew1) | exact HB.out))); (case aF => exact (fun k_ hk => ⟨Kd.fresh' (Kd.R_lt (by (with_reducible repeat (first | apply Kd.R_alloc | apply Kd.R_drewN | apply Kd.R_drew)); exact HO_3.out)) k_ hk, Kd.fresh' (Kd.R_lt (by (with_reducible repeat (first | apply Kd.R_alloc | apply Kd.R_drewN | apply Kd.R_drew)); exact HO_8.out)) k_ hk⟩)); (case aO => exact (by (with_reducible repeat (first | apply Kd.R_alloc | apply Kd.R_drewN | apply Kd.R_drew)); exact HO214.out)); (case aS => exact (below_size (by repeat (first | (with_reducible first | exact HB.out | apply below_alloc | apply pw_below_drewN | apply below_drew1) | exact HB.out)))); (case aL => have := LMc64.out; omega); intro v217 w74 ho hb hg hat; rw [← Ny216.out] at ho; have n0_ := Aside0.mk (Kd.R_after (ok := (fun k_ => some k_ ≠ (.slice (some ad203) x8_2.length co50 : Value).ownBlock)) (by (with_reducible repeat (first | apply Kd.R_alloc | apply Kd.R_drewN | apply Kd.R_drew)); exact HO_3.out) hg hat); have n1_ := Aside0.mk (Kd.R_after (ok := (fun k_ => some k_ ≠ (.slice (some ad202) x3_1.length co49 : Value).ownBlock)) (by (with_reducible repeat (first | apply Kd.R_alloc | apply Kd.R_drewN | apply Kd.R_drew)); exact HO_8.out) hg hat); have n2_ := Aside0.mk (hb); have n3_ := Aside0.mk ((show Kd.C k39 w74 (some ad203) y208.length y208 from by rw [Ny208.out]; exact Kd.C_take (m := (x10_3 : Int).toNat) ((Kd.R_reads' (Kd.R_after (ok := (fun k_ => some k_ ≠ (.slice (some ad202) x3_1.length co49 : Value).ownBlock)) (by (with_reducible repeat (first | apply Kd.R_alloc | apply Kd.R_drewN | apply Kd.R_drew)); exact HO_8.out) hg hat)).2.2) KL72.out)); have n4_ := Aside0.mk (ho); clear HO_3; clear HO_8; clear HB; clear HR211; clear HO214; have HO_3 := n0_; have HO_8 := n1_; have HB := n2_; have HR211 := n3_; have HO218 := n4_; clear n0_ n1_ n2_ n3_ n4_; clear ho hb hg hat; have q75 : (x10_3 : Int) ≤ ((x8_2.length : Int) : Int) := of_decide_eq_true (by first | (with_reducible assumption) | assumption); obtain ⟨i075, hi075, _, hsz75, _⟩ := info_parts info39; have hroom75 : x8_2.length ≤ co50 := (Kd.R_reads' HO_8.out).2.1; have hC75 : Kd.C k39 _ (some ad203) x8_2.length x8_2 := (Kd.R_reads' HO_8.out).2.2; have q075 : (0 : Int) ≤ (x10_3 : Int) := of_decide_eq_true (by first | (with_reducible assumption) | assumption); have hcut75 := cut_from (P := Try.prog) 22 39 .i64 Try.underlying22 hi075 5 hsz75 (some ad203) x8_2.length co50 x10_3 q075 q75; have hr75 := Kd.C_drop (m := (x10_3 : Int).toNat) (c := co50) hC75 (by omega) hroom75; obtain ⟨A75, hA75⟩ : ∃ A1, A1 = (if co50 = (x10_3 : Int).toNat then (some ad203) else ((some ad203) : Option Addr).map (·.add ((x10_3 : Int).toNat * 5))) := ⟨_, rfl⟩; obtain ⟨c75, hc75⟩ : ∃ c1, c1 = co50 - (x10_3 : Int).toNat := ⟨_, rfl⟩; have hy75 : y219.length = x8_2.length - (x10_3 : Int).toNat := (by rw [Ny219.out, List.length_drop] <;> omega); rw [show (x8_2).drop (x10_3 : Int).toNat = y219 from Ny219.out.symm] at hr75; replace hr75 : Kd.C k39 _ A75 y219.length y219 := (by rw [hA75]; exact hr75); rw [← hy75, ← hA75, ← hc75] at hcut75; have HR222 := Aside0.mk hr75; have HC222 := Aside0.mk (show y219.length ≤ c75 from by rw [hy75, hc75]; exact Nat.sub_le_sub_right hroom75 _); clear hr75 hC75 hroom75 hi075 hsz75 hc75; have KY75 := Aside0.mk hy75; have KA75 := Aside0.mk hA75; clear hy75 hA75; have KL75 := Aside0.mk (show (x10_3 : Int).toNat ≤ x8_2.length from by omega); replace q75 := eq_true q75) | ((with_reducible refine gate_builtin (b := .append) (xs := #[.tmp 108, .tmp 111]) rfl ?_); at_builtin; refine Kd.R_append_rows k39 (w0 := w) w.heap.size rfl (.tmp 108) (.tmp 111) 22 39 (.agg #[(.string ⟨#[]⟩), (.string ⟨#[]⟩), (.string ⟨#[]⟩), (.int .i64 0), (.int .i64 0)]) 64 rfl Try.underlying22 info39 rfl (by decide) (by omega) v217 y216 y219 _ _ _ (fun k_ => some k_ ≠ (.slice (some ad202) x3_1.length co49 : Value).ownBlock ∧ some k_ ≠ (.slice (some ad203) x8_2.length co50 : Value).ownBlock) (fun _ => False) rfl rfl ?aO ?aR (fun _ _ h => h) (fun _ h => h.elim) ?aF ?aB ?aS ?aL ?_; (case aR => repeat (first | exact (by repeat (first | (with_reducible exact HR222.out) | (with_reducible refine Kd.C_alloc ?_ _) | (with_reducible refine Kd.C_drewN ?_ _) | (with_reducible refine Kd.C_drew ?_) | exact HR222.out)) | (with_reducible refine Kd.C_alloc ?_ _) | (with_reducible refine Kd.C_drewN ?_ _) | (with_reducible refine Kd.C_drew ?_))); (case aB => exact (by repeat (first | (with_reducible first | exact HB.out | apply below_alloc | apply pw_below_drewN | apply below_drew1) | exact HB.out))); (case aF => exact (fun k_ hk => ⟨Kd.fresh' (Kd.R_lt (by (with_reducible repeat (first | apply Kd.R_alloc | apply Kd.R_drewN | apply Kd.R_drew)); exact HO_3.out)) k_ hk, Kd.fresh' (Kd.R_lt (by (with_reducible repeat (first | apply Kd.R_alloc | apply Kd.R_drewN | apply Kd.R_drew)); exact HO_8.out)) k_ hk⟩)); (case aO => exact (by (with_reducible repeat (first | apply Kd.R_alloc | apply Kd.R_drewN | apply Kd.R_drew)); exact HO218.out)); (case aS => exact (below_size (by repeat (first | (with_reducible first | exact HB.out | apply below_alloc | apply pw_below_drewN | apply below_drew1) | exact HB.out)))); (case aL => have := LMc67.out; omega); intro v224 w76 ho hb hg hat; rw [← Ny223.out] at ho; have n0_ := Aside0.mk (Kd.R_after (ok := (fun k_ => some k_ ≠ (.slice (some ad203) x8_2.length co50 : Value).ownBlock)) (by (with_reducible repeat (first | apply Kd.R_alloc | apply Kd.R_drewN | apply Kd.R_drew)); exact HO_3.out) hg hat); have n1_ := Aside0.mk (Kd.R_after (ok := (fun k_ => some k_ ≠ (.slice (some ad202) x3_1.length co49 : Value).ownBlock)) (by (with_reducible repeat (first | apply Kd.R_alloc | apply Kd.R_drewN | apply Kd.R_drew)); exact HO_8.out) hg hat); have n2_ := Aside0.mk (hb); have n3_ := Aside0.mk ((show Kd.C k39 w76 (some ad203) y208.length y208 from by rw [Ny208.out]; exact Kd.C_take (m := (x10_3 : Int).toNat) ((Kd.R_reads' (Kd.R_after (ok := (fun k_ => some k_ ≠ (.slice (some ad202) x3_1.length co49 : Value).ownBlock)) (by (with_reducible repeat (first | apply Kd.R_alloc | apply Kd.R_drewN | apply Kd.R_drew)); exact HO_8.out) hg hat)).2.2) KL72.out)); have n4_ := Aside0.mk ((show Kd.C k39 w76 A75 y219.length y219 from by rw [Ny219.out, KA75.out]; exact Kd.C_drop (m := (x10_3 : Int).toNat) (c := co50) ((Kd.R_reads' (Kd.R_after (ok := (fun k_ => some k_ ≠ (.slice (some ad202) x3_1.length co49 : Value).ownBlock)) (by (with_reducible repeat (first | apply Kd.R_alloc | apply Kd.R_drewN | apply Kd.R_drew)); exact HO_8.out) hg hat)).2.2) KL75.out ((Kd.R_reads' (Kd.R_after (ok := (fun k_ => some k_ ≠ (.slice (some ad202) x3_1.length co49 : Value).ownBlock)) (by (with_reducible repeat (first | apply Kd.R_alloc | apply Kd.R_drewN | apply Kd.R_drew)); exact HO_8.out) hg hat)).2.1))); have n5_ := Aside0.mk (ho); clear HO_3; clear HO_8; clear HB; clear HR211; clear HR222; clear HO218; have HO_3 := n0_; have HO_8 := n1_; have HB := n2_; have HR211 := n3_; have HR222 := n4_; have HO225 := n5_; clear n0_ n1_ n2_ n3_ n4_ n5_; clear ho hb hg hat))
                                        go_roundg k3
                                        case measure => have := HK1.out; have := HK2.out; have := HK3.out; omega
                                        case rel => exact ⟨(y223), (wrap64 (x9_2 + 1)), (by first | rfl | (simp; done) | (simp [*]; done)), H', ⟨by have := HK1.out; have := HK2.out; have := HK3.out; omega⟩, ⟨by (with_reducible repeat (first | apply Kd.R_alloc | apply Kd.R_drewN | apply Kd.R_drew)); exact Kd.R_mono HO_3.out (fun _ hk => hk.2)⟩, ⟨by (with_reducible repeat (first | apply Kd.R_alloc | apply Kd.R_drewN | apply Kd.R_drew)); exact Kd.R_mono HO225.out (fun _ hk => hk.1)⟩, ⟨by repeat (first | (with_reducible first | exact HB.out | apply below_alloc | apply pw_below_drewN | apply below_drew1) | exact HB.out)⟩⟩
                                      · rw [if_neg c67] at H
                                        exact absurd H (by simp)
                                    · rw [if_neg c64] at H
                                      exact absurd H (by simp)
                                  · rw [if_neg c63] at H
                                    exact absurd H (by simp)
                                · rw [if_neg c62] at H
                                  exact absurd H (by simp)
                              · rw [if_neg c61] at H
                                exact absurd H (by simp)
                          · rw [if_neg c56] at H
                            exact absurd H (by simp)
                        · rw [if_neg c55] at H
                          exact absurd H (by simp)
                      · rw [if_neg c53] at H
                        exact absurd H (by simp)
                    · rw [if_neg c52] at H
                      exact absurd H (by simp)
                  · rw [if_neg c51] at H
                    have c51b0 : decide (0 < x10_3) = false := decide_eq_false c51
                    clear c51
                    obtain ⟨y226, hy226⟩ : ∃ y_ : List (S39), y_ = (([] : List (S39))) := ⟨_, rfl⟩
                    replace H : (if 0 ≤ x10_3 then (if x10_3 ≤ (x8_2.length : Int) then ((some (x8_2.take (x10_3 : Int).toNat : List (S39))).bind fun y229 => (if y226.length + y229.length < 2199023255552 then ((some (y226 ++ y229 : List (S39))).bind fun y233 => (if 0 ≤ x9_2 then (if x9_2 < (x3_1.length : Int) then (if y233.length < 2199023255552 then ((some (y233 ++ [(⟨(⟨(rd_T39 x3_1 x9_2).f0.f0, (rd_T39 x3_1 x9_2).f0.f1, (rd_T39 x3_1 x9_2).f0.f2⟩ : S37), (rd_T39 x3_1 x9_2).f1, (rd_T39 x3_1 x9_2).f2⟩ : S39)] : List (S39))).bind fun y237 => ((some (x8_2.drop (x10_3 : Int).toNat : List (S39))).bind fun y240 => (if y237.length + y240.length < 2199023255552 then (porterref22_Rows.l2 k3 x3_1 (y237 ++ y240) (wrap64 (x9_2 + 1))) else (none)))) else (none)) else (none)) else (none))) else (none))) else (none)) else (none)) = some r := by first | (rw [hy226]; with_reducible exact H) | (have H2_ := (Option.bind_some _ _).symm.trans H; rw [hy226]; with_reducible exact H2_) | (have H2_ := (Option.bind_some _ _).symm.trans H; with_reducible exact H2_) | with_reducible exact H | (rw [hy226]; exact H) | exact H
                    have Ny226 := Aside0.mk hy226
                    clear hy226
                    by_cases c77 : 0 ≤ x10_3
                    · rw [if_pos c77] at H
                      have c77b0 := eq_true c77
                      have c77b1 : decide (0 ≤ x10_3) = true := decide_eq_true c77
                      clear c77
                      by_cases c78 : x10_3 ≤ (x8_2.length : Int)
                      · rw [if_pos c78] at H
                        have c78b0 := eq_true c78
                        have c78b1 : decide (x10_3 ≤ (x8_2.length : Int)) = true := decide_eq_true c78
                        clear c78
                        obtain ⟨y229, hy229⟩ : ∃ y_ : List (S39), y_ = (x8_2.take (x10_3 : Int).toNat) := ⟨_, rfl⟩
                        replace H : (if y226.length + y229.length < 2199023255552 then ((some (y226 ++ y229 : List (S39))).bind fun y233 => (if 0 ≤ x9_2 then (if x9_2 < (x3_1.length : Int) then (if y233.length < 2199023255552 then ((some (y233 ++ [(⟨(⟨(rd_T39 x3_1 x9_2).f0.f0, (rd_T39 x3_1 x9_2).f0.f1, (rd_T39 x3_1 x9_2).f0.f2⟩ : S37), (rd_T39 x3_1 x9_2).f1, (rd_T39 x3_1 x9_2).f2⟩ : S39)] : List (S39))).bind fun y237 => ((some (x8_2.drop (x10_3 : Int).toNat : List (S39))).bind fun y240 => (if y237.length + y240.length < 2199023255552 then (porterref22_Rows.l2 k3 x3_1 (y237 ++ y240) (wrap64 (x9_2 + 1))) else (none)))) else (none)) else (none)) else (none))) else (none)) = some r := by first | (rw [hy229]; with_reducible exact H) | (have H2_ := (Option.bind_some _ _).symm.trans H; rw [hy229]; with_reducible exact H2_) | (have H2_ := (Option.bind_some _ _).symm.trans H; with_reducible exact H2_) | with_reducible exact H | (rw [hy229]; exact H) | exact H
                        have Ny229 := Aside0.mk hy229
                        clear hy229
                        by_cases c79 : y226.length + y229.length < 2199023255552
                        · rw [if_pos c79] at H
                          have LMc79 := Aside0.mk c79
                          clear c79
                          obtain ⟨y233, hy233⟩ : ∃ y_ : List (S39), y_ = (y226 ++ y229) := ⟨_, rfl⟩
                          replace H : (if 0 ≤ x9_2 then (if x9_2 < (x3_1.length : Int) then (if y233.length < 2199023255552 then ((some (y233 ++ [(⟨(⟨(rd_T39 x3_1 x9_2).f0.f0, (rd_T39 x3_1 x9_2).f0.f1, (rd_T39 x3_1 x9_2).f0.f2⟩ : S37), (rd_T39 x3_1 x9_2).f1, (rd_T39 x3_1 x9_2).f2⟩ : S39)] : List (S39))).bind fun y237 => ((some (x8_2.drop (x10_3 : Int).toNat : List (S39))).bind fun y240 => (if y237.length + y240.length < 2199023255552 then (porterref22_Rows.l2 k3 x3_1 (y237 ++ y240) (wrap64 (x9_2 + 1))) else (none)))) else (none)) else (none)) else (none)) = some r := by first | (rw [hy233]; with_reducible exact H) | (have H2_ := (Option.bind_some _ _).symm.trans H; rw [hy233]; with_reducible exact H2_) | (have H2_ := (Option.bind_some _ _).symm.trans H; with_reducible exact H2_) | with_reducible exact H | (rw [hy233]; exact H) | exact H
                          have Ny233 := Aside0.mk hy233
                          clear hy233
                          by_cases c80 : 0 ≤ x9_2
                          · rw [if_pos c80] at H
                            have c80b0 : decide (0 ≤ x9_2) = true := decide_eq_true c80
                            clear c80
                            by_cases c81 : x9_2 < (x3_1.length : Int)
                            · rw [if_pos c81] at H
                              have c81b0 : decide (x9_2 < (x3_1.length : Int)) = true := decide_eq_true c81
                              clear c81
                              by_cases c82 : y233.length < 2199023255552
                              · rw [if_pos c82] at H
                                have LMc82 := Aside0.mk c82
                                clear c82
                                obtain ⟨y237, hy237⟩ : ∃ y_ : List (S39), y_ = (y233 ++ [(⟨(⟨(rd_T39 x3_1 x9_2).f0.f0, (rd_T39 x3_1 x9_2).f0.f1, (rd_T39 x3_1 x9_2).f0.f2⟩ : S37), (rd_T39 x3_1 x9_2).f1, (rd_T39 x3_1 x9_2).f2⟩ : S39)]) := ⟨_, rfl⟩
                                replace H : ((some (x8_2.drop (x10_3 : Int).toNat : List (S39))).bind fun y240 => (if y237.length + y240.length < 2199023255552 then (porterref22_Rows.l2 k3 x3_1 (y237 ++ y240) (wrap64 (x9_2 + 1))) else (none))) = some r := by first | (rw [hy237]; with_reducible exact H) | (have H2_ := (Option.bind_some _ _).symm.trans H; rw [hy237]; with_reducible exact H2_) | (have H2_ := (Option.bind_some _ _).symm.trans H; with_reducible exact H2_) | with_reducible exact H | (rw [hy237]; exact H) | exact H
                                have Ny237 := Aside0.mk hy237
                                clear hy237
                                have c83b0 := eq_true (of_decide_eq_true (by first | (with_reducible assumption) | assumption) : 0 ≤ x10_3)
                                have c84b0 := eq_true (of_decide_eq_true (by first | (with_reducible assumption) | assumption) : x10_3 ≤ (x8_2.length : Int))
                                obtain ⟨y240, hy240⟩ : ∃ y_ : List (S39), y_ = (x8_2.drop (x10_3 : Int).toNat) := ⟨_, rfl⟩
                                replace H : (if y237.length + y240.length < 2199023255552 then (porterref22_Rows.l2 k3 x3_1 (y237 ++ y240) (wrap64 (x9_2 + 1))) else (none)) = some r := by first | (rw [hy240]; with_reducible exact H) | (have H2_ := (Option.bind_some _ _).symm.trans H; rw [hy240]; with_reducible exact H2_) | (have H2_ := (Option.bind_some _ _).symm.trans H; with_reducible exact H2_) | with_reducible exact H | (rw [hy240]; exact H) | exact H
                                have Ny240 := Aside0.mk hy240
                                clear hy240
                                by_cases c85 : y237.length + y240.length < 2199023255552
                                · rw [if_pos c85] at H
                                  have LMc85 := Aside0.mk c85
                                  clear c85
                                  obtain ⟨y244, hy244⟩ : ∃ y_ : List (S39), y_ = (y237 ++ y240) := ⟨_, rfl⟩
                                  replace H : (porterref22_Rows.l2 k3 x3_1 y244 (wrap64 (x9_2 + 1))) = some r := by first | (rw [hy244]; with_reducible exact H) | (have H2_ := (Option.bind_some _ _).symm.trans H; rw [hy244]; with_reducible exact H2_) | (have H2_ := (Option.bind_some _ _).symm.trans H; with_reducible exact H2_) | with_reducible exact H | (rw [hy244]; exact H) | exact H
                                  have Ny244 := Aside0.mk hy244
                                  clear hy244
                                  have H' := Aside0.mk H
                                  clear H
                                  try go_wp2
                                  have n0_ := Aside0.mk (Kd.R_drew HO_3.out)
                                  have n1_ := Aside0.mk (Kd.R_drew HO_8.out)
                                  have n2_ := Aside0.mk (below_drew1 HB.out)
                                  clear HO_3
                                  clear HO_8
                                  clear HB
                                  have HO_3 := n0_
                                  have HO_8 := n1_
                                  have HB := n2_
                                  clear n0_ n1_ n2_
                                  refine start_ (n := 14) (S := fun w' => True) (ds := []) #[false, false, false, false, false, false, false, false, false, false, false, false, false, false] (by kernel_rfl) rfl rfl trivial (fun hHeld => ?_); refine with_tabW porterref22_Rows.tab21 porterref22_Rows.bits21 (fun HT_ HW_ => ?_)
                                  generalize wr.drew = w86 at HO_3 HO_8 HB hHeld ⊢
                                  refine pure_ (i := 0) (N := some 80) (v := ?_) (a' := ?_) #[true, false, false, false, false, false, false, false, false, false, false, false, false, false] rfl rfl (any_of HT_.out (by kernel_rfl)) (fun _ _ _ h => h) (Or.inl ⟨by rfl, ?_⟩) ?_ ?_
                                  rotate_left
                                  · intro w'
                                    go_simp
                                    with_reducible rfl
                                  rotate_left
                                  · simp only [Act.put, List.setIfInBounds_toArray, List.set_cons_zero, List.set_cons_succ, i64_w, i32_w]
                                    rfl
                                  refine pure_ (i := 1) (N := some 81) (v := ?_) (a' := ?_) #[true, true, false, false, false, false, false, false, false, false, false, false, false, false] rfl rfl (any_of HT_.out (by kernel_rfl)) (fun _ _ _ h => h) (Or.inl ⟨by rfl, ?_⟩) ?_ ?_
                                  rotate_left
                                  · intro w'
                                    go_simp
                                    with_reducible rfl
                                  rotate_left
                                  · simp only [Act.put, List.setIfInBounds_toArray, List.set_cons_zero, List.set_cons_succ, i64_w, i32_w]
                                    rfl
                                  refine pure_ (i := 2) (N := some 82) (v := ?_) (a' := ?_) #[true, true, true, false, false, false, false, false, false, false, false, false, false, false] rfl rfl (any_of HT_.out (by kernel_rfl)) (fun _ _ _ h => h) (Or.inl ⟨by rfl, ?_⟩) ?_ ?_
                                  rotate_left
                                  · intro w'
                                    go_simp
                                    with_reducible rfl
                                  rotate_left
                                  · simp only [Act.put, List.setIfInBounds_toArray, List.set_cons_zero, List.set_cons_succ, i64_w, i32_w]
                                    rfl
                                  refine pure_ (i := 3) (N := some 83) (v := undef) (a' := ?_) #[true, true, true, true, false, false, false, false, false, false, false, false, false, false] rfl rfl (any_of HT_.out (by kernel_rfl)) (fun _ _ _ h => h) (Or.inr ⟨by rfl, rfl⟩) ?_ ?_
                                  rotate_left
                                  · simp only [Act.put, List.setIfInBounds_toArray, List.set_cons_zero, List.set_cons_succ, i64_w, i32_w]
                                    rfl
                                  refine pure_ (i := 4) (N := some 84) (v := undef) (a' := ?_) #[true, true, true, true, true, false, false, false, false, false, false, false, false, false] rfl rfl (any_of HT_.out (by kernel_rfl)) (fun _ _ _ h => h) (Or.inr ⟨by rfl, rfl⟩) ?_ ?_
                                  rotate_left
                                  · simp only [Act.put, List.setIfInBounds_toArray, List.set_cons_zero, List.set_cons_succ, i64_w, i32_w]
                                    rfl
                                  refine pure_ (i := 5) (N := some 85) (v := undef) (a' := ?_) #[true, true, true, true, true, true, false, false, false, false, false, false, false, false] rfl rfl (any_of HT_.out (by kernel_rfl)) (fun _ _ _ h => h) (Or.inr ⟨by rfl, rfl⟩) ?_ ?_
                                  rotate_left
                                  · simp only [Act.put, List.setIfInBounds_toArray, List.set_cons_zero, List.set_cons_succ, i64_w, i32_w]
                                    rfl
                                  refine pure_ (i := 6) (N := some 86) (v := undef) (a' := ?_) #[true, true, true, true, true, true, true, false, false, false, false, false, false, false] rfl rfl (any_of HT_.out (by kernel_rfl)) (fun _ _ _ h => h) (Or.inr ⟨by rfl, rfl⟩) ?_ ?_
                                  rotate_left
                                  · simp only [Act.put, List.setIfInBounds_toArray, List.set_cons_zero, List.set_cons_succ, i64_w, i32_w]
                                    rfl
                                  refine pure_ (i := 7) (N := some 87) (v := undef) (a' := ?_) #[true, true, true, true, true, true, true, true, false, false, false, false, false, false] rfl rfl (any_of HT_.out (by kernel_rfl)) (fun _ _ _ h => h) (Or.inr ⟨by rfl, rfl⟩) ?_ ?_
                                  rotate_left
                                  · simp only [Act.put, List.setIfInBounds_toArray, List.set_cons_zero, List.set_cons_succ, i64_w, i32_w]
                                    rfl
                                  refine pure_ (i := 8) (N := some 88) (v := undef) (a' := ?_) #[true, true, true, true, true, true, true, true, true, false, false, false, false, false] rfl rfl (any_of HT_.out (by kernel_rfl)) (fun _ _ _ h => h) (Or.inr ⟨by rfl, rfl⟩) ?_ ?_
                                  rotate_left
                                  · simp only [Act.put, List.setIfInBounds_toArray, List.set_cons_zero, List.set_cons_succ, i64_w, i32_w]
                                    rfl
                                  refine pure_ (i := 9) (N := some 89) (v := undef) (a' := ?_) #[true, true, true, true, true, true, true, true, true, true, false, false, false, false] rfl rfl (any_of HT_.out (by kernel_rfl)) (fun _ _ _ h => h) (Or.inr ⟨by rfl, rfl⟩) ?_ ?_
                                  rotate_left
                                  · simp only [Act.put, List.setIfInBounds_toArray, List.set_cons_zero, List.set_cons_succ, i64_w, i32_w]
                                    rfl
                                  refine pure_ (i := 10) (N := some 90) (v := undef) (a' := ?_) #[true, true, true, true, true, true, true, true, true, true, true, false, false, false] rfl rfl (any_of HT_.out (by kernel_rfl)) (fun _ _ _ h => h) (Or.inr ⟨by rfl, rfl⟩) ?_ ?_
                                  rotate_left
                                  · simp only [Act.put, List.setIfInBounds_toArray, List.set_cons_zero, List.set_cons_succ, i64_w, i32_w]
                                    rfl
                                  refine pure_ (i := 11) (N := some 91) (v := undef) (a' := ?_) #[true, true, true, true, true, true, true, true, true, true, true, true, false, false] rfl rfl (any_of HT_.out (by kernel_rfl)) (fun _ _ _ h => h) (Or.inr ⟨by rfl, rfl⟩) ?_ ?_
                                  rotate_left
                                  · simp only [Act.put, List.setIfInBounds_toArray, List.set_cons_zero, List.set_cons_succ, i64_w, i32_w]
                                    rfl
                                  refine pure_ (i := 12) (N := some 92) (v := undef) (a' := ?_) #[true, true, true, true, true, true, true, true, true, true, true, true, true, false] rfl rfl (any_of HT_.out (by kernel_rfl)) (fun _ _ _ h => h) (Or.inr ⟨by rfl, rfl⟩) ?_ ?_
                                  rotate_left
                                  · simp only [Act.put, List.setIfInBounds_toArray, List.set_cons_zero, List.set_cons_succ, i64_w, i32_w]
                                    rfl
                                  refine pure_ (i := 13) (N := some 93) (v := ?_) (a' := ?_) #[true, true, true, true, true, true, true, true, true, true, true, true, true, true] rfl rfl (any_of HT_.out (by kernel_rfl)) (fun _ _ _ h => h) (Or.inl ⟨by rfl, ?_⟩) ?_ ?_
                                  rotate_left
                                  · intro w'
                                    go_simp
                                    with_reducible rfl
                                  rotate_left
                                  · simp only [Act.put, List.setIfInBounds_toArray, List.set_cons_zero, List.set_cons_succ, i64_w, i32_w]
                                    rfl
                                  refine done_ (done_of HT_.out (by kernel_rfl)) ?_
                                  try go_wp2_with (first | ((with_reducible refine gate_dst (N := 96) rfl ?_); refine Kd.R_lit k39 _ 39 ?hg (N := 96) ?hd (xs := ([] : List (S39))) (inner := []) (ok := fun _ => True) (okp := fun _ => True) ?hr ?hp (fun _ hk => hk) trivial (Below.refl _ _) (Nat.le_refl _) (by simp) ?_; (case hd => rfl); (case hg => rfl); (case hr => first | (go_simp; done) | (go_simp; rfl)); (case hp => exact (Reps.none _ _)); intro v227 w87 ho88 hb hg_ hnew_; clear hg_ hnew_; (first | rw [← Ny226.out] at ho88 | (simp only [Int.reduceToNat] at ho88; rw [← Ny226.out] at ho88)); have n0_ := Aside0.mk (Kd.R_elder' (by (with_reducible repeat (first | apply Kd.R_alloc | apply Kd.R_drewN | apply Kd.R_drew)); exact HO_3.out) (Kd.R_base ho88) hb); have n1_ := Aside0.mk (Kd.R_elder' (by (with_reducible repeat (first | apply Kd.R_alloc | apply Kd.R_drewN | apply Kd.R_drew)); exact HO_8.out) (Kd.R_base ho88) hb); have n2_ := Aside0.mk (Kd.R_lower (Kd.R_new' (Kd.R_new' ho88 (Kd.R_lt (by (with_reducible repeat (first | apply Kd.R_alloc | apply Kd.R_drewN | apply Kd.R_drew)); exact HO_3.out))) (Kd.R_lt (by (with_reducible repeat (first | apply Kd.R_alloc | apply Kd.R_drewN | apply Kd.R_drew)); exact HO_8.out))) (below_size (by repeat (first | (with_reducible first | exact HB.out | apply below_alloc | apply pw_below_drewN | apply below_drew1) | exact HB.out)))); have n3_ := Aside0.mk (below_step (by repeat (first | (with_reducible first | exact HB.out | apply below_alloc | apply pw_below_drewN | apply below_drew1) | exact HB.out)) hb); clear HO_3; clear HO_8; clear HB; have HO_3 := n0_; have HO_8 := n1_; have HO228 := n2_; have HB := n3_; clear n0_ n1_ n2_ n3_; clear hb ho88; have q89 : (x10_3 : Int) ≤ ((x8_2.length : Int) : Int) := of_decide_eq_true (by first | (with_reducible assumption) | assumption); obtain ⟨i089, hi089, _, hsz89, _⟩ := info_parts info39; have hroom89 : x8_2.length ≤ co50 := (Kd.R_reads' HO_8.out).2.1; have hC89 : Kd.C k39 _ Ao50 x8_2.length x8_2 := (Kd.R_reads' HO_8.out).2.2; have hcut89 := cut_to (P := Try.prog) 22 39 .i64 Try.underlying22 hi089 Ao50 x8_2.length co50 x10_3 (of_decide_eq_true (by first | (with_reducible assumption) | assumption)) q89 hroom89; have hr89 := Kd.C_take (m := (x10_3 : Int).toNat) hC89 (by omega); have hy89 : y229.length = (x10_3 : Int).toNat := (by rw [Ny229.out, List.length_take]; omega); rw [← Ny229.out] at hr89; rw [← hy89] at hcut89; have HR232 := Aside0.mk hr89; have HC232 := Aside0.mk (show y229.length ≤ co50 from by omega); clear hr89 hC89 hroom89 hi089 hsz89; have KY89 := Aside0.mk hy89; clear hy89; have KL89 := Aside0.mk (show (x10_3 : Int).toNat ≤ x8_2.length from by omega); replace q89 := eq_true q89) | ((with_reducible refine gate_builtin (b := .append) (xs := #[.tmp 96, .tmp 99]) rfl ?_); at_builtin; refine Kd.R_append_rows k39 (w0 := w) w.heap.size rfl (.tmp 96) (.tmp 99) 22 39 (.agg #[(.string ⟨#[]⟩), (.string ⟨#[]⟩), (.string ⟨#[]⟩), (.int .i64 0), (.int .i64 0)]) 64 rfl Try.underlying22 info39 rfl (by decide) (by omega) v227 y226 y229 _ _ _ (fun k_ => some k_ ≠ (.slice Ao49 x3_1.length co49 : Value).ownBlock ∧ some k_ ≠ (.slice Ao50 x8_2.length co50 : Value).ownBlock) (fun _ => False) rfl rfl ?aO ?aR (fun _ _ h => h) (fun _ h => h.elim) ?aF ?aB ?aS ?aL ?_; (case aR => repeat (first | exact (by repeat (first | (with_reducible exact HR232.out) | (with_reducible refine Kd.C_alloc ?_ _) | (with_reducible refine Kd.C_drewN ?_ _) | (with_reducible refine Kd.C_drew ?_) | exact HR232.out)) | (with_reducible refine Kd.C_alloc ?_ _) | (with_reducible refine Kd.C_drewN ?_ _) | (with_reducible refine Kd.C_drew ?_))); (case aB => exact (by repeat (first | (with_reducible first | exact HB.out | apply below_alloc | apply pw_below_drewN | apply below_drew1) | exact HB.out))); (case aF => exact (fun k_ hk => ⟨Kd.fresh' (Kd.R_lt (by (with_reducible repeat (first | apply Kd.R_alloc | apply Kd.R_drewN | apply Kd.R_drew)); exact HO_3.out)) k_ hk, Kd.fresh' (Kd.R_lt (by (with_reducible repeat (first | apply Kd.R_alloc | apply Kd.R_drewN | apply Kd.R_drew)); exact HO_8.out)) k_ hk⟩)); (case aO => exact (by (with_reducible repeat (first | apply Kd.R_alloc | apply Kd.R_drewN | apply Kd.R_drew)); exact Kd.R_mono HO228.out (fun _ hk => ⟨hk.1.2, hk.2⟩))); (case aS => exact (below_size (by repeat (first | (with_reducible first | exact HB.out | apply below_alloc | apply pw_below_drewN | apply below_drew1) | exact HB.out)))); (case aL => have := LMc79.out; omega); intro v234 w90 ho hb hg hat; rw [← Ny233.out] at ho; have n0_ := Aside0.mk (Kd.R_after (ok := (fun k_ => some k_ ≠ (.slice Ao50 x8_2.length co50 : Value).ownBlock)) (by (with_reducible repeat (first | apply Kd.R_alloc | apply Kd.R_drewN | apply Kd.R_drew)); exact HO_3.out) hg hat); have n1_ := Aside0.mk (Kd.R_after (ok := (fun k_ => some k_ ≠ (.slice Ao49 x3_1.length co49 : Value).ownBlock)) (by (with_reducible repeat (first | apply Kd.R_alloc | apply Kd.R_drewN | apply Kd.R_drew)); exact HO_8.out) hg hat); have n2_ := Aside0.mk (hb); have n3_ := Aside0.mk ((show Kd.C k39 w90 Ao50 y229.length y229 from by rw [Ny229.out]; exact Kd.C_take (m := (x10_3 : Int).toNat) ((Kd.R_reads' (Kd.R_after (ok := (fun k_ => some k_ ≠ (.slice Ao49 x3_1.length co49 : Value).ownBlock)) (by (with_reducible repeat (first | apply Kd.R_alloc | apply Kd.R_drewN | apply Kd.R_drew)); exact HO_8.out) hg hat)).2.2) KL89.out)); have n4_ := Aside0.mk (ho); clear HO_3; clear HO_8; clear HB; clear HR232; clear HO228; have HO_3 := n0_; have HO_8 := n1_; have HB := n2_; have HR232 := n3_; have HO235 := n4_; clear n0_ n1_ n2_ n3_ n4_; clear ho hb hg hat; have p236 : 0 ≤ (x9_2 : Int) := of_decide_eq_true (by first | (with_reducible assumption) | assumption); have q236 : x9_2 < (x3_1.length : Int) := of_decide_eq_true (by first | (with_reducible assumption) | assumption); obtain ⟨ad236, e236, hx236_0, hx236_1, hx236_2, hx236_3, hx236_4⟩ := at_T39 (Kd.R_reads' HO_3.out).2.2 x9_2 p236 q236; cases e236; replace p236 := eq_true p236; replace q236 := eq_true q236) | ((with_reducible refine gate_builtin (b := .append) (xs := #[.tmp 101, .tmp 106]) rfl ?_); at_builtin; refine Kd.R_append k39 (w0 := w) w.heap.size rfl (.tmp 101) (.tmp 106) 22 39 (.agg #[(.string ⟨#[]⟩), (.string ⟨#[]⟩), (.string ⟨#[]⟩), (.int .i64 0), (.int .i64 0)]) 64 rfl Try.underlying22 info39 rfl (by decide) (by omega) v234 y233 (⟨(⟨(rd_T39 x3_1 x9_2).f0.f0, (rd_T39 x3_1 x9_2).f0.f1, (rd_T39 x3_1 x9_2).f0.f2⟩ : S37), (rd_T39 x3_1 x9_2).f1, (rd_T39 x3_1 x9_2).f2⟩ : S39) [.string ((rd_T39 x3_1 x9_2).f0.f0), .string ((rd_T39 x3_1 x9_2).f0.f1), .string ((rd_T39 x3_1 x9_2).f0.f2), .int .i64 ((rd_T39 x3_1 x9_2).f1), .int .i64 ((rd_T39 x3_1 x9_2).f2)] (fun k_ => some k_ ≠ (.slice (some ad236) x3_1.length co49 : Value).ownBlock ∧ some k_ ≠ (.slice Ao50 x8_2.length co50 : Value).ownBlock) (fun _ => False) rfl rfl ?aP (fun _ hk => hk.elim) ?aF ?aO ?aB ?aS ?aL ?_; (case aP => exact k39_mkM _ _ _ (⟨(⟨(rd_T39 x3_1 x9_2).f0.f0, (rd_T39 x3_1 x9_2).f0.f1, (rd_T39 x3_1 x9_2).f0.f2⟩ : S37), (rd_T39 x3_1 x9_2).f1, (rd_T39 x3_1 x9_2).f2⟩ : S39)); (case aB => exact (by repeat (first | (with_reducible first | exact HB.out | apply below_alloc | apply pw_below_drewN | apply below_drew1) | exact HB.out))); (case aF => exact (fun k_ hk => ⟨Kd.fresh' (Kd.R_lt (by (with_reducible repeat (first | apply Kd.R_alloc | apply Kd.R_drewN | apply Kd.R_drew)); exact HO_3.out)) k_ hk, Kd.fresh' (Kd.R_lt (by (with_reducible repeat (first | apply Kd.R_alloc | apply Kd.R_drewN | apply Kd.R_drew)); exact HO_8.out)) k_ hk⟩)); (case aO => exact (by (with_reducible repeat (first | apply Kd.R_alloc | apply Kd.R_drewN | apply Kd.R_drew)); exact HO235.out)); (case aS => exact (below_size (by repeat (first | (with_reducible first | exact HB.out | apply below_alloc | apply pw_below_drewN | apply below_drew1) | exact HB.out)))); (case aL => have := LMc82.out; omega); intro v238 w91 ho hb hg hat; rw [← Ny237.out] at ho; have n0_ := Aside0.mk (Kd.R_after (ok := (fun k_ => some k_ ≠ (.slice Ao50 x8_2.length co50 : Value).ownBlock)) (by (with_reducible repeat (first | apply Kd.R_alloc | apply Kd.R_drewN | apply Kd.R_drew)); exact HO_3.out) hg hat); have n1_ := Aside0.mk (Kd.R_after (ok := (fun k_ => some k_ ≠ (.slice (some ad236) x3_1.length co49 : Value).ownBlock)) (by (with_reducible repeat (first | apply Kd.R_alloc | apply Kd.R_drewN | apply Kd.R_drew)); exact HO_8.out) hg hat); have n2_ := Aside0.mk (hb); have n3_ := Aside0.mk ((show Kd.C k39 w91 Ao50 y229.length y229 from by rw [Ny229.out]; exact Kd.C_take (m := (x10_3 : Int).toNat) ((Kd.R_reads' (Kd.R_after (ok := (fun k_ => some k_ ≠ (.slice (some ad236) x3_1.length co49 : Value).ownBlock)) (by (with_reducible repeat (first | apply Kd.R_alloc | apply Kd.R_drewN | apply Kd.R_drew)); exact HO_8.out) hg hat)).2.2) KL89.out)); have n4_ := Aside0.mk (ho); clear HO_3; clear HO_8; clear HB; clear HR232; clear HO235; have HO_3 := n0_; have HO_8 := n1_; have HB := n2_; have HR232 := n3_; have HO239 := n4_; clear n0_ n1_ n2_ n3_ n4_; clear ho hb hg hat; have q92 : (x10_3 : Int) ≤ ((x8_2.length : Int) : Int) := of_decide_eq_true (by first | (with_reducible assumption) | assumption); obtain ⟨i092, hi092, _, hsz92, _⟩ := info_parts info39; have hroom92 : x8_2.length ≤ co50 := (Kd.R_reads' HO_8.out).2.1; have hC92 : Kd.C k39 _ Ao50 x8_2.length x8_2 := (Kd.R_reads' HO_8.out).2.2; have q092 : (0 : Int) ≤ (x10_3 : Int) := of_decide_eq_true (by first | (with_reducible assumption) | assumption); have hcut92 := cut_from (P := Try.prog) 22 39 .i64 Try.underlying22 hi092 5 hsz92 Ao50 x8_2.length co50 x10_3 q092 q92; have hr92 := Kd.C_drop (m := (x10_3 : Int).toNat) (c := co50) hC92 (by omega) hroom92; obtain ⟨A92, hA92⟩ : ∃ A1, A1 = (if co50 = (x10_3 : Int).toNat then Ao50 else (Ao50 : Option Addr).map (·.add ((x10_3 : Int).toNat * 5))) := ⟨_, rfl⟩; obtain ⟨c92, hc92⟩ : ∃ c1, c1 = co50 - (x10_3 : Int).toNat := ⟨_, rfl⟩; have hy92 : y240.length = x8_2.length - (x10_3 : Int).toNat := (by rw [Ny240.out, List.length_drop] <;> omega); rw [show (x8_2).drop (x10_3 : Int).toNat = y240 from Ny240.out.symm] at hr92; replace hr92 : Kd.C k39 _ A92 y240.length y240 := (by rw [hA92]; exact hr92); rw [← hy92, ← hA92, ← hc92] at hcut92; have HR243 := Aside0.mk hr92; have HC243 := Aside0.mk (show y240.length ≤ c92 from by rw [hy92, hc92]; exact Nat.sub_le_sub_right hroom92 _); clear hr92 hC92 hroom92 hi092 hsz92 hc92; have KY92 := Aside0.mk hy92; have KA92 := Aside0.mk hA92; clear hy92 hA92; have KL92 := Aside0.mk (show (x10_3 : Int).toNat ≤ x8_2.length from by omega); replace q92 := eq_true q92) | ((with_reducible refine gate_builtin (b := .append) (xs := #[.tmp 108, .tmp 111]) rfl ?_); at_builtin; refine Kd.R_append_rows k39 (w0 := w) w.heap.size rfl (.tmp 108) (.tmp 111) 22 39 (.agg #[(.string ⟨#[]⟩), (.string ⟨#[]⟩), (.string ⟨#[]⟩), (.int .i64 0), (.int .i64 0)]) 64 rfl Try.underlying22 info39 rfl (by decide) (by omega) v238 y237 y240 _ _ _ (fun k_ => some k_ ≠ (.slice (some ad236) x3_1.length co49 : Value).ownBlock ∧ some k_ ≠ (.slice Ao50 x8_2.length co50 : Value).ownBlock) (fun _ => False) rfl rfl ?aO ?aR (fun _ _ h => h) (fun _ h => h.elim) ?aF ?aB ?aS ?aL ?_; (case aR => repeat (first | exact (by repeat (first | (with_reducible exact HR243.out) | (with_reducible refine Kd.C_alloc ?_ _) | (with_reducible refine Kd.C_drewN ?_ _) | (with_reducible refine Kd.C_drew ?_) | exact HR243.out)) | (with_reducible refine Kd.C_alloc ?_ _) | (with_reducible refine Kd.C_drewN ?_ _) | (with_reducible refine Kd.C_drew ?_))); (case aB => exact (by repeat (first | (with_reducible first | exact HB.out | apply below_alloc | apply pw_below_drewN | apply below_drew1) | exact HB.out))); (case aF => exact (fun k_ hk => ⟨Kd.fresh' (Kd.R_lt (by (with_reducible repeat (first | apply Kd.R_alloc | apply Kd.R_drewN | apply Kd.R_drew)); exact HO_3.out)) k_ hk, Kd.fresh' (Kd.R_lt (by (with_reducible repeat (first | apply Kd.R_alloc | apply Kd.R_drewN | apply Kd.R_drew)); exact HO_8.out)) k_ hk⟩)); (case aO => exact (by (with_reducible repeat (first | apply Kd.R_alloc | apply Kd.R_drewN | apply Kd.R_drew)); exact HO239.out)); (case aS => exact (below_size (by repeat (first | (with_reducible first | exact HB.out | apply below_alloc | apply pw_below_drewN | apply below_drew1) | exact HB.out)))); (case aL => have := LMc85.out; omega); intro v245 w93 ho hb hg hat; rw [← Ny244.out] at ho; have n0_ := Aside0.mk (Kd.R_after (ok := (fun k_ => some k_ ≠ (.slice Ao50 x8_2.length co50 : Value).ownBlock)) (by (with_reducible repeat (first | apply Kd.R_alloc | apply Kd.R_drewN | apply Kd.R_drew)); exact HO_3.out) hg hat); have n1_ := Aside0.mk (Kd.R_after (ok := (fun k_ => some k_ ≠ (.slice (some ad236) x3_1.length co49 : Value).ownBlock)) (by (with_reducible repeat (first | apply Kd.R_alloc | apply Kd.R_drewN | apply Kd.R_drew)); exact HO_8.out) hg hat); have n2_ := Aside0.mk (hb); have n3_ := Aside0.mk ((show Kd.C k39 w93 Ao50 y229.length y229 from by rw [Ny229.out]; exact Kd.C_take (m := (x10_3 : Int).toNat) ((Kd.R_reads' (Kd.R_after (ok := (fun k_ => some k_ ≠ (.slice (some ad236) x3_1.length co49 : Value).ownBlock)) (by (with_reducible repeat (first | apply Kd.R_alloc | apply Kd.R_drewN | apply Kd.R_drew)); exact HO_8.out) hg hat)).2.2) KL89.out)); have n4_ := Aside0.mk ((show Kd.C k39 w93 A92 y240.length y240 from by rw [Ny240.out, KA92.out]; exact Kd.C_drop (m := (x10_3 : Int).toNat) (c := co50) ((Kd.R_reads' (Kd.R_after (ok := (fun k_ => some k_ ≠ (.slice (some ad236) x3_1.length co49 : Value).ownBlock)) (by (with_reducible repeat (first | apply Kd.R_alloc | apply Kd.R_drewN | apply Kd.R_drew)); exact HO_8.out) hg hat)).2.2) KL92.out ((Kd.R_reads' (Kd.R_after (ok := (fun k_ => some k_ ≠ (.slice (some ad236) x3_1.length co49 : Value).ownBlock)) (by (with_reducible repeat (first | apply Kd.R_alloc | apply Kd.R_drewN | apply Kd.R_drew)); exact HO_8.out) hg hat)).2.1))); have n5_ := Aside0.mk (ho); clear HO_3; clear HO_8; clear HB; clear HR232; clear HR243; clear HO239; have HO_3 := n0_; have HO_8 := n1_; have HB := n2_; have HR232 := n3_; have HR243 := n4_; have HO246 := n5_; clear n0_ n1_ n2_ n3_ n4_ n5_; clear ho hb hg hat))
                                  go_roundg k3
                                  case measure => have := HK1.out; have := HK2.out; have := HK3.out; omega
                                  case rel => exact ⟨(y244), (wrap64 (x9_2 + 1)), (by first | rfl | (simp; done) | (simp [*]; done)), H', ⟨by have := HK1.out; have := HK2.out; have := HK3.out; omega⟩, ⟨by (with_reducible repeat (first | apply Kd.R_alloc | apply Kd.R_drewN | apply Kd.R_drew)); exact Kd.R_mono HO_3.out (fun _ hk => hk.2)⟩, ⟨by (with_reducible repeat (first | apply Kd.R_alloc | apply Kd.R_drewN | apply Kd.R_drew)); exact Kd.R_mono HO246.out (fun _ hk => hk.1)⟩, ⟨by repeat (first | (with_reducible first | exact HB.out | apply below_alloc | apply pw_below_drewN | apply below_drew1) | exact HB.out)⟩⟩
                                · rw [if_neg c85] at H
                                  exact absurd H (by simp)
                              · rw [if_neg c82] at H
                                exact absurd H (by simp)
                            · rw [if_neg c81] at H
                              exact absurd H (by simp)
                          · rw [if_neg c80] at H
                            exact absurd H (by simp)
                        · rw [if_neg c79] at H
                          exact absurd H (by simp)
                      · rw [if_neg c78] at H
                        exact absurd H (by simp)
                    · rw [if_neg c77] at H
                      exact absurd H (by simp)
            · rw [if_neg c48] at H
              have c48b0 : decide (x9_2 < (x3_1.length : Int)) = false := decide_eq_false c48
              clear c48
              obtain rfl := Option.some.inj H
              obtain ⟨Ao94, co94, eo94⟩ := Kd.R_slice HO_3.out
              subst eo94
              go_wp2
              go_ret
              exact ⟨_, by first | rfl | (simp [errW_none, errW_some] <;> rfl) | (simp [*, errW_none, errW_some] <;> rfl), by (with_reducible repeat (first | apply Kd.R_alloc | apply Kd.R_drewN | apply Kd.R_drew)); exact Kd.R_mono HO_8.out (fun _ hk => trivial), by repeat (first | (with_reducible first | exact HB.out | apply below_alloc | apply pw_below_drewN | apply below_drew1) | exact HB.out)⟩

end Go.Proofs.Ytobcakjlfdejjaa.PWatchDoes
end
