/- The law WatchTells of the watch, where what came in is of bulk at most 1048576: what raw rows say changes between two re: part 28 of 31: what it leans on. -/
import Derived.Test.YtobcakjlfdejjaaTeU
import Derived.Test.YtobcakjlfdejjaaTeV
import Derived.Test.YtobcakjlfdejjaaTeW
import Derived.Test.YtobcakjlfdejjaaTeAA
section
namespace Go.Proofs.Ytobcakjlfdejjaa.PWatchTells
open Go.RowKit Go.Proofs.YtobcakjlfdejjaaW.PrintWords Go.Proofs.YtobcakjlfdejjaaW.PrintLast Go.Proofs.YtobcakjlfdejjaaW.PrintMore
attribute [local go_sem] max2_int min2_int max_two min_two max_three min_three max_four min_four   -- for this text's walks alone
set_option linter.unusedVariables false
set_option linter.unusedSimpArgs false

/-! ### porterref22_Changes: function 11 -/
mutual
def porterref22_Changes.l0 : Nat → List (S39) → Int → Int → List (S59) → Int → Option ((List (S59)))
  | 0, _, _, _, _, _ => none
  | k + 1, x0, x1, x2, x7, x8 => if x8 < (x0.length : Int) then (if 0 ≤ x8 then (if ((rd_T39 x0 x8).f2) = 0 then (porterref22_Changes.j1 k x0 x1 x2 x7 x8 false ((rd_T39 x0 x8).f0.f0) ((rd_T39 x0 x8).f0.f1) ((rd_T39 x0 x8).f0.f2) ((rd_T39 x0 x8).f1) ((rd_T39 x0 x8).f2)) else (porterref22_Changes.j1 k x0 x1 x2 x7 x8 (decide (((rd_T39 x0 x8).f2) ≤ ((rd_T39 x0 x8).f1))) ((rd_T39 x0 x8).f0.f0) ((rd_T39 x0 x8).f0.f1) ((rd_T39 x0 x8).f0.f2) ((rd_T39 x0 x8).f1) ((rd_T39 x0 x8).f2))) else (none)) else (some x7)
def porterref22_Changes.j1 : Nat → List (S39) → Int → Int → List (S59) → Int → Bool → ByteArray → ByteArray → ByteArray → Int → Int → Option ((List (S59)))
  | 0, _, _, _, _, _, _, _, _, _, _, _ => none
  | k + 1, x0, x1, x2, x7, x8, x29, x219000, x219001, x219002, x219003, x219004 => if x29 = true then (porterref22_Changes.l0 k x0 x1 x2 x7 (wrap64 (x8 + 1))) else (if x1 < x219003 then (porterref22_Changes.j2 k x0 x1 x2 x7 x8 (decide (x219003 ≤ x2)) x219000 x219001 x219002 x219003 x219004) else (porterref22_Changes.j2 k x0 x1 x2 x7 x8 false x219000 x219001 x219002 x219003 x219004))
def porterref22_Changes.j2 : Nat → List (S39) → Int → Int → List (S59) → Int → Bool → ByteArray → ByteArray → ByteArray → Int → Int → Option ((List (S59)))
  | 0, _, _, _, _, _, _, _, _, _, _, _ => none
  | k + 1, x0, x1, x2, x7, x8, x39, x219000, x219001, x219002, x219003, x219004 => if x39 = true then ((porterref22_put.f k x7 x219003 false x219000 x219001 x219002).bind fun t219 => (if x219004 = 0 then (porterref22_Changes.l0 k x0 x1 x2 t219 (wrap64 (x8 + 1))) else (if x1 < x219004 then (if x219004 ≤ x2 then ((porterref22_put.f k t219 x219004 true x219000 x219001 x219002).bind fun t222 => (porterref22_Changes.l0 k x0 x1 x2 t222 (wrap64 (x8 + 1)))) else (porterref22_Changes.l0 k x0 x1 x2 t219 (wrap64 (x8 + 1)))) else (porterref22_Changes.l0 k x0 x1 x2 t219 (wrap64 (x8 + 1)))))) else (if x219004 = 0 then (porterref22_Changes.l0 k x0 x1 x2 x7 (wrap64 (x8 + 1))) else (if x1 < x219004 then (if x219004 ≤ x2 then ((porterref22_put.f k x7 x219004 true x219000 x219001 x219002).bind fun t225 => (porterref22_Changes.l0 k x0 x1 x2 t225 (wrap64 (x8 + 1)))) else (porterref22_Changes.l0 k x0 x1 x2 x7 (wrap64 (x8 + 1)))) else (porterref22_Changes.l0 k x0 x1 x2 x7 (wrap64 (x8 + 1)))))
end
def porterref22_Changes.f (k : Nat) (l0 : List (S39)) (a1 : Int) (a2 : Int) : Option ((List (S59))) := porterref22_Changes.l0 k l0 a1 a2 ([] : List (S59)) 0
theorem porterref22_Changes.mono_l : ∀ k, (∀ y0 y1 y2 y3 y4, LeO (porterref22_Changes.l0 k y0 y1 y2 y3 y4) (porterref22_Changes.l0 (k + 1) y0 y1 y2 y3 y4)) ∧ (∀ y0 y1 y2 y3 y4 y5 y6 y7 y8 y9 y10, LeO (porterref22_Changes.j1 k y0 y1 y2 y3 y4 y5 y6 y7 y8 y9 y10) (porterref22_Changes.j1 (k + 1) y0 y1 y2 y3 y4 y5 y6 y7 y8 y9 y10)) ∧ (∀ y0 y1 y2 y3 y4 y5 y6 y7 y8 y9 y10, LeO (porterref22_Changes.j2 k y0 y1 y2 y3 y4 y5 y6 y7 y8 y9 y10) (porterref22_Changes.j2 (k + 1) y0 y1 y2 y3 y4 y5 y6 y7 y8 y9 y10))
  | 0 => ⟨fun _ _ _ _ _ r h => by simp [porterref22_Changes.l0] at h, fun _ _ _ _ _ _ _ _ _ _ _ r h => by simp [porterref22_Changes.j1] at h, fun _ _ _ _ _ _ _ _ _ _ _ r h => by simp [porterref22_Changes.j2] at h⟩
  | k + 1 => by
    obtain ⟨ih0, ih1, ih2⟩ := porterref22_Changes.mono_l k
    refine ⟨?_, ?_, ?_⟩
    · intro y0 y1 y2 y3 y4
      unfold porterref22_Changes.l0
      repeat' first
      | (with_reducible exact ih0 _ _ _ _ _)
      | (with_reducible exact ih1 _ _ _ _ _ _ _ _ _ _ _)
      | (with_reducible exact ih2 _ _ _ _ _ _ _ _ _ _ _)
      | (with_reducible exact porterref22_put.mono _ _ _ _ _ _ _)
      | (with_reducible exact LeO.refl _)
      | (with_reducible exact LeO.none _)
      | (with_reducible refine LeO.ite ?_ ?_)
      | (with_reducible refine LeO.bind ?_ (fun _ => ?_))
      | exact ih0 _ _ _ _ _
      | exact ih1 _ _ _ _ _ _ _ _ _ _ _
      | exact ih2 _ _ _ _ _ _ _ _ _ _ _
      | exact porterref22_put.mono _ _ _ _ _ _ _
      | exact LeO.none _
      | refine LeO.ite ?_ ?_
      | refine LeO.bind ?_ (fun _ => ?_)
    · intro y0 y1 y2 y3 y4 y5 y6 y7 y8 y9 y10
      unfold porterref22_Changes.j1
      repeat' first
      | (with_reducible exact ih0 _ _ _ _ _)
      | (with_reducible exact ih1 _ _ _ _ _ _ _ _ _ _ _)
      | (with_reducible exact ih2 _ _ _ _ _ _ _ _ _ _ _)
      | (with_reducible exact porterref22_put.mono _ _ _ _ _ _ _)
      | (with_reducible exact LeO.refl _)
      | (with_reducible exact LeO.none _)
      | (with_reducible refine LeO.ite ?_ ?_)
      | (with_reducible refine LeO.bind ?_ (fun _ => ?_))
      | exact ih0 _ _ _ _ _
      | exact ih1 _ _ _ _ _ _ _ _ _ _ _
      | exact ih2 _ _ _ _ _ _ _ _ _ _ _
      | exact porterref22_put.mono _ _ _ _ _ _ _
      | exact LeO.none _
      | refine LeO.ite ?_ ?_
      | refine LeO.bind ?_ (fun _ => ?_)
    · intro y0 y1 y2 y3 y4 y5 y6 y7 y8 y9 y10
      unfold porterref22_Changes.j2
      repeat' first
      | (with_reducible exact ih0 _ _ _ _ _)
      | (with_reducible exact ih1 _ _ _ _ _ _ _ _ _ _ _)
      | (with_reducible exact ih2 _ _ _ _ _ _ _ _ _ _ _)
      | (with_reducible exact porterref22_put.mono _ _ _ _ _ _ _)
      | (with_reducible exact LeO.refl _)
      | (with_reducible exact LeO.none _)
      | (with_reducible refine LeO.ite ?_ ?_)
      | (with_reducible refine LeO.bind ?_ (fun _ => ?_))
      | exact ih0 _ _ _ _ _
      | exact ih1 _ _ _ _ _ _ _ _ _ _ _
      | exact ih2 _ _ _ _ _ _ _ _ _ _ _
      | exact porterref22_put.mono _ _ _ _ _ _ _
      | exact LeO.none _
      | refine LeO.ite ?_ ?_
      | refine LeO.bind ?_ (fun _ => ?_)
theorem porterref22_Changes.mono : ∀ a0 a1 a2 k, LeO (porterref22_Changes.f k a0 a1 a2) (porterref22_Changes.f (k + 1) a0 a1 a2) := by
  intro a0 a1 a2 k
  obtain ⟨ih0, ih1, ih2⟩ := porterref22_Changes.mono_l k
  unfold porterref22_Changes.f
  repeat' first
      | (with_reducible exact ih0 _ _ _ _ _)
      | (with_reducible exact ih1 _ _ _ _ _ _ _ _ _ _ _)
      | (with_reducible exact ih2 _ _ _ _ _ _ _ _ _ _ _)
      | (with_reducible exact porterref22_put.mono _ _ _ _ _ _ _)
      | (with_reducible exact LeO.refl _)
      | (with_reducible exact LeO.none _)
      | (with_reducible refine LeO.ite ?_ ?_)
      | (with_reducible refine LeO.bind ?_ (fun _ => ?_))
      | exact ih0 _ _ _ _ _
      | exact ih1 _ _ _ _ _ _ _ _ _ _ _
      | exact ih2 _ _ _ _ _ _ _ _ _ _ _
      | exact porterref22_put.mono _ _ _ _ _ _ _
      | exact LeO.none _
      | refine LeO.ite ?_ ?_
      | refine LeO.bind ?_ (fun _ => ?_)
set_option maxHeartbeats 8000000 in
set_option maxRecDepth 100000 in
theorem porterref22_Changes.calls (k : Nat) (A0 : Option Addr) (c0 : Nat) (l0 : List (S39)) (a1 : Int) (a2 : Int) (r : List (S59)) (w : World) (hr0 : Kd.C k39 w A0 l0.length l0) (hc0 : l0.length ≤ c0) (h : porterref22_Changes.f k l0 a1 a2 = some r) :
    Calls Try.prog 11 #[.slice A0 l0.length c0, .int .i64 a1, .int .i64 a2] w fun e w' => ∃ v0_ : Value, e = .returned (v0_) ∧ Kd.R k59 59 w' w.heap.size (fun _ => True) v0_ r ∧ Below w.heap.size w w' := by
  have hu39 := Try.underlying39
  have hu37 := Try.underlying37
  have hu59 := Try.underlying59
  have HR0 := Aside0.mk hr0
  have HC0 := Aside0.mk hc0
  clear hr0 hc0
  have HB := Aside0.mk (Below.refl w.heap.size w)
  have H : (porterref22_Changes.l0 k l0 a1 a2 ([] : List (S59)) 0) = some r := h
  clear h
  have H' := Aside0.mk H
  clear H
  go_enter Try.func11, Try.ntmps11
  go_wp2
  go_loopg [7, 8] k (fun kq v7 v8 w' => ∃ (x7_1 : List (S59)) (x8_1 : Int), v8 = .int .i64 x8_1 ∧ Aside0 (porterref22_Changes.l0 kq l0 a1 a2 x7_1 x8_1 = some r) ∧ Aside0 (kq ≤ k) ∧ Aside0 (Kd.R k59 59 w' w.heap.size (fun _ => True) v7 x7_1) ∧ Aside0 (Below w.heap.size w w'))
  case atStart => exact ⟨(([] : List (S59))), (0), (by first | rfl | (simp; done) | (simp [*]; done)), H', ⟨Nat.le_refl _⟩, ⟨by first | exact Kd.R_nil _ _ _ _ _ | exact Kd.N_nil _ _ _ _ _ | exact Kd.V_nil _ _ _ _ _ | exact Kd.Q_nil _ _ _ _ _ | exact Kd.S_nil _ _ _ _ _⟩, ⟨by repeat (first | (with_reducible first | exact HB.out | apply below_alloc | apply pw_below_drewN | apply below_drew1) | exact HB.out)⟩⟩
  case round =>
    clear H'
    try clear c1
    try clear p2
    obtain ⟨x7_1, x8_1, rfl, HA, HK1, HO_7, HB⟩ := hrel
    cases gk with
    | zero => exact absurd HA.out (by simp [porterref22_Changes.l0])
    | succ k1 =>
      have H := HA.out
      clear HA
      simp only [porterref22_Changes.l0] at H
      by_cases c4 : x8_1 < (l0.length : Int)
      · rw [if_pos c4] at H
        have c4b0 : decide (x8_1 < (l0.length : Int)) = true := decide_eq_true c4
        clear c4
        by_cases c5 : 0 ≤ x8_1
        · rw [if_pos c5] at H
          have c5b0 : decide (0 ≤ x8_1) = true := decide_eq_true c5
          clear c5
          have HC6 := Aside0.mk H
          clear H
          have p217 : 0 ≤ (x8_1 : Int) := of_decide_eq_true (by first | (with_reducible assumption) | assumption)
          have q217 : x8_1 < (l0.length : Int) := of_decide_eq_true (by first | (with_reducible assumption) | assumption)
          obtain ⟨ad217, e217, hx217_0, hx217_1, hx217_2, hx217_3, hx217_4⟩ := at_T39 HR0.out x8_1 p217 q217
          cases e217
          replace hx217_0 := (HB.out.cell (World.block_lt_of_cell? w _ hx217_0)).trans hx217_0
          replace hx217_1 := (HB.out.cell (World.block_lt_of_cell? w _ hx217_1)).trans hx217_1
          replace hx217_2 := (HB.out.cell (World.block_lt_of_cell? w _ hx217_2)).trans hx217_2
          replace hx217_3 := (HB.out.cell (World.block_lt_of_cell? w _ hx217_3)).trans hx217_3
          replace hx217_4 := (HB.out.cell (World.block_lt_of_cell? w _ hx217_4)).trans hx217_4
          replace p217 := eq_true p217
          replace q217 := eq_true q217
          go_upto_region 6 with (first | ((with_reducible refine gate_dst (N := 9) rfl ?_); refine box_event ?hg (N := 9) ?hd (cs := #[.string (⟨#[]⟩ : ByteArray), .string (⟨#[]⟩ : ByteArray), .string (⟨#[]⟩ : ByteArray), .int .i64 0, .int .i64 0]) (t := 39) ?hr ?_; (case hd => rfl); (case hg => rfl); (case hr => first | (go_simp; done) | (go_simp; rfl)); intro gb218 hg w7 hbox hb; have n0_ := Aside0.mk (Kd.R_below (by (with_reducible repeat (first | apply Kd.R_alloc | apply Kd.R_drewN | apply Kd.R_drew)); exact HO_7.out) hb); have n1_ := Aside0.mk (below_step (by repeat (first | (with_reducible first | exact HB.out | apply below_alloc | apply pw_below_drewN | apply below_drew1) | exact HB.out)) hb); have n2_ := Aside0.mk (hbox); have n3_ := Aside0.mk ((by rw [hg]; exact (below_size (by repeat (first | (with_reducible first | exact HB.out | apply below_alloc | apply pw_below_drewN | apply below_drew1) | exact HB.out))) : w.heap.size ≤ gb218)); have n4_ := Aside0.mk ((by rw [hg]; exact (below_size (by repeat (first | (with_reducible first | exact HB.out | apply below_alloc | apply pw_below_drewN | apply below_drew1) | exact HB.out))) : w.heap.size ≤ gb218)); clear HO_7; clear HB; have HO_7 := n0_; have HB := n1_; have BK218 := n2_; have GW218 := n3_; have GE218 := n4_; clear n0_ n1_ n2_ n3_ n4_; clear hb hbox hg; have hcz8_0 : w7.cell? ⟨gb218, 0, none⟩ = some (.string (⟨#[]⟩ : ByteArray)) := (blk_cell BK218.out 0).trans rfl; have hcz8_1 : w7.cell? ⟨gb218, 1, none⟩ = some (.string (⟨#[]⟩ : ByteArray)) := (blk_cell BK218.out 1).trans rfl; have hcz8_2 : w7.cell? ⟨gb218, 2, none⟩ = some (.string (⟨#[]⟩ : ByteArray)) := (blk_cell BK218.out 2).trans rfl; have hcz8_3 : w7.cell? ⟨gb218, 3, none⟩ = some (.int .i64 0) := (blk_cell BK218.out 3).trans rfl; have hcz8_4 : w7.cell? ⟨gb218, 4, none⟩ = some (.int .i64 0) := (blk_cell BK218.out 4).trans rfl; have hfz8_0 := blk_frozen BK218.out 0; have hfz8_1 := blk_frozen BK218.out 1; have hfz8_2 := blk_frozen BK218.out 2; have hfz8_3 := blk_frozen BK218.out 3; have hfz8_4 := blk_frozen BK218.out 4))
          (try simp only [Act.put, List.setIfInBounds_toArray, List.set_cons_zero, List.set_cons_succ])
          go_cut [29] (fun v29 wc => ∃ (kq : Nat) (x29_5 : Bool), v29 = .bool x29_5 ∧ Aside0 (porterref22_Changes.j1 kq l0 a1 a2 x7_1 x8_1 x29_5 ((rd_T39 l0 x8_1).f0.f0) ((rd_T39 l0 x8_1).f0.f1) ((rd_T39 l0 x8_1).f0.f2) ((rd_T39 l0 x8_1).f1) ((rd_T39 l0 x8_1).f2) = some r) ∧ Aside0 (kq ≤ k1) ∧ Aside0 (Kd.R k59 59 wc w.heap.size (fun _ => True) u7 x7_1) ∧ Aside0 (wc.heap[gb218]? = some (.cells #[.string ((rd_T39 l0 x8_1).f0.f0), .string ((rd_T39 l0 x8_1).f0.f1), .string ((rd_T39 l0 x8_1).f0.f2), .int .i64 ((rd_T39 l0 x8_1).f1), .int .i64 ((rd_T39 l0 x8_1).f2)] 39 (0, 0))) ∧ Aside0 (Below w.heap.size w wc))
          case first =>
            have H := HC6.out
            clear HC6
            by_cases c9 : ((rd_T39 l0 x8_1).f2) = 0
            · rw [if_pos c9] at H
              have c9b0 : (((rd_T39 l0 x8_1).f2) == 0) = true := beq_iff_eq.mpr c9
              have c9b1 : (((rd_T39 l0 x8_1).f2) != 0) = false := bne_eq_false_iff_eq.mpr c9
              clear c9
              (first | rw [c9b0] | (simp only [i64_w, i32_w]; rw [c9b0]) | skip)
              have H' := Aside0.mk H
              clear H
              have hcz10_0 : w7.cell? ⟨gb218, 0, none⟩ = some (.string (⟨#[]⟩ : ByteArray)) := (blk_cell BK218.out 0).trans rfl
              have hcz10_1 : w7.cell? ⟨gb218, 1, none⟩ = some (.string (⟨#[]⟩ : ByteArray)) := (blk_cell BK218.out 1).trans rfl
              have hcz10_2 : w7.cell? ⟨gb218, 2, none⟩ = some (.string (⟨#[]⟩ : ByteArray)) := (blk_cell BK218.out 2).trans rfl
              have hcz10_3 : w7.cell? ⟨gb218, 3, none⟩ = some (.int .i64 0) := (blk_cell BK218.out 3).trans rfl
              have hcz10_4 : w7.cell? ⟨gb218, 4, none⟩ = some (.int .i64 0) := (blk_cell BK218.out 4).trans rfl
              have hfz10_0 := blk_frozen BK218.out 0
              have hfz10_1 := blk_frozen BK218.out 1
              have hfz10_2 := blk_frozen BK218.out 2
              have hfz10_3 := blk_frozen BK218.out 3
              have hfz10_4 := blk_frozen BK218.out 4
              go_wp2
              go_meet
              case rel => exact ⟨_, (false), (by first | rfl | (simp; done) | (simp [*]; done)), H', ⟨by have := HK1.out; first | omega | exact Nat.le_refl _⟩, ⟨by (with_reducible repeat (first | apply Kd.R_alloc | apply Kd.R_drewN | apply Kd.R_drew)); exact Kd.R_mono (Kd.R_far (p := ⟨gb218, 4, none⟩) (Kd.R_far (p := ⟨gb218, 3, none⟩) (Kd.R_far (p := ⟨gb218, 2, none⟩) (Kd.R_far (p := ⟨gb218, 1, none⟩) (Kd.R_far (p := ⟨gb218, 0, none⟩) (Kd.R_types HO_7.out BK218.out (by decide)) (fun _ hk => hk.2) (.string ((rd_T39 l0 x8_1).f0.f0))) (fun _ hk => hk.2) (.string ((rd_T39 l0 x8_1).f0.f1))) (fun _ hk => hk.2) (.string ((rd_T39 l0 x8_1).f0.f2))) (fun _ hk => hk.2) (.int .i64 ((rd_T39 l0 x8_1).f1))) (fun _ hk => hk.2) (.int .i64 ((rd_T39 l0 x8_1).f2))) (fun _ hk => trivial)⟩, ⟨by (with_reducible repeat (first | refine blk_drewN ?_ _ | refine blk_drew ?_ | refine blk_alloc ?_ _)); refine blk_put (cs := #[.string ((rd_T39 l0 x8_1).f0.f0), .string ((rd_T39 l0 x8_1).f0.f1), .string ((rd_T39 l0 x8_1).f0.f2), .int .i64 ((rd_T39 l0 x8_1).f1), .int .i64 0]) ?_ 4 _ rfl; (with_reducible repeat (first | refine blk_drewN ?_ _ | refine blk_drew ?_ | refine blk_alloc ?_ _)); refine blk_put (cs := #[.string ((rd_T39 l0 x8_1).f0.f0), .string ((rd_T39 l0 x8_1).f0.f1), .string ((rd_T39 l0 x8_1).f0.f2), .int .i64 0, .int .i64 0]) ?_ 3 _ rfl; (with_reducible repeat (first | refine blk_drewN ?_ _ | refine blk_drew ?_ | refine blk_alloc ?_ _)); refine blk_put (cs := #[.string ((rd_T39 l0 x8_1).f0.f0), .string ((rd_T39 l0 x8_1).f0.f1), .string (⟨#[]⟩ : ByteArray), .int .i64 0, .int .i64 0]) ?_ 2 _ rfl; (with_reducible repeat (first | refine blk_drewN ?_ _ | refine blk_drew ?_ | refine blk_alloc ?_ _)); refine blk_put (cs := #[.string ((rd_T39 l0 x8_1).f0.f0), .string (⟨#[]⟩ : ByteArray), .string (⟨#[]⟩ : ByteArray), .int .i64 0, .int .i64 0]) ?_ 1 _ rfl; (with_reducible repeat (first | refine blk_drewN ?_ _ | refine blk_drew ?_ | refine blk_alloc ?_ _)); refine blk_put (cs := #[.string (⟨#[]⟩ : ByteArray), .string (⟨#[]⟩ : ByteArray), .string (⟨#[]⟩ : ByteArray), .int .i64 0, .int .i64 0]) ?_ 0 _ rfl; (with_reducible repeat (first | refine blk_drewN ?_ _ | refine blk_drew ?_ | refine blk_alloc ?_ _)); exact BK218.out⟩, ⟨by repeat (first | (with_reducible first | exact HB.out | apply below_alloc | apply pw_below_drewN | apply below_drew1 | refine below_set ?_ GE218.out) | exact HB.out)⟩⟩
            · rw [if_neg c9] at H
              have c9b0 : (((rd_T39 l0 x8_1).f2) == 0) = false := beq_eq_false_iff_ne.mpr c9
              have c9b1 : (((rd_T39 l0 x8_1).f2) != 0) = true := bne_iff_ne.mpr c9
              (first | rw [c9b0] | (simp only [i64_w, i32_w]; rw [c9b0]) | skip)
              have H' := Aside0.mk H
              clear H
              have hcz11_0 : w7.cell? ⟨gb218, 0, none⟩ = some (.string (⟨#[]⟩ : ByteArray)) := (blk_cell BK218.out 0).trans rfl
              have hcz11_1 : w7.cell? ⟨gb218, 1, none⟩ = some (.string (⟨#[]⟩ : ByteArray)) := (blk_cell BK218.out 1).trans rfl
              have hcz11_2 : w7.cell? ⟨gb218, 2, none⟩ = some (.string (⟨#[]⟩ : ByteArray)) := (blk_cell BK218.out 2).trans rfl
              have hcz11_3 : w7.cell? ⟨gb218, 3, none⟩ = some (.int .i64 0) := (blk_cell BK218.out 3).trans rfl
              have hcz11_4 : w7.cell? ⟨gb218, 4, none⟩ = some (.int .i64 0) := (blk_cell BK218.out 4).trans rfl
              have hfz11_0 := blk_frozen BK218.out 0
              have hfz11_1 := blk_frozen BK218.out 1
              have hfz11_2 := blk_frozen BK218.out 2
              have hfz11_3 := blk_frozen BK218.out 3
              have hfz11_4 := blk_frozen BK218.out 4
              go_wp2
              go_meet
              case rel => exact ⟨_, (decide (((rd_T39 l0 x8_1).f2) ≤ ((rd_T39 l0 x8_1).f1))), (by first | rfl | (simp; done) | (simp [*]; done)), H', ⟨by have := HK1.out; first | omega | exact Nat.le_refl _⟩, ⟨by (with_reducible repeat (first | apply Kd.R_alloc | apply Kd.R_drewN | apply Kd.R_drew)); exact Kd.R_mono (Kd.R_far (p := ⟨gb218, 4, none⟩) (Kd.R_far (p := ⟨gb218, 3, none⟩) (Kd.R_far (p := ⟨gb218, 2, none⟩) (Kd.R_far (p := ⟨gb218, 1, none⟩) (Kd.R_far (p := ⟨gb218, 0, none⟩) (Kd.R_types HO_7.out BK218.out (by decide)) (fun _ hk => hk.2) (.string ((rd_T39 l0 x8_1).f0.f0))) (fun _ hk => hk.2) (.string ((rd_T39 l0 x8_1).f0.f1))) (fun _ hk => hk.2) (.string ((rd_T39 l0 x8_1).f0.f2))) (fun _ hk => hk.2) (.int .i64 ((rd_T39 l0 x8_1).f1))) (fun _ hk => hk.2) (.int .i64 ((rd_T39 l0 x8_1).f2))) (fun _ hk => trivial)⟩, ⟨by (with_reducible repeat (first | refine blk_drewN ?_ _ | refine blk_drew ?_ | refine blk_alloc ?_ _)); refine blk_put (cs := #[.string ((rd_T39 l0 x8_1).f0.f0), .string ((rd_T39 l0 x8_1).f0.f1), .string ((rd_T39 l0 x8_1).f0.f2), .int .i64 ((rd_T39 l0 x8_1).f1), .int .i64 0]) ?_ 4 _ rfl; (with_reducible repeat (first | refine blk_drewN ?_ _ | refine blk_drew ?_ | refine blk_alloc ?_ _)); refine blk_put (cs := #[.string ((rd_T39 l0 x8_1).f0.f0), .string ((rd_T39 l0 x8_1).f0.f1), .string ((rd_T39 l0 x8_1).f0.f2), .int .i64 0, .int .i64 0]) ?_ 3 _ rfl; (with_reducible repeat (first | refine blk_drewN ?_ _ | refine blk_drew ?_ | refine blk_alloc ?_ _)); refine blk_put (cs := #[.string ((rd_T39 l0 x8_1).f0.f0), .string ((rd_T39 l0 x8_1).f0.f1), .string (⟨#[]⟩ : ByteArray), .int .i64 0, .int .i64 0]) ?_ 2 _ rfl; (with_reducible repeat (first | refine blk_drewN ?_ _ | refine blk_drew ?_ | refine blk_alloc ?_ _)); refine blk_put (cs := #[.string ((rd_T39 l0 x8_1).f0.f0), .string (⟨#[]⟩ : ByteArray), .string (⟨#[]⟩ : ByteArray), .int .i64 0, .int .i64 0]) ?_ 1 _ rfl; (with_reducible repeat (first | refine blk_drewN ?_ _ | refine blk_drew ?_ | refine blk_alloc ?_ _)); refine blk_put (cs := #[.string (⟨#[]⟩ : ByteArray), .string (⟨#[]⟩ : ByteArray), .string (⟨#[]⟩ : ByteArray), .int .i64 0, .int .i64 0]) ?_ 0 _ rfl; (with_reducible repeat (first | refine blk_drewN ?_ _ | refine blk_drew ?_ | refine blk_alloc ?_ _)); exact BK218.out⟩, ⟨by repeat (first | (with_reducible first | exact HB.out | apply below_alloc | apply pw_below_drewN | apply below_drew1 | refine below_set ?_ GE218.out) | exact HB.out)⟩⟩
          case rest =>
            clear HC6
            try clear c1
            try clear p2
            try clear q2
            try clear hx2
            try clear c4
            try clear c4b0
            try clear c5
            try clear c5b0
            try clear c9
            try clear c9b0
            try clear c9b1
            try clear c11
            try clear hcz10_0
            try clear hcz10_1
            try clear hcz10_2
            try clear hcz10_3
            try clear hcz10_4
            try clear hcz11_0
            try clear hcz11_1
            try clear hcz11_2
            try clear hcz11_3
            try clear hcz11_4
            try clear hcz8_0
            try clear hcz8_1
            try clear hcz8_2
            try clear hcz8_3
            try clear hcz8_4
            try clear hfz10_0
            try clear hfz10_1
            try clear hfz10_2
            try clear hfz10_3
            try clear hfz10_4
            try clear hfz11_0
            try clear hfz11_1
            try clear hfz11_2
            try clear hfz11_3
            try clear hfz11_4
            try clear hfz8_0
            try clear hfz8_1
            try clear hfz8_2
            try clear hfz8_3
            try clear hfz8_4
            try clear hx217_0
            try clear hx217_1
            try clear hx217_2
            try clear hx217_3
            try clear hx217_4
            try clear p2
            try clear p217
            try clear q217
            obtain ⟨kq, x29_5, rfl, HA, HJ5, HO_7, BK218, HB⟩ := hcut
            cases kq with
            | zero => exact absurd HA.out (by simp [porterref22_Changes.j1])
            | succ kj5 =>
              have H := HA.out
              clear HA
              simp only [porterref22_Changes.j1] at H
              by_cases c12 : x29_5 = true
              · subst c12
                have H1 : (porterref22_Changes.l0 kj5 l0 a1 a2 x7_1 (wrap64 (x8_1 + 1))) = some r := by rw [if_pos rfl] at H; exact H
                clear H
                have H := H1
                clear H1
                have H' := Aside0.mk H
                clear H
                go_wp2
                go_roundg kj5
                case measure => have := HK1.out; have := HJ5.out; omega
                case rel => exact ⟨(x7_1), (wrap64 (x8_1 + 1)), (by first | rfl | (simp; done) | (simp [*]; done)), H', ⟨by have := HK1.out; have := HJ5.out; omega⟩, ⟨by (with_reducible repeat (first | apply Kd.R_alloc | apply Kd.R_drewN | apply Kd.R_drew)); exact HO_7.out⟩, ⟨by repeat (first | (with_reducible first | exact HB.out | apply below_alloc | apply pw_below_drewN | apply below_drew1 | refine below_set ?_ GE218.out) | exact HB.out)⟩⟩
              · replace c12 := Bool.eq_false_iff.mpr c12
                subst c12
                have H1 : (if a1 < ((rd_T39 l0 x8_1).f1) then (porterref22_Changes.j2 kj5 l0 a1 a2 x7_1 x8_1 (decide (((rd_T39 l0 x8_1).f1) ≤ a2)) ((rd_T39 l0 x8_1).f0.f0) ((rd_T39 l0 x8_1).f0.f1) ((rd_T39 l0 x8_1).f0.f2) ((rd_T39 l0 x8_1).f1) ((rd_T39 l0 x8_1).f2)) else (porterref22_Changes.j2 kj5 l0 a1 a2 x7_1 x8_1 false ((rd_T39 l0 x8_1).f0.f0) ((rd_T39 l0 x8_1).f0.f1) ((rd_T39 l0 x8_1).f0.f2) ((rd_T39 l0 x8_1).f1) ((rd_T39 l0 x8_1).f2))) = some r := by rw [if_neg (show ¬ (false = true) by decide)] at H; exact H
                clear H
                have H := H1
                clear H1
                have HC13 := Aside0.mk H
                clear H
                go_upto_region 7 with (fail)
                go_cut [39] (fun v39 wc => ∃ (kq : Nat) (x39_12 : Bool), v39 = .bool x39_12 ∧ Aside0 (porterref22_Changes.j2 kq l0 a1 a2 x7_1 x8_1 x39_12 ((rd_T39 l0 x8_1).f0.f0) ((rd_T39 l0 x8_1).f0.f1) ((rd_T39 l0 x8_1).f0.f2) ((rd_T39 l0 x8_1).f1) ((rd_T39 l0 x8_1).f2) = some r) ∧ Aside0 (kq ≤ kj5) ∧ Aside0 (Kd.R k59 59 wc w.heap.size (fun _ => True) u7 x7_1) ∧ Aside0 (wc.heap[gb218]? = some (.cells #[.string ((rd_T39 l0 x8_1).f0.f0), .string ((rd_T39 l0 x8_1).f0.f1), .string ((rd_T39 l0 x8_1).f0.f2), .int .i64 ((rd_T39 l0 x8_1).f1), .int .i64 ((rd_T39 l0 x8_1).f2)] 39 (0, 0))) ∧ Aside0 (Below w.heap.size w wc))
                case first =>
                  have H := HC13.out
                  clear HC13
                  by_cases c14 : a1 < ((rd_T39 l0 x8_1).f1)
                  · rw [if_pos c14] at H
                    have c14b0 : decide (a1 < ((rd_T39 l0 x8_1).f1)) = true := decide_eq_true c14
                    clear c14
                    (first | rw [c14b0] | (simp only [i64_w, i32_w]; rw [c14b0]) | skip)
                    have H' := Aside0.mk H
                    clear H
                    have hcz15_0 : wc.cell? ⟨gb218, 0, none⟩ = some (.string ((rd_T39 l0 x8_1).f0.f0)) := (blk_cell BK218.out 0).trans rfl
                    have hcz15_1 : wc.cell? ⟨gb218, 1, none⟩ = some (.string ((rd_T39 l0 x8_1).f0.f1)) := (blk_cell BK218.out 1).trans rfl
                    have hcz15_2 : wc.cell? ⟨gb218, 2, none⟩ = some (.string ((rd_T39 l0 x8_1).f0.f2)) := (blk_cell BK218.out 2).trans rfl
                    have hcz15_3 : wc.cell? ⟨gb218, 3, none⟩ = some (.int .i64 ((rd_T39 l0 x8_1).f1)) := (blk_cell BK218.out 3).trans rfl
                    have hcz15_4 : wc.cell? ⟨gb218, 4, none⟩ = some (.int .i64 ((rd_T39 l0 x8_1).f2)) := (blk_cell BK218.out 4).trans rfl
                    have hfz15_0 := blk_frozen BK218.out 0
                    have hfz15_1 := blk_frozen BK218.out 1
                    have hfz15_2 := blk_frozen BK218.out 2
                    have hfz15_3 := blk_frozen BK218.out 3
                    have hfz15_4 := blk_frozen BK218.out 4
                    go_wp2
                    go_meet
                    case rel => exact ⟨_, (decide (((rd_T39 l0 x8_1).f1) ≤ a2)), (by first | rfl | (simp; done) | (simp [*]; done)), H', ⟨by have := HK1.out; have := HJ5.out; first | omega | exact Nat.le_refl _⟩, ⟨by (with_reducible repeat (first | apply Kd.R_alloc | apply Kd.R_drewN | apply Kd.R_drew)); exact HO_7.out⟩, ⟨by (with_reducible repeat (first | refine blk_drewN ?_ _ | refine blk_drew ?_ | refine blk_alloc ?_ _)); exact BK218.out⟩, ⟨by repeat (first | (with_reducible first | exact HB.out | apply below_alloc | apply pw_below_drewN | apply below_drew1 | refine below_set ?_ GE218.out) | exact HB.out)⟩⟩
                  · rw [if_neg c14] at H
                    have c14b0 : decide (a1 < ((rd_T39 l0 x8_1).f1)) = false := decide_eq_false c14
                    clear c14
                    (first | rw [c14b0] | (simp only [i64_w, i32_w]; rw [c14b0]) | skip)
                    have H' := Aside0.mk H
                    clear H
                    have hcz16_0 : wc.cell? ⟨gb218, 0, none⟩ = some (.string ((rd_T39 l0 x8_1).f0.f0)) := (blk_cell BK218.out 0).trans rfl
                    have hcz16_1 : wc.cell? ⟨gb218, 1, none⟩ = some (.string ((rd_T39 l0 x8_1).f0.f1)) := (blk_cell BK218.out 1).trans rfl
                    have hcz16_2 : wc.cell? ⟨gb218, 2, none⟩ = some (.string ((rd_T39 l0 x8_1).f0.f2)) := (blk_cell BK218.out 2).trans rfl
                    have hcz16_3 : wc.cell? ⟨gb218, 3, none⟩ = some (.int .i64 ((rd_T39 l0 x8_1).f1)) := (blk_cell BK218.out 3).trans rfl
                    have hcz16_4 : wc.cell? ⟨gb218, 4, none⟩ = some (.int .i64 ((rd_T39 l0 x8_1).f2)) := (blk_cell BK218.out 4).trans rfl
                    have hfz16_0 := blk_frozen BK218.out 0
                    have hfz16_1 := blk_frozen BK218.out 1
                    have hfz16_2 := blk_frozen BK218.out 2
                    have hfz16_3 := blk_frozen BK218.out 3
                    have hfz16_4 := blk_frozen BK218.out 4
                    go_wp2
                    go_meet
                    case rel => exact ⟨_, (false), (by first | rfl | (simp; done) | (simp [*]; done)), H', ⟨by have := HK1.out; have := HJ5.out; first | omega | exact Nat.le_refl _⟩, ⟨by (with_reducible repeat (first | apply Kd.R_alloc | apply Kd.R_drewN | apply Kd.R_drew)); exact HO_7.out⟩, ⟨by (with_reducible repeat (first | refine blk_drewN ?_ _ | refine blk_drew ?_ | refine blk_alloc ?_ _)); exact BK218.out⟩, ⟨by repeat (first | (with_reducible first | exact HB.out | apply below_alloc | apply pw_below_drewN | apply below_drew1 | refine below_set ?_ GE218.out) | exact HB.out)⟩⟩
                case rest =>
                  clear HC13
                  try clear c1
                  try clear p2
                  try clear q2
                  try clear hx2
                  try clear c4
                  try clear c4b0
                  try clear c5
                  try clear c5b0
                  try clear p6
                  try clear c9
                  try clear c9b0
                  try clear c9b1
                  try clear c11
                  try clear c12
                  try clear c14
                  try clear c14b0
                  try clear hcz10_0
                  try clear hcz10_1
                  try clear hcz10_2
                  try clear hcz10_3
                  try clear hcz10_4
                  try clear hcz11_0
                  try clear hcz11_1
                  try clear hcz11_2
                  try clear hcz11_3
                  try clear hcz11_4
                  try clear hcz15_0
                  try clear hcz15_1
                  try clear hcz15_2
                  try clear hcz15_3
                  try clear hcz15_4
                  try clear hcz16_0
                  try clear hcz16_1
                  try clear hcz16_2
                  try clear hcz16_3
                  try clear hcz16_4
                  try clear hcz8_0
                  try clear hcz8_1
                  try clear hcz8_2
                  try clear hcz8_3
                  try clear hcz8_4
                  try clear hfz10_0
                  try clear hfz10_1
                  try clear hfz10_2
                  try clear hfz10_3
                  try clear hfz10_4
                  try clear hfz11_0
                  try clear hfz11_1
                  try clear hfz11_2
                  try clear hfz11_3
                  try clear hfz11_4
                  try clear hfz15_0
                  try clear hfz15_1
                  try clear hfz15_2
                  try clear hfz15_3
                  try clear hfz15_4
                  try clear hfz16_0
                  try clear hfz16_1
                  try clear hfz16_2
                  try clear hfz16_3
                  try clear hfz16_4
                  try clear hfz8_0
                  try clear hfz8_1
                  try clear hfz8_2
                  try clear hfz8_3
                  try clear hfz8_4
                  try clear hx217_0
                  try clear hx217_1
                  try clear hx217_2
                  try clear hx217_3
                  try clear hx217_4
                  try clear p2
                  try clear p217
                  try clear q2
                  try clear q217
                  obtain ⟨kq, x39_12, rfl, HA, HJ12, HO_7, BK218, HB⟩ := hcut
                  cases kq with
                  | zero => exact absurd HA.out (by simp [porterref22_Changes.j2])
                  | succ kj12 =>
                    have H := HA.out
                    clear HA
                    simp only [porterref22_Changes.j2] at H
                    by_cases c17 : x39_12 = true
                    · subst c17
                      have H1 : ((porterref22_put.f kj12 x7_1 ((rd_T39 l0 x8_1).f1) false ((rd_T39 l0 x8_1).f0.f0) ((rd_T39 l0 x8_1).f0.f1) ((rd_T39 l0 x8_1).f0.f2)).bind fun t219 => (if ((rd_T39 l0 x8_1).f2) = 0 then (porterref22_Changes.l0 kj12 l0 a1 a2 t219 (wrap64 (x8_1 + 1))) else (if a1 < ((rd_T39 l0 x8_1).f2) then (if ((rd_T39 l0 x8_1).f2) ≤ a2 then ((porterref22_put.f kj12 t219 ((rd_T39 l0 x8_1).f2) true ((rd_T39 l0 x8_1).f0.f0) ((rd_T39 l0 x8_1).f0.f1) ((rd_T39 l0 x8_1).f0.f2)).bind fun t222 => (porterref22_Changes.l0 kj12 l0 a1 a2 t222 (wrap64 (x8_1 + 1)))) else (porterref22_Changes.l0 kj12 l0 a1 a2 t219 (wrap64 (x8_1 + 1)))) else (porterref22_Changes.l0 kj12 l0 a1 a2 t219 (wrap64 (x8_1 + 1)))))) = some r := by rw [if_pos rfl] at H; exact H
                      clear H
                      have H := H1
                      clear H1
                      replace H := Option.bind_eq_some_iff.mp H
                      obtain ⟨t219, A180, H⟩ := H
                      replace H : (if ((rd_T39 l0 x8_1).f2) = 0 then (porterref22_Changes.l0 kj12 l0 a1 a2 t219 (wrap64 (x8_1 + 1))) else (if a1 < ((rd_T39 l0 x8_1).f2) then (if ((rd_T39 l0 x8_1).f2) ≤ a2 then ((porterref22_put.f kj12 t219 ((rd_T39 l0 x8_1).f2) true ((rd_T39 l0 x8_1).f0.f0) ((rd_T39 l0 x8_1).f0.f1) ((rd_T39 l0 x8_1).f0.f2)).bind fun t222 => (porterref22_Changes.l0 kj12 l0 a1 a2 t222 (wrap64 (x8_1 + 1)))) else (porterref22_Changes.l0 kj12 l0 a1 a2 t219 (wrap64 (x8_1 + 1)))) else (porterref22_Changes.l0 kj12 l0 a1 a2 t219 (wrap64 (x8_1 + 1))))) = some r := H
                      have A18 := Aside0.mk A180
                      clear A180
                      by_cases c19 : ((rd_T39 l0 x8_1).f2) = 0
                      · rw [if_pos c19] at H
                        have c19b0 : (((rd_T39 l0 x8_1).f2) == 0) = true := beq_iff_eq.mpr c19
                        have c19b1 : (((rd_T39 l0 x8_1).f2) != 0) = false := bne_eq_false_iff_eq.mpr c19
                        clear c19
                        have H' := Aside0.mk H
                        clear H
                        have hcz20_0 : wc.cell? ⟨gb218, 0, none⟩ = some (.string ((rd_T39 l0 x8_1).f0.f0)) := (blk_cell BK218.out 0).trans rfl
                        have hcz20_1 : wc.cell? ⟨gb218, 1, none⟩ = some (.string ((rd_T39 l0 x8_1).f0.f1)) := (blk_cell BK218.out 1).trans rfl
                        have hcz20_2 : wc.cell? ⟨gb218, 2, none⟩ = some (.string ((rd_T39 l0 x8_1).f0.f2)) := (blk_cell BK218.out 2).trans rfl
                        have hcz20_3 : wc.cell? ⟨gb218, 3, none⟩ = some (.int .i64 ((rd_T39 l0 x8_1).f1)) := (blk_cell BK218.out 3).trans rfl
                        have hcz20_4 : wc.cell? ⟨gb218, 4, none⟩ = some (.int .i64 ((rd_T39 l0 x8_1).f2)) := (blk_cell BK218.out 4).trans rfl
                        have hfz20_0 := blk_frozen BK218.out 0
                        have hfz20_1 := blk_frozen BK218.out 1
                        have hfz20_2 := blk_frozen BK218.out 2
                        have hfz20_3 := blk_frozen BK218.out 3
                        have hfz20_4 := blk_frozen BK218.out 4
                        obtain ⟨Ao21, co21, eo21⟩ := Kd.R_slice HO_7.out
                        subst eo21
                        go_wp2_with (first | ((with_reducible refine gate_callee (f := 29) rfl ?_); refine goesL_ (some 46) rfl rfl Try.func29 (by kernel_rfl) rfl #[.slice Ao21 x7_1.length co21, .agg #[.int .i64 ((rd_T39 l0 x8_1).f1), .bool false, .string ((rd_T39 l0 x8_1).f0.f0), .string ((rd_T39 l0 x8_1).f0.f1), .string ((rd_T39 l0 x8_1).f0.f2)]] rfl (by (try simp only [List.map_toArray, List.map_cons, List.map_nil]); first | done | rfl | (simp only [List.length_drop, List.length_take]; rfl)) ?_; (with_reducible refine (porterref22_put.calls kj12 _ _ x7_1 ((rd_T39 l0 x8_1).f1) false ((rd_T39 l0 x8_1).f0.f0) ((rd_T39 l0 x8_1).f0.f1) ((rd_T39 l0 x8_1).f0.f2) t219 _ ?side1 ?side2 A18.out).mono ?_); (case side1 => repeat (first | exact (Kd.R_reads' HO_7.out).2.2 | (with_reducible refine Kd.C_alloc ?_ _) | (with_reducible refine Kd.C_drewN ?_ _) | (with_reducible refine Kd.C_drew ?_))); (case side2 => exact (Kd.R_reads' HO_7.out).2.1); rintro e w22 ⟨v220, rfl, ho0, hb⟩; refine ⟨_, rfl, ?_⟩; have n0_ := Aside0.mk (Kd.R_elder' (by (with_reducible repeat (first | apply Kd.R_alloc | apply Kd.R_drewN | apply Kd.R_drew)); exact HO_7.out) (Kd.R_base ho0) hb); have n1_ := Aside0.mk (Kd.R_lower (Kd.R_new' ho0 (Kd.R_lt (by (with_reducible repeat (first | apply Kd.R_alloc | apply Kd.R_drewN | apply Kd.R_drew)); exact HO_7.out))) (below_size (by repeat (first | (with_reducible first | exact HB.out | apply below_alloc | apply pw_below_drewN | apply below_drew1 | refine below_set ?_ GE218.out) | exact HB.out)))); have n2_ := Aside0.mk (blk_below (g := gb218) (o := .cells #[.string ((rd_T39 l0 x8_1).f0.f0), .string ((rd_T39 l0 x8_1).f0.f1), .string ((rd_T39 l0 x8_1).f0.f2), .int .i64 ((rd_T39 l0 x8_1).f1), .int .i64 ((rd_T39 l0 x8_1).f2)] 39 (0, 0)) (by (with_reducible repeat (first | refine blk_drewN ?_ _ | refine blk_drew ?_ | refine blk_alloc ?_ _)); exact BK218.out) hb); have n3_ := Aside0.mk (below_step (by repeat (first | (with_reducible first | exact HB.out | apply below_alloc | apply pw_below_drewN | apply below_drew1 | refine below_set ?_ GE218.out) | exact HB.out)) hb); clear HO_7; clear BK218; clear HB; have HO_7 := n0_; have HO221 := n1_; have BK218 := n2_; have HB := n3_; clear n0_ n1_ n2_ n3_; (try clear hb); (try clear hb2); (try clear hk); (try clear hi); (try clear ho0); have hcz23_0 : w22.cell? ⟨gb218, 0, none⟩ = some (.string ((rd_T39 l0 x8_1).f0.f0)) := (blk_cell BK218.out 0).trans rfl; have hcz23_1 : w22.cell? ⟨gb218, 1, none⟩ = some (.string ((rd_T39 l0 x8_1).f0.f1)) := (blk_cell BK218.out 1).trans rfl; have hcz23_2 : w22.cell? ⟨gb218, 2, none⟩ = some (.string ((rd_T39 l0 x8_1).f0.f2)) := (blk_cell BK218.out 2).trans rfl; have hcz23_3 : w22.cell? ⟨gb218, 3, none⟩ = some (.int .i64 ((rd_T39 l0 x8_1).f1)) := (blk_cell BK218.out 3).trans rfl; have hcz23_4 : w22.cell? ⟨gb218, 4, none⟩ = some (.int .i64 ((rd_T39 l0 x8_1).f2)) := (blk_cell BK218.out 4).trans rfl; have hfz23_0 := blk_frozen BK218.out 0; have hfz23_1 := blk_frozen BK218.out 1; have hfz23_2 := blk_frozen BK218.out 2; have hfz23_3 := blk_frozen BK218.out 3; have hfz23_4 := blk_frozen BK218.out 4))
                        go_roundg kj12
                        case measure => have := HK1.out; have := HJ5.out; have := HJ12.out; omega
                        case rel => exact ⟨(t219), (wrap64 (x8_1 + 1)), (by first | rfl | (simp; done) | (simp [*]; done)), H', ⟨by have := HK1.out; have := HJ5.out; have := HJ12.out; omega⟩, ⟨by (with_reducible repeat (first | apply Kd.R_alloc | apply Kd.R_drewN | apply Kd.R_drew)); exact Kd.R_mono HO221.out (fun _ hk => trivial)⟩, ⟨by repeat (first | (with_reducible first | exact HB.out | apply below_alloc | apply pw_below_drewN | apply below_drew1 | refine below_set ?_ GE218.out) | exact HB.out)⟩⟩
                      · rw [if_neg c19] at H
                        have c19b0 : (((rd_T39 l0 x8_1).f2) == 0) = false := beq_eq_false_iff_ne.mpr c19
                        have c19b1 : (((rd_T39 l0 x8_1).f2) != 0) = true := bne_iff_ne.mpr c19
                        by_cases c24 : a1 < ((rd_T39 l0 x8_1).f2)
                        · rw [if_pos c24] at H
                          have c24b0 : decide (a1 < ((rd_T39 l0 x8_1).f2)) = true := decide_eq_true c24
                          clear c24
                          by_cases c25 : ((rd_T39 l0 x8_1).f2) ≤ a2
                          · rw [if_pos c25] at H
                            have c25b0 : decide (((rd_T39 l0 x8_1).f2) ≤ a2) = true := decide_eq_true c25
                            clear c25
                            replace H := Option.bind_eq_some_iff.mp H
                            obtain ⟨t222, A260, H⟩ := H
                            replace H : (porterref22_Changes.l0 kj12 l0 a1 a2 t222 (wrap64 (x8_1 + 1))) = some r := H
                            have A26 := Aside0.mk A260
                            clear A260
                            have H' := Aside0.mk H
                            clear H
                            have hcz27_0 : wc.cell? ⟨gb218, 0, none⟩ = some (.string ((rd_T39 l0 x8_1).f0.f0)) := (blk_cell BK218.out 0).trans rfl
                            have hcz27_1 : wc.cell? ⟨gb218, 1, none⟩ = some (.string ((rd_T39 l0 x8_1).f0.f1)) := (blk_cell BK218.out 1).trans rfl
                            have hcz27_2 : wc.cell? ⟨gb218, 2, none⟩ = some (.string ((rd_T39 l0 x8_1).f0.f2)) := (blk_cell BK218.out 2).trans rfl
                            have hcz27_3 : wc.cell? ⟨gb218, 3, none⟩ = some (.int .i64 ((rd_T39 l0 x8_1).f1)) := (blk_cell BK218.out 3).trans rfl
                            have hcz27_4 : wc.cell? ⟨gb218, 4, none⟩ = some (.int .i64 ((rd_T39 l0 x8_1).f2)) := (blk_cell BK218.out 4).trans rfl
                            have hfz27_0 := blk_frozen BK218.out 0
                            have hfz27_1 := blk_frozen BK218.out 1
                            have hfz27_2 := blk_frozen BK218.out 2
                            have hfz27_3 := blk_frozen BK218.out 3
                            have hfz27_4 := blk_frozen BK218.out 4
                            obtain ⟨Ao28, co28, eo28⟩ := Kd.R_slice HO_7.out
                            subst eo28
                            go_wp2_with (first | ((with_reducible refine gate_callee (f := 29) rfl ?_); refine goesL_ (some 46) rfl rfl Try.func29 (by kernel_rfl) rfl #[.slice Ao28 x7_1.length co28, .agg #[.int .i64 ((rd_T39 l0 x8_1).f1), .bool false, .string ((rd_T39 l0 x8_1).f0.f0), .string ((rd_T39 l0 x8_1).f0.f1), .string ((rd_T39 l0 x8_1).f0.f2)]] rfl (by (try simp only [List.map_toArray, List.map_cons, List.map_nil]); first | done | rfl | (simp only [List.length_drop, List.length_take]; rfl)) ?_; (with_reducible refine (porterref22_put.calls kj12 _ _ x7_1 ((rd_T39 l0 x8_1).f1) false ((rd_T39 l0 x8_1).f0.f0) ((rd_T39 l0 x8_1).f0.f1) ((rd_T39 l0 x8_1).f0.f2) t219 _ ?side1 ?side2 A18.out).mono ?_); (case side1 => repeat (first | exact (Kd.R_reads' HO_7.out).2.2 | (with_reducible refine Kd.C_alloc ?_ _) | (with_reducible refine Kd.C_drewN ?_ _) | (with_reducible refine Kd.C_drew ?_))); (case side2 => exact (Kd.R_reads' HO_7.out).2.1); rintro e w29 ⟨v220, rfl, ho0, hb⟩; refine ⟨_, rfl, ?_⟩; have n0_ := Aside0.mk (Kd.R_elder' (by (with_reducible repeat (first | apply Kd.R_alloc | apply Kd.R_drewN | apply Kd.R_drew)); exact HO_7.out) (Kd.R_base ho0) hb); have n1_ := Aside0.mk (Kd.R_lower (Kd.R_new' ho0 (Kd.R_lt (by (with_reducible repeat (first | apply Kd.R_alloc | apply Kd.R_drewN | apply Kd.R_drew)); exact HO_7.out))) (below_size (by repeat (first | (with_reducible first | exact HB.out | apply below_alloc | apply pw_below_drewN | apply below_drew1 | refine below_set ?_ GE218.out) | exact HB.out)))); have n2_ := Aside0.mk (blk_below (g := gb218) (o := .cells #[.string ((rd_T39 l0 x8_1).f0.f0), .string ((rd_T39 l0 x8_1).f0.f1), .string ((rd_T39 l0 x8_1).f0.f2), .int .i64 ((rd_T39 l0 x8_1).f1), .int .i64 ((rd_T39 l0 x8_1).f2)] 39 (0, 0)) (by (with_reducible repeat (first | refine blk_drewN ?_ _ | refine blk_drew ?_ | refine blk_alloc ?_ _)); exact BK218.out) hb); have n3_ := Aside0.mk (below_step (by repeat (first | (with_reducible first | exact HB.out | apply below_alloc | apply pw_below_drewN | apply below_drew1 | refine below_set ?_ GE218.out) | exact HB.out)) hb); clear HO_7; clear BK218; clear HB; have HO_7 := n0_; have HO221 := n1_; have BK218 := n2_; have HB := n3_; clear n0_ n1_ n2_ n3_; (try clear hb); (try clear hb2); (try clear hk); (try clear hi); (try clear ho0); have hcz30_0 : w29.cell? ⟨gb218, 0, none⟩ = some (.string ((rd_T39 l0 x8_1).f0.f0)) := (blk_cell BK218.out 0).trans rfl; have hcz30_1 : w29.cell? ⟨gb218, 1, none⟩ = some (.string ((rd_T39 l0 x8_1).f0.f1)) := (blk_cell BK218.out 1).trans rfl; have hcz30_2 : w29.cell? ⟨gb218, 2, none⟩ = some (.string ((rd_T39 l0 x8_1).f0.f2)) := (blk_cell BK218.out 2).trans rfl; have hcz30_3 : w29.cell? ⟨gb218, 3, none⟩ = some (.int .i64 ((rd_T39 l0 x8_1).f1)) := (blk_cell BK218.out 3).trans rfl; have hcz30_4 : w29.cell? ⟨gb218, 4, none⟩ = some (.int .i64 ((rd_T39 l0 x8_1).f2)) := (blk_cell BK218.out 4).trans rfl; have hfz30_0 := blk_frozen BK218.out 0; have hfz30_1 := blk_frozen BK218.out 1; have hfz30_2 := blk_frozen BK218.out 2; have hfz30_3 := blk_frozen BK218.out 3; have hfz30_4 := blk_frozen BK218.out 4; obtain ⟨Ao31, co31, eo31⟩ := Kd.R_slice HO221.out; subst eo31) | ((with_reducible refine gate_callee (f := 29) rfl ?_); refine goesL_ (some 68) rfl rfl Try.func29 (by kernel_rfl) rfl #[.slice Ao31 t219.length co31, .agg #[.int .i64 ((rd_T39 l0 x8_1).f2), .bool true, .string ((rd_T39 l0 x8_1).f0.f0), .string ((rd_T39 l0 x8_1).f0.f1), .string ((rd_T39 l0 x8_1).f0.f2)]] rfl (by (try simp only [List.map_toArray, List.map_cons, List.map_nil]); first | done | rfl | (simp only [List.length_drop, List.length_take]; rfl)) ?_; (with_reducible refine (porterref22_put.calls kj12 _ _ t219 ((rd_T39 l0 x8_1).f2) true ((rd_T39 l0 x8_1).f0.f0) ((rd_T39 l0 x8_1).f0.f1) ((rd_T39 l0 x8_1).f0.f2) t222 _ ?side1 ?side2 A26.out).mono ?_); (case side1 => repeat (first | exact (Kd.R_reads' HO221.out).2.2 | (with_reducible refine Kd.C_alloc ?_ _) | (with_reducible refine Kd.C_drewN ?_ _) | (with_reducible refine Kd.C_drew ?_))); (case side2 => exact (Kd.R_reads' HO221.out).2.1); rintro e w32 ⟨v223, rfl, ho0, hb⟩; refine ⟨_, rfl, ?_⟩; have n0_ := Aside0.mk (Kd.R_elder' (by (with_reducible repeat (first | apply Kd.R_alloc | apply Kd.R_drewN | apply Kd.R_drew)); exact HO_7.out) (Kd.R_base ho0) hb); have n1_ := Aside0.mk (Kd.R_elder' (by (with_reducible repeat (first | apply Kd.R_alloc | apply Kd.R_drewN | apply Kd.R_drew)); exact HO221.out) (Kd.R_base ho0) hb); have n2_ := Aside0.mk (Kd.R_lower (Kd.R_new' (Kd.R_new' ho0 (Kd.R_lt (by (with_reducible repeat (first | apply Kd.R_alloc | apply Kd.R_drewN | apply Kd.R_drew)); exact HO_7.out))) (Kd.R_lt (by (with_reducible repeat (first | apply Kd.R_alloc | apply Kd.R_drewN | apply Kd.R_drew)); exact HO221.out))) (below_size (by repeat (first | (with_reducible first | exact HB.out | apply below_alloc | apply pw_below_drewN | apply below_drew1 | refine below_set ?_ GE218.out) | exact HB.out)))); have n3_ := Aside0.mk (blk_below (g := gb218) (o := .cells #[.string ((rd_T39 l0 x8_1).f0.f0), .string ((rd_T39 l0 x8_1).f0.f1), .string ((rd_T39 l0 x8_1).f0.f2), .int .i64 ((rd_T39 l0 x8_1).f1), .int .i64 ((rd_T39 l0 x8_1).f2)] 39 (0, 0)) (by (with_reducible repeat (first | refine blk_drewN ?_ _ | refine blk_drew ?_ | refine blk_alloc ?_ _)); exact BK218.out) hb); have n4_ := Aside0.mk (below_step (by repeat (first | (with_reducible first | exact HB.out | apply below_alloc | apply pw_below_drewN | apply below_drew1 | refine below_set ?_ GE218.out) | exact HB.out)) hb); clear HO_7; clear HO221; clear BK218; clear HB; have HO_7 := n0_; have HO221 := n1_; have HO224 := n2_; have BK218 := n3_; have HB := n4_; clear n0_ n1_ n2_ n3_ n4_; (try clear hb); (try clear hb2); (try clear hk); (try clear hi); (try clear ho0)))
                            go_roundg kj12
                            case measure => have := HK1.out; have := HJ5.out; have := HJ12.out; omega
                            case rel => exact ⟨(t222), (wrap64 (x8_1 + 1)), (by first | rfl | (simp; done) | (simp [*]; done)), H', ⟨by have := HK1.out; have := HJ5.out; have := HJ12.out; omega⟩, ⟨by (with_reducible repeat (first | apply Kd.R_alloc | apply Kd.R_drewN | apply Kd.R_drew)); exact Kd.R_mono HO224.out (fun _ hk => trivial)⟩, ⟨by repeat (first | (with_reducible first | exact HB.out | apply below_alloc | apply pw_below_drewN | apply below_drew1 | refine below_set ?_ GE218.out) | exact HB.out)⟩⟩
                          · rw [if_neg c25] at H
                            have c25b0 : decide (((rd_T39 l0 x8_1).f2) ≤ a2) = false := decide_eq_false c25
                            clear c25
                            have H' := Aside0.mk H
                            clear H
                            have hcz33_0 : wc.cell? ⟨gb218, 0, none⟩ = some (.string ((rd_T39 l0 x8_1).f0.f0)) := (blk_cell BK218.out 0).trans rfl
                            have hcz33_1 : wc.cell? ⟨gb218, 1, none⟩ = some (.string ((rd_T39 l0 x8_1).f0.f1)) := (blk_cell BK218.out 1).trans rfl
                            have hcz33_2 : wc.cell? ⟨gb218, 2, none⟩ = some (.string ((rd_T39 l0 x8_1).f0.f2)) := (blk_cell BK218.out 2).trans rfl
                            have hcz33_3 : wc.cell? ⟨gb218, 3, none⟩ = some (.int .i64 ((rd_T39 l0 x8_1).f1)) := (blk_cell BK218.out 3).trans rfl
                            have hcz33_4 : wc.cell? ⟨gb218, 4, none⟩ = some (.int .i64 ((rd_T39 l0 x8_1).f2)) := (blk_cell BK218.out 4).trans rfl
                            have hfz33_0 := blk_frozen BK218.out 0
                            have hfz33_1 := blk_frozen BK218.out 1
                            have hfz33_2 := blk_frozen BK218.out 2
                            have hfz33_3 := blk_frozen BK218.out 3
                            have hfz33_4 := blk_frozen BK218.out 4
                            obtain ⟨Ao34, co34, eo34⟩ := Kd.R_slice HO_7.out
                            subst eo34
                            go_wp2_with (first | ((with_reducible refine gate_callee (f := 29) rfl ?_); refine goesL_ (some 46) rfl rfl Try.func29 (by kernel_rfl) rfl #[.slice Ao34 x7_1.length co34, .agg #[.int .i64 ((rd_T39 l0 x8_1).f1), .bool false, .string ((rd_T39 l0 x8_1).f0.f0), .string ((rd_T39 l0 x8_1).f0.f1), .string ((rd_T39 l0 x8_1).f0.f2)]] rfl (by (try simp only [List.map_toArray, List.map_cons, List.map_nil]); first | done | rfl | (simp only [List.length_drop, List.length_take]; rfl)) ?_; (with_reducible refine (porterref22_put.calls kj12 _ _ x7_1 ((rd_T39 l0 x8_1).f1) false ((rd_T39 l0 x8_1).f0.f0) ((rd_T39 l0 x8_1).f0.f1) ((rd_T39 l0 x8_1).f0.f2) t219 _ ?side1 ?side2 A18.out).mono ?_); (case side1 => repeat (first | exact (Kd.R_reads' HO_7.out).2.2 | (with_reducible refine Kd.C_alloc ?_ _) | (with_reducible refine Kd.C_drewN ?_ _) | (with_reducible refine Kd.C_drew ?_))); (case side2 => exact (Kd.R_reads' HO_7.out).2.1); rintro e w35 ⟨v220, rfl, ho0, hb⟩; refine ⟨_, rfl, ?_⟩; have n0_ := Aside0.mk (Kd.R_elder' (by (with_reducible repeat (first | apply Kd.R_alloc | apply Kd.R_drewN | apply Kd.R_drew)); exact HO_7.out) (Kd.R_base ho0) hb); have n1_ := Aside0.mk (Kd.R_lower (Kd.R_new' ho0 (Kd.R_lt (by (with_reducible repeat (first | apply Kd.R_alloc | apply Kd.R_drewN | apply Kd.R_drew)); exact HO_7.out))) (below_size (by repeat (first | (with_reducible first | exact HB.out | apply below_alloc | apply pw_below_drewN | apply below_drew1 | refine below_set ?_ GE218.out) | exact HB.out)))); have n2_ := Aside0.mk (blk_below (g := gb218) (o := .cells #[.string ((rd_T39 l0 x8_1).f0.f0), .string ((rd_T39 l0 x8_1).f0.f1), .string ((rd_T39 l0 x8_1).f0.f2), .int .i64 ((rd_T39 l0 x8_1).f1), .int .i64 ((rd_T39 l0 x8_1).f2)] 39 (0, 0)) (by (with_reducible repeat (first | refine blk_drewN ?_ _ | refine blk_drew ?_ | refine blk_alloc ?_ _)); exact BK218.out) hb); have n3_ := Aside0.mk (below_step (by repeat (first | (with_reducible first | exact HB.out | apply below_alloc | apply pw_below_drewN | apply below_drew1 | refine below_set ?_ GE218.out) | exact HB.out)) hb); clear HO_7; clear BK218; clear HB; have HO_7 := n0_; have HO221 := n1_; have BK218 := n2_; have HB := n3_; clear n0_ n1_ n2_ n3_; (try clear hb); (try clear hb2); (try clear hk); (try clear hi); (try clear ho0); have hcz36_0 : w35.cell? ⟨gb218, 0, none⟩ = some (.string ((rd_T39 l0 x8_1).f0.f0)) := (blk_cell BK218.out 0).trans rfl; have hcz36_1 : w35.cell? ⟨gb218, 1, none⟩ = some (.string ((rd_T39 l0 x8_1).f0.f1)) := (blk_cell BK218.out 1).trans rfl; have hcz36_2 : w35.cell? ⟨gb218, 2, none⟩ = some (.string ((rd_T39 l0 x8_1).f0.f2)) := (blk_cell BK218.out 2).trans rfl; have hcz36_3 : w35.cell? ⟨gb218, 3, none⟩ = some (.int .i64 ((rd_T39 l0 x8_1).f1)) := (blk_cell BK218.out 3).trans rfl; have hcz36_4 : w35.cell? ⟨gb218, 4, none⟩ = some (.int .i64 ((rd_T39 l0 x8_1).f2)) := (blk_cell BK218.out 4).trans rfl; have hfz36_0 := blk_frozen BK218.out 0; have hfz36_1 := blk_frozen BK218.out 1; have hfz36_2 := blk_frozen BK218.out 2; have hfz36_3 := blk_frozen BK218.out 3; have hfz36_4 := blk_frozen BK218.out 4))
                            go_roundg kj12
                            case measure => have := HK1.out; have := HJ5.out; have := HJ12.out; omega
                            case rel => exact ⟨(t219), (wrap64 (x8_1 + 1)), (by first | rfl | (simp; done) | (simp [*]; done)), H', ⟨by have := HK1.out; have := HJ5.out; have := HJ12.out; omega⟩, ⟨by (with_reducible repeat (first | apply Kd.R_alloc | apply Kd.R_drewN | apply Kd.R_drew)); exact Kd.R_mono HO221.out (fun _ hk => trivial)⟩, ⟨by repeat (first | (with_reducible first | exact HB.out | apply below_alloc | apply pw_below_drewN | apply below_drew1 | refine below_set ?_ GE218.out) | exact HB.out)⟩⟩
                        · rw [if_neg c24] at H
                          have c24b0 : decide (a1 < ((rd_T39 l0 x8_1).f2)) = false := decide_eq_false c24
                          clear c24
                          have H' := Aside0.mk H
                          clear H
                          have hcz37_0 : wc.cell? ⟨gb218, 0, none⟩ = some (.string ((rd_T39 l0 x8_1).f0.f0)) := (blk_cell BK218.out 0).trans rfl
                          have hcz37_1 : wc.cell? ⟨gb218, 1, none⟩ = some (.string ((rd_T39 l0 x8_1).f0.f1)) := (blk_cell BK218.out 1).trans rfl
                          have hcz37_2 : wc.cell? ⟨gb218, 2, none⟩ = some (.string ((rd_T39 l0 x8_1).f0.f2)) := (blk_cell BK218.out 2).trans rfl
                          have hcz37_3 : wc.cell? ⟨gb218, 3, none⟩ = some (.int .i64 ((rd_T39 l0 x8_1).f1)) := (blk_cell BK218.out 3).trans rfl
                          have hcz37_4 : wc.cell? ⟨gb218, 4, none⟩ = some (.int .i64 ((rd_T39 l0 x8_1).f2)) := (blk_cell BK218.out 4).trans rfl
                          have hfz37_0 := blk_frozen BK218.out 0
                          have hfz37_1 := blk_frozen BK218.out 1
                          have hfz37_2 := blk_frozen BK218.out 2
                          have hfz37_3 := blk_frozen BK218.out 3
                          have hfz37_4 := blk_frozen BK218.out 4
                          obtain ⟨Ao38, co38, eo38⟩ := Kd.R_slice HO_7.out
                          subst eo38
                          go_wp2_with (first | ((with_reducible refine gate_callee (f := 29) rfl ?_); refine goesL_ (some 46) rfl rfl Try.func29 (by kernel_rfl) rfl #[.slice Ao38 x7_1.length co38, .agg #[.int .i64 ((rd_T39 l0 x8_1).f1), .bool false, .string ((rd_T39 l0 x8_1).f0.f0), .string ((rd_T39 l0 x8_1).f0.f1), .string ((rd_T39 l0 x8_1).f0.f2)]] rfl (by (try simp only [List.map_toArray, List.map_cons, List.map_nil]); first | done | rfl | (simp only [List.length_drop, List.length_take]; rfl)) ?_; (with_reducible refine (porterref22_put.calls kj12 _ _ x7_1 ((rd_T39 l0 x8_1).f1) false ((rd_T39 l0 x8_1).f0.f0) ((rd_T39 l0 x8_1).f0.f1) ((rd_T39 l0 x8_1).f0.f2) t219 _ ?side1 ?side2 A18.out).mono ?_); (case side1 => repeat (first | exact (Kd.R_reads' HO_7.out).2.2 | (with_reducible refine Kd.C_alloc ?_ _) | (with_reducible refine Kd.C_drewN ?_ _) | (with_reducible refine Kd.C_drew ?_))); (case side2 => exact (Kd.R_reads' HO_7.out).2.1); rintro e w39 ⟨v220, rfl, ho0, hb⟩; refine ⟨_, rfl, ?_⟩; have n0_ := Aside0.mk (Kd.R_elder' (by (with_reducible repeat (first | apply Kd.R_alloc | apply Kd.R_drewN | apply Kd.R_drew)); exact HO_7.out) (Kd.R_base ho0) hb); have n1_ := Aside0.mk (Kd.R_lower (Kd.R_new' ho0 (Kd.R_lt (by (with_reducible repeat (first | apply Kd.R_alloc | apply Kd.R_drewN | apply Kd.R_drew)); exact HO_7.out))) (below_size (by repeat (first | (with_reducible first | exact HB.out | apply below_alloc | apply pw_below_drewN | apply below_drew1 | refine below_set ?_ GE218.out) | exact HB.out)))); have n2_ := Aside0.mk (blk_below (g := gb218) (o := .cells #[.string ((rd_T39 l0 x8_1).f0.f0), .string ((rd_T39 l0 x8_1).f0.f1), .string ((rd_T39 l0 x8_1).f0.f2), .int .i64 ((rd_T39 l0 x8_1).f1), .int .i64 ((rd_T39 l0 x8_1).f2)] 39 (0, 0)) (by (with_reducible repeat (first | refine blk_drewN ?_ _ | refine blk_drew ?_ | refine blk_alloc ?_ _)); exact BK218.out) hb); have n3_ := Aside0.mk (below_step (by repeat (first | (with_reducible first | exact HB.out | apply below_alloc | apply pw_below_drewN | apply below_drew1 | refine below_set ?_ GE218.out) | exact HB.out)) hb); clear HO_7; clear BK218; clear HB; have HO_7 := n0_; have HO221 := n1_; have BK218 := n2_; have HB := n3_; clear n0_ n1_ n2_ n3_; (try clear hb); (try clear hb2); (try clear hk); (try clear hi); (try clear ho0); have hcz40_0 : w39.cell? ⟨gb218, 0, none⟩ = some (.string ((rd_T39 l0 x8_1).f0.f0)) := (blk_cell BK218.out 0).trans rfl; have hcz40_1 : w39.cell? ⟨gb218, 1, none⟩ = some (.string ((rd_T39 l0 x8_1).f0.f1)) := (blk_cell BK218.out 1).trans rfl; have hcz40_2 : w39.cell? ⟨gb218, 2, none⟩ = some (.string ((rd_T39 l0 x8_1).f0.f2)) := (blk_cell BK218.out 2).trans rfl; have hcz40_3 : w39.cell? ⟨gb218, 3, none⟩ = some (.int .i64 ((rd_T39 l0 x8_1).f1)) := (blk_cell BK218.out 3).trans rfl; have hcz40_4 : w39.cell? ⟨gb218, 4, none⟩ = some (.int .i64 ((rd_T39 l0 x8_1).f2)) := (blk_cell BK218.out 4).trans rfl; have hfz40_0 := blk_frozen BK218.out 0; have hfz40_1 := blk_frozen BK218.out 1; have hfz40_2 := blk_frozen BK218.out 2; have hfz40_3 := blk_frozen BK218.out 3; have hfz40_4 := blk_frozen BK218.out 4))
                          go_roundg kj12
                          case measure => have := HK1.out; have := HJ5.out; have := HJ12.out; omega
                          case rel => exact ⟨(t219), (wrap64 (x8_1 + 1)), (by first | rfl | (simp; done) | (simp [*]; done)), H', ⟨by have := HK1.out; have := HJ5.out; have := HJ12.out; omega⟩, ⟨by (with_reducible repeat (first | apply Kd.R_alloc | apply Kd.R_drewN | apply Kd.R_drew)); exact Kd.R_mono HO221.out (fun _ hk => trivial)⟩, ⟨by repeat (first | (with_reducible first | exact HB.out | apply below_alloc | apply pw_below_drewN | apply below_drew1 | refine below_set ?_ GE218.out) | exact HB.out)⟩⟩
                    · replace c17 := Bool.eq_false_iff.mpr c17
                      subst c17
                      have H1 : (if ((rd_T39 l0 x8_1).f2) = 0 then (porterref22_Changes.l0 kj12 l0 a1 a2 x7_1 (wrap64 (x8_1 + 1))) else (if a1 < ((rd_T39 l0 x8_1).f2) then (if ((rd_T39 l0 x8_1).f2) ≤ a2 then ((porterref22_put.f kj12 x7_1 ((rd_T39 l0 x8_1).f2) true ((rd_T39 l0 x8_1).f0.f0) ((rd_T39 l0 x8_1).f0.f1) ((rd_T39 l0 x8_1).f0.f2)).bind fun t225 => (porterref22_Changes.l0 kj12 l0 a1 a2 t225 (wrap64 (x8_1 + 1)))) else (porterref22_Changes.l0 kj12 l0 a1 a2 x7_1 (wrap64 (x8_1 + 1)))) else (porterref22_Changes.l0 kj12 l0 a1 a2 x7_1 (wrap64 (x8_1 + 1))))) = some r := by rw [if_neg (show ¬ (false = true) by decide)] at H; exact H
                      clear H
                      have H := H1
                      clear H1
                      by_cases c41 : ((rd_T39 l0 x8_1).f2) = 0
                      · rw [if_pos c41] at H
                        have c41b0 : (((rd_T39 l0 x8_1).f2) == 0) = true := beq_iff_eq.mpr c41
                        have c41b1 : (((rd_T39 l0 x8_1).f2) != 0) = false := bne_eq_false_iff_eq.mpr c41
                        clear c41
                        have H' := Aside0.mk H
                        clear H
                        have hcz42_0 : wc.cell? ⟨gb218, 0, none⟩ = some (.string ((rd_T39 l0 x8_1).f0.f0)) := (blk_cell BK218.out 0).trans rfl
                        have hcz42_1 : wc.cell? ⟨gb218, 1, none⟩ = some (.string ((rd_T39 l0 x8_1).f0.f1)) := (blk_cell BK218.out 1).trans rfl
                        have hcz42_2 : wc.cell? ⟨gb218, 2, none⟩ = some (.string ((rd_T39 l0 x8_1).f0.f2)) := (blk_cell BK218.out 2).trans rfl
                        have hcz42_3 : wc.cell? ⟨gb218, 3, none⟩ = some (.int .i64 ((rd_T39 l0 x8_1).f1)) := (blk_cell BK218.out 3).trans rfl
                        have hcz42_4 : wc.cell? ⟨gb218, 4, none⟩ = some (.int .i64 ((rd_T39 l0 x8_1).f2)) := (blk_cell BK218.out 4).trans rfl
                        have hfz42_0 := blk_frozen BK218.out 0
                        have hfz42_1 := blk_frozen BK218.out 1
                        have hfz42_2 := blk_frozen BK218.out 2
                        have hfz42_3 := blk_frozen BK218.out 3
                        have hfz42_4 := blk_frozen BK218.out 4
                        go_wp2
                        go_roundg kj12
                        case measure => have := HK1.out; have := HJ5.out; have := HJ12.out; omega
                        case rel => exact ⟨(x7_1), (wrap64 (x8_1 + 1)), (by first | rfl | (simp; done) | (simp [*]; done)), H', ⟨by have := HK1.out; have := HJ5.out; have := HJ12.out; omega⟩, ⟨by (with_reducible repeat (first | apply Kd.R_alloc | apply Kd.R_drewN | apply Kd.R_drew)); exact HO_7.out⟩, ⟨by repeat (first | (with_reducible first | exact HB.out | apply below_alloc | apply pw_below_drewN | apply below_drew1 | refine below_set ?_ GE218.out) | exact HB.out)⟩⟩
                      · rw [if_neg c41] at H
                        have c41b0 : (((rd_T39 l0 x8_1).f2) == 0) = false := beq_eq_false_iff_ne.mpr c41
                        have c41b1 : (((rd_T39 l0 x8_1).f2) != 0) = true := bne_iff_ne.mpr c41
                        by_cases c43 : a1 < ((rd_T39 l0 x8_1).f2)
                        · rw [if_pos c43] at H
                          have c43b0 : decide (a1 < ((rd_T39 l0 x8_1).f2)) = true := decide_eq_true c43
                          clear c43
                          by_cases c44 : ((rd_T39 l0 x8_1).f2) ≤ a2
                          · rw [if_pos c44] at H
                            have c44b0 : decide (((rd_T39 l0 x8_1).f2) ≤ a2) = true := decide_eq_true c44
                            clear c44
                            replace H := Option.bind_eq_some_iff.mp H
                            obtain ⟨t225, A450, H⟩ := H
                            replace H : (porterref22_Changes.l0 kj12 l0 a1 a2 t225 (wrap64 (x8_1 + 1))) = some r := H
                            have A45 := Aside0.mk A450
                            clear A450
                            have H' := Aside0.mk H
                            clear H
                            have hcz46_0 : wc.cell? ⟨gb218, 0, none⟩ = some (.string ((rd_T39 l0 x8_1).f0.f0)) := (blk_cell BK218.out 0).trans rfl
                            have hcz46_1 : wc.cell? ⟨gb218, 1, none⟩ = some (.string ((rd_T39 l0 x8_1).f0.f1)) := (blk_cell BK218.out 1).trans rfl
                            have hcz46_2 : wc.cell? ⟨gb218, 2, none⟩ = some (.string ((rd_T39 l0 x8_1).f0.f2)) := (blk_cell BK218.out 2).trans rfl
                            have hcz46_3 : wc.cell? ⟨gb218, 3, none⟩ = some (.int .i64 ((rd_T39 l0 x8_1).f1)) := (blk_cell BK218.out 3).trans rfl
                            have hcz46_4 : wc.cell? ⟨gb218, 4, none⟩ = some (.int .i64 ((rd_T39 l0 x8_1).f2)) := (blk_cell BK218.out 4).trans rfl
                            have hfz46_0 := blk_frozen BK218.out 0
                            have hfz46_1 := blk_frozen BK218.out 1
                            have hfz46_2 := blk_frozen BK218.out 2
                            have hfz46_3 := blk_frozen BK218.out 3
                            have hfz46_4 := blk_frozen BK218.out 4
                            obtain ⟨Ao47, co47, eo47⟩ := Kd.R_slice HO_7.out
                            subst eo47
                            go_wp2_with (first | ((with_reducible refine gate_callee (f := 29) rfl ?_); refine goesL_ (some 68) rfl rfl Try.func29 (by kernel_rfl) rfl #[.slice Ao47 x7_1.length co47, .agg #[.int .i64 ((rd_T39 l0 x8_1).f2), .bool true, .string ((rd_T39 l0 x8_1).f0.f0), .string ((rd_T39 l0 x8_1).f0.f1), .string ((rd_T39 l0 x8_1).f0.f2)]] rfl (by (try simp only [List.map_toArray, List.map_cons, List.map_nil]); first | done | rfl | (simp only [List.length_drop, List.length_take]; rfl)) ?_; (with_reducible refine (porterref22_put.calls kj12 _ _ x7_1 ((rd_T39 l0 x8_1).f2) true ((rd_T39 l0 x8_1).f0.f0) ((rd_T39 l0 x8_1).f0.f1) ((rd_T39 l0 x8_1).f0.f2) t225 _ ?side1 ?side2 A45.out).mono ?_); (case side1 => repeat (first | exact (Kd.R_reads' HO_7.out).2.2 | (with_reducible refine Kd.C_alloc ?_ _) | (with_reducible refine Kd.C_drewN ?_ _) | (with_reducible refine Kd.C_drew ?_))); (case side2 => exact (Kd.R_reads' HO_7.out).2.1); rintro e w48 ⟨v226, rfl, ho0, hb⟩; refine ⟨_, rfl, ?_⟩; have n0_ := Aside0.mk (Kd.R_elder' (by (with_reducible repeat (first | apply Kd.R_alloc | apply Kd.R_drewN | apply Kd.R_drew)); exact HO_7.out) (Kd.R_base ho0) hb); have n1_ := Aside0.mk (Kd.R_lower (Kd.R_new' ho0 (Kd.R_lt (by (with_reducible repeat (first | apply Kd.R_alloc | apply Kd.R_drewN | apply Kd.R_drew)); exact HO_7.out))) (below_size (by repeat (first | (with_reducible first | exact HB.out | apply below_alloc | apply pw_below_drewN | apply below_drew1 | refine below_set ?_ GE218.out) | exact HB.out)))); have n2_ := Aside0.mk (blk_below (g := gb218) (o := .cells #[.string ((rd_T39 l0 x8_1).f0.f0), .string ((rd_T39 l0 x8_1).f0.f1), .string ((rd_T39 l0 x8_1).f0.f2), .int .i64 ((rd_T39 l0 x8_1).f1), .int .i64 ((rd_T39 l0 x8_1).f2)] 39 (0, 0)) (by (with_reducible repeat (first | refine blk_drewN ?_ _ | refine blk_drew ?_ | refine blk_alloc ?_ _)); exact BK218.out) hb); have n3_ := Aside0.mk (below_step (by repeat (first | (with_reducible first | exact HB.out | apply below_alloc | apply pw_below_drewN | apply below_drew1 | refine below_set ?_ GE218.out) | exact HB.out)) hb); clear HO_7; clear BK218; clear HB; have HO_7 := n0_; have HO227 := n1_; have BK218 := n2_; have HB := n3_; clear n0_ n1_ n2_ n3_; (try clear hb); (try clear hb2); (try clear hk); (try clear hi); (try clear ho0)))
                            go_roundg kj12
                            case measure => have := HK1.out; have := HJ5.out; have := HJ12.out; omega
                            case rel => exact ⟨(t225), (wrap64 (x8_1 + 1)), (by first | rfl | (simp; done) | (simp [*]; done)), H', ⟨by have := HK1.out; have := HJ5.out; have := HJ12.out; omega⟩, ⟨by (with_reducible repeat (first | apply Kd.R_alloc | apply Kd.R_drewN | apply Kd.R_drew)); exact Kd.R_mono HO227.out (fun _ hk => trivial)⟩, ⟨by repeat (first | (with_reducible first | exact HB.out | apply below_alloc | apply pw_below_drewN | apply below_drew1 | refine below_set ?_ GE218.out) | exact HB.out)⟩⟩
                          · rw [if_neg c44] at H
                            have c44b0 : decide (((rd_T39 l0 x8_1).f2) ≤ a2) = false := decide_eq_false c44
                            clear c44
                            have H' := Aside0.mk H
                            clear H
                            have hcz49_0 : wc.cell? ⟨gb218, 0, none⟩ = some (.string ((rd_T39 l0 x8_1).f0.f0)) := (blk_cell BK218.out 0).trans rfl
                            have hcz49_1 : wc.cell? ⟨gb218, 1, none⟩ = some (.string ((rd_T39 l0 x8_1).f0.f1)) := (blk_cell BK218.out 1).trans rfl
                            have hcz49_2 : wc.cell? ⟨gb218, 2, none⟩ = some (.string ((rd_T39 l0 x8_1).f0.f2)) := (blk_cell BK218.out 2).trans rfl
                            have hcz49_3 : wc.cell? ⟨gb218, 3, none⟩ = some (.int .i64 ((rd_T39 l0 x8_1).f1)) := (blk_cell BK218.out 3).trans rfl
                            have hcz49_4 : wc.cell? ⟨gb218, 4, none⟩ = some (.int .i64 ((rd_T39 l0 x8_1).f2)) := (blk_cell BK218.out 4).trans rfl
                            have hfz49_0 := blk_frozen BK218.out 0
                            have hfz49_1 := blk_frozen BK218.out 1
                            have hfz49_2 := blk_frozen BK218.out 2
                            have hfz49_3 := blk_frozen BK218.out 3
                            have hfz49_4 := blk_frozen BK218.out 4
                            go_wp2
                            go_roundg kj12
                            case measure => have := HK1.out; have := HJ5.out; have := HJ12.out; omega
                            case rel => exact ⟨(x7_1), (wrap64 (x8_1 + 1)), (by first | rfl | (simp; done) | (simp [*]; done)), H', ⟨by have := HK1.out; have := HJ5.out; have := HJ12.out; omega⟩, ⟨by (with_reducible repeat (first | apply Kd.R_alloc | apply Kd.R_drewN | apply Kd.R_drew)); exact HO_7.out⟩, ⟨by repeat (first | (with_reducible first | exact HB.out | apply below_alloc | apply pw_below_drewN | apply below_drew1 | refine below_set ?_ GE218.out) | exact HB.out)⟩⟩
                        · rw [if_neg c43] at H
                          have c43b0 : decide (a1 < ((rd_T39 l0 x8_1).f2)) = false := decide_eq_false c43
                          clear c43
                          have H' := Aside0.mk H
                          clear H
                          have hcz50_0 : wc.cell? ⟨gb218, 0, none⟩ = some (.string ((rd_T39 l0 x8_1).f0.f0)) := (blk_cell BK218.out 0).trans rfl
                          have hcz50_1 : wc.cell? ⟨gb218, 1, none⟩ = some (.string ((rd_T39 l0 x8_1).f0.f1)) := (blk_cell BK218.out 1).trans rfl
                          have hcz50_2 : wc.cell? ⟨gb218, 2, none⟩ = some (.string ((rd_T39 l0 x8_1).f0.f2)) := (blk_cell BK218.out 2).trans rfl
                          have hcz50_3 : wc.cell? ⟨gb218, 3, none⟩ = some (.int .i64 ((rd_T39 l0 x8_1).f1)) := (blk_cell BK218.out 3).trans rfl
                          have hcz50_4 : wc.cell? ⟨gb218, 4, none⟩ = some (.int .i64 ((rd_T39 l0 x8_1).f2)) := (blk_cell BK218.out 4).trans rfl
                          have hfz50_0 := blk_frozen BK218.out 0
                          have hfz50_1 := blk_frozen BK218.out 1
                          have hfz50_2 := blk_frozen BK218.out 2
                          have hfz50_3 := blk_frozen BK218.out 3
                          have hfz50_4 := blk_frozen BK218.out 4
                          go_wp2
                          go_roundg kj12
                          case measure => have := HK1.out; have := HJ5.out; have := HJ12.out; omega
                          case rel => exact ⟨(x7_1), (wrap64 (x8_1 + 1)), (by first | rfl | (simp; done) | (simp [*]; done)), H', ⟨by have := HK1.out; have := HJ5.out; have := HJ12.out; omega⟩, ⟨by (with_reducible repeat (first | apply Kd.R_alloc | apply Kd.R_drewN | apply Kd.R_drew)); exact HO_7.out⟩, ⟨by repeat (first | (with_reducible first | exact HB.out | apply below_alloc | apply pw_below_drewN | apply below_drew1 | refine below_set ?_ GE218.out) | exact HB.out)⟩⟩
        · rw [if_neg c5] at H
          exact absurd H (by simp)
      · rw [if_neg c4] at H
        have c4b0 : decide (x8_1 < (l0.length : Int)) = false := decide_eq_false c4
        clear c4
        obtain rfl := Option.some.inj H
        go_wp2
        go_ret
        exact ⟨_, by first | rfl | (simp [errW_none, errW_some] <;> rfl) | (simp [*, errW_none, errW_some] <;> rfl), by (with_reducible repeat (first | apply Kd.R_alloc | apply Kd.R_drewN | apply Kd.R_drew)); exact HO_7.out, by repeat (first | (with_reducible first | exact HB.out | apply below_alloc | apply pw_below_drewN | apply below_drew1) | exact HB.out)⟩

end Go.Proofs.Ytobcakjlfdejjaa.PWatchTells
end
