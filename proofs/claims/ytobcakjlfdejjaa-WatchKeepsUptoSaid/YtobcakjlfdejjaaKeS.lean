/- The law WatchKeeps of the watch, where what came in is of bulk at most 1048576: what is handed in is left as it was and : part 19 of 25: what it leans on. -/
import Derived.Test.YtobcakjlfdejjaaRows
import Derived.OpenShut
import Derived.SizedLaws
import Derived.Test.YtobcakjlfdejjaaKeA
import Derived.Test.YtobcakjlfdejjaaKeB
import Derived.Test.YtobcakjlfdejjaaKeC
import Derived.Test.YtobcakjlfdejjaaKeD
import Derived.Test.YtobcakjlfdejjaaKeE
import Derived.Test.YtobcakjlfdejjaaKeF
import Derived.Test.YtobcakjlfdejjaaKeG
import Derived.Test.YtobcakjlfdejjaaKeH
import Derived.Test.YtobcakjlfdejjaaKeI
import Derived.Test.YtobcakjlfdejjaaKeJ
import Derived.Test.YtobcakjlfdejjaaKeK
import Derived.Test.YtobcakjlfdejjaaKeL
import Derived.Test.YtobcakjlfdejjaaKeM
import Derived.Test.YtobcakjlfdejjaaKeN
import Derived.Test.YtobcakjlfdejjaaKeO
import Derived.Test.YtobcakjlfdejjaaKeP
import Derived.Test.YtobcakjlfdejjaaKeQ
import Derived.Test.YtobcakjlfdejjaaKeR
section
set_option linter.unusedVariables false
set_option linter.unusedSimpArgs false
namespace Go.Proofs.Ytobcakjlfdejjaa.Watch
open Go.RowKit Go.Por Go.Sort Go.Por.StEq

theorem infoRow0 : (Try.prog.info? 39).map (·.size) = some 5 := by kernel_rfl
theorem part_tupR (x : Tup) (a b : Int) (w : World) : (part 37 (rowC (x, a, b)).toArray 0).run Try.prog w = .ok (.agg (tupC x).toArray) w := by
  unfold rowC tupC
  go_simp
theorem eqRowIn (d : Nat) (w : World) (x y : RowT) : (Op.equalIn (d + 3) 39 (.agg (rowC x).toArray) (.agg (rowC y).toArray)).run Try.prog w = .ok (decide (x = y)) w := by
  obtain ⟨x0, x1, x2⟩ := x
  obtain ⟨y0, y1, y2⟩ := y
  have h : (Op.equalIn (d + 3) 39 (.agg (rowC (x0, x1, x2)).toArray) (.agg (rowC (y0, y1, y2)).toArray)).run Try.prog w = .ok (decide (x0 = y0) && (x1 == y1 && x2 == y2)) w := by
    refine eqA_of Try.underlying39 (by kernel_rfl) ?_
    refine eqf_cons (by rfl) (part_tupR x0 x1 x2 w) (part_tupR y0 y1 y2 w) (eqTupIn d w x0 y0) ?_
    refine eqf_cons (a := .int .i64 x1) (b := .int .i64 y1) (by rfl) (by unfold rowC; go_simp) (by unfold rowC; go_simp) (by go_simp) ?_
    exact eqf_last (a := .int .i64 x2) (b := .int .i64 y2) (by rfl) (by unfold rowC; go_simp) (by unfold rowC; go_simp) (by go_simp)
  have e : (decide (x0 = y0) && (x1 == y1 && x2 == y2)) = decide ((x0, x1, x2) = (y0, y1, y2)) := by
    rw [Bool.eq_iff_iff]
    simp
  rw [h, e]
theorem eqRow (x y : RowT) (w : World) : (Op.equal 39 (.agg (rowC x).toArray) (.agg (rowC y).toArray)).run Try.prog w = .ok (decide (x = y)) w := eqRowIn 9997 w x y

set_option maxRecDepth 100000 in
set_option maxHeartbeats 1600000 in
theorem tuples_any {w : World} {v1 v2 : Value} {l1 l2 : List Tup} (h1 : ReadS tupC 3 w v1 l1) (h2 : ReadS tupC 3 w v2 l2) :
    Calls Try.prog 12 #[v1, v2] w fun e w' => e = .returned (.bool (decide (l1 = l2))) ∧ Mod (fun _ => False) w w' := by
  obtain ⟨ao1, cap1, rfl, hl1⟩ := h1.form
  obtain ⟨ao2, cap2, rfl, hl2⟩ := h2.form
  obtain ⟨n1, hn1⟩ : ∃ n, l1.length = n := ⟨_, rfl⟩
  obtain ⟨n2, hn2⟩ : ∃ n, l2.length = n := ⟨_, rfl⟩
  rw [hn1] at h1 hl1 ⊢
  rw [hn2] at h2 hl2 ⊢
  have HH := Lib.hid (And.intro h1 (And.intro h2 (And.intro hl1 (And.intro hn1 hn2))))
  clear h1 h2 hl2
  go_enter Try.func12, Try.ntmps12
  by_cases hne : n1 = n2
  · subst hne
    clear hn2 hn1
    go_wp2
    go_loopg [13] n1 (fun gg vi wx => ∃ t : Nat, t + gg = n1 ∧ vi = .int .i64 (t : Int) ∧ l1.take t = l2.take t ∧ Mod (fun _ => False) w wx)
    case atStart => exact ⟨0, by omega, rfl, rfl, Mod.refl _ _⟩
    case round =>
      obtain ⟨t, htg, rfl, heq, hmod⟩ := hrel
      have HI := Lib.hid (And.intro htg (And.intro heq hmod))
      by_cases hc : t < n1
      · obtain ⟨g1, g2, g3, g4, g5⟩ := HH.out
        have hci : (t : Int) < (n1 : Int) := by omega
        have ht0 : (0 : Int) ≤ (t : Int) := by omega
        have htb : (t : Int) < 9223372036854775807 := by omega
        have k6 : IntKind.i64.wrap (t : Int) = (t : Int) := by simp [IntKind.wrap, IntKind.bits, IntKind.signed]; omega
        obtain ⟨x, hx⟩ : ∃ x, l1[t]? = some x := ⟨_, List.getElem?_eq_getElem (by omega)⟩
        obtain ⟨y, hy⟩ : ∃ y, l2[t]? = some y := ⟨_, List.getElem?_eq_getElem (by omega)⟩
        have d1 := (g1.mod (S := fun _ => False) (by decide) tupC_len hmod.drew (fun _ _ h => h))
        have d2 := (g2.mod (S := fun _ => False) (by decide) tupC_len hmod.drew (fun _ _ h => h))
        obtain ⟨b1, o1, rfl, r1, lt1⟩ := d1.lt (by decide) tupC_len hx
        obtain ⟨b2, o2, rfl, r2, lt2⟩ := d2.lt (by decide) tupC_len hy
        obtain ⟨cx, hcx⟩ : ∃ cx, tupC x = cx := ⟨_, rfl⟩
        obtain ⟨cy, hcy⟩ : ∃ cy, tupC y = cy := ⟨_, rfl⟩
        have hx5 : cx.length = 3 := by rw [← hcx]; rfl
        have hy5 : cy.length = 3 := by rw [← hcy]; rfl
        obtain ⟨bb, hbb⟩ : ∃ bb, decide (x = y) = bb := ⟨_, rfl⟩
        have hq : ∀ w, (Op.equal 37 (.agg cx.toArray) (.agg cy.toArray)).run Try.prog w = .ok bb w := fun w => by
          rw [← hcx, ← hcy, ← hbb]
          exact eqTup x y w
        rw [hcx] at r1
        rw [hcy] at r2
        have HQ := Lib.hid hq
        have HX := Lib.hid (And.intro hx5 (And.intro hy5 (And.intro r1 (And.intro lt1 (And.intro r2 (And.intro lt2 hbb))))))
        have HE := Lib.hid (And.intro hx (And.intro hy hc))
        clear g1 g2 g3 g4 g5 hx hy d1 d2 r1 lt1 r2 lt2 hcx hcy hx5 hy5 hbb hq htg heq hmod hc
        go_wp2_with fail
        refine wp_region_held_drew (S := fun w' => Gr wr.drew w') (by kernel_rfl) (Gr.refl _) (fun hS => ?_)
        refine takeD (i := 0) rfl (by kernel_rfl) (by kernel_rfl) (by kernel_rfl) (fun _ _ _ h => h) hS (Or.inl ⟨by rfl, fun w hSw => by go_simp; rfl⟩) ?_
        simp only [Act.put, List.setIfInBounds_toArray, List.set_cons_zero, List.set_cons_succ]
        refine takeD (i := 1) rfl (by kernel_rfl) (by kernel_rfl) (by kernel_rfl) (fun _ _ _ h => h) hS (Or.inl ⟨by rfl, fun w hSw => by go_simp; rfl⟩) ?_
        simp only [Act.put, List.setIfInBounds_toArray, List.set_cons_zero, List.set_cons_succ]
        refine takeD (i := 2) rfl (by kernel_rfl) (by kernel_rfl) (by kernel_rfl) (fun _ _ _ h => h) hS (Or.inl ⟨by rfl, fun w hSw => by go_simp; rfl⟩) ?_
        simp only [Act.put, List.setIfInBounds_toArray, List.set_cons_zero, List.set_cons_succ]
        refine takeD (i := 3) rfl (by kernel_rfl) (by kernel_rfl) (by kernel_rfl) (fun _ _ _ h => h) hS (yieldsIf_load_mid (by rfl) 37 (.tmp 18) rfl b1 (o1 + t * 3) rfl cx _ (fun w hSw => range_below HX.out.2.2.1 hSw.below HX.out.2.2.2.1) Try.underlying37 rfl (by rw [HX.out.1]; exact infoTup0)) ?_
        simp only [Act.put, List.setIfInBounds_toArray, List.set_cons_zero, List.set_cons_succ]
        refine takeD (i := 4) rfl (by kernel_rfl) (by kernel_rfl) (by kernel_rfl) (fun _ _ _ h => h) hS (Or.inl ⟨by rfl, fun w hSw => by go_simp; rfl⟩) ?_
        simp only [Act.put, List.setIfInBounds_toArray, List.set_cons_zero, List.set_cons_succ]
        refine takeD (i := 5) rfl (by kernel_rfl) (by kernel_rfl) (by kernel_rfl) (fun _ _ _ h => h) hS (Or.inl ⟨by rfl, fun w hSw => by go_simp; rfl⟩) ?_
        simp only [Act.put, List.setIfInBounds_toArray, List.set_cons_zero, List.set_cons_succ]
        refine takeD (i := 6) rfl (by kernel_rfl) (by kernel_rfl) (by kernel_rfl) (fun _ _ _ h => h) hS (Or.inl ⟨by rfl, fun w hSw => by go_simp; rfl⟩) ?_
        simp only [Act.put, List.setIfInBounds_toArray, List.set_cons_zero, List.set_cons_succ]
        refine takeD (i := 7) rfl (by kernel_rfl) (by kernel_rfl) (by kernel_rfl) (fun _ _ _ h => h) hS (yieldsIf_load_mid (by rfl) 37 (.tmp 22) rfl b2 (o2 + t * 3) rfl cy _ (fun w hSw => range_below HX.out.2.2.2.2.1 hSw.below HX.out.2.2.2.2.2.1) Try.underlying37 rfl (by rw [HX.out.2.1]; exact infoTup0)) ?_
        simp only [Act.put, List.setIfInBounds_toArray, List.set_cons_zero, List.set_cons_succ]
        refine takeD (i := 8) rfl (by kernel_rfl) (by kernel_rfl) (by kernel_rfl) (fun _ _ _ h => h) hS (yields_neS (by rfl) 37 (.tmp 19) (.tmp 23) _ rfl cx.toArray cy.toArray rfl rfl (by kernel_rfl) bb HQ.out) ?_
        simp only [Act.put, List.setIfInBounds_toArray, List.set_cons_zero, List.set_cons_succ]
        refine wpAnyH_done (by kernel_rfl) ?_ _
        clear hS
        cases bb with
        | true =>
          simp only [Bool.not_true]
          go_wp2
          go_roundg (gk - 1)
          case measure => have h1 := HI.out; have h2 := HE.out; omega
          case rel =>
            obtain ⟨i1, i2, i3⟩ := HI.out
            obtain ⟨e1, e2, e3⟩ := HE.out
            have hxy : x = y := of_decide_eq_true HX.out.2.2.2.2.2.2
            exact ⟨t + 1, by omega, by go_num, by rw [List.take_add_one, List.take_add_one, i2, e1, e2, hxy], i3.drew⟩
        | false =>
          simp only [Bool.not_false]
          go_wp2
          go_ret
          obtain ⟨e1, e2, e3⟩ := HE.out
          have hxy : ¬ x = y := of_decide_eq_false HX.out.2.2.2.2.2.2
          refine ⟨?_, HI.out.2.2.drew⟩
          rw [decide_eq_false (fun e => hxy (by rw [e] at e1; rw [e1] at e2; exact Option.some.inj e2))]
          rfl
      · have hci : ¬ (t : Int) < (n1 : Int) := by omega
        have HE := Lib.hid hc
        clear htg heq hmod hc
        go_wp2
        go_ret
        obtain ⟨i1, i2, i3⟩ := HI.out
        obtain ⟨g1, g2, g3, g4, g5⟩ := HH.out
        have hcc := HE.out
        rw [List.take_of_length_le (by omega), List.take_of_length_le (by omega)] at i2
        refine ⟨?_, i3⟩
        rw [decide_eq_true i2]
        rfl
  · have q : ((n1 : Int) != (n2 : Int)) = true := by rw [bne_iff_ne]; omega
    have HE := Lib.hid hne
    clear hne hn1 hn2
    go_wp2
    go_ret
    obtain ⟨g1, g2, g3, g4, g5⟩ := HH.out
    refine ⟨?_, Mod.refl _ _⟩
    rw [decide_eq_false (fun e => HE.out (by rw [← g4, ← g5, e]))]
    rfl

set_option maxRecDepth 100000 in
set_option maxHeartbeats 1600000 in
theorem same07_any {w : World} {v1 v2 : Value} {l1 l2 : List RowT} (h1 : ReadS rowC 5 w v1 l1) (h2 : ReadS rowC 5 w v2 l2) :
    Calls Try.prog 18 #[v1, v2] w fun e w' => e = .returned (.bool (decide (l1 = l2))) ∧ Mod (fun _ => False) w w' := by
  obtain ⟨ao1, cap1, rfl, hl1⟩ := h1.form
  obtain ⟨ao2, cap2, rfl, hl2⟩ := h2.form
  obtain ⟨n1, hn1⟩ : ∃ n, l1.length = n := ⟨_, rfl⟩
  obtain ⟨n2, hn2⟩ : ∃ n, l2.length = n := ⟨_, rfl⟩
  rw [hn1] at h1 hl1 ⊢
  rw [hn2] at h2 hl2 ⊢
  have HH := Lib.hid (And.intro h1 (And.intro h2 (And.intro hl1 (And.intro hn1 hn2))))
  clear h1 h2 hl2
  go_enter Try.func18, Try.ntmps18
  by_cases hne : n1 = n2
  · subst hne
    clear hn2 hn1
    go_wp2
    go_loopg [5] n1 (fun gg vi wx => ∃ t : Nat, t + gg = n1 ∧ vi = .int .i64 (t : Int) ∧ l1.take t = l2.take t ∧ Mod (fun _ => False) w wx)
    case atStart => exact ⟨0, by omega, rfl, rfl, Mod.refl _ _⟩
    case round =>
      obtain ⟨t, htg, rfl, heq, hmod⟩ := hrel
      have HI := Lib.hid (And.intro htg (And.intro heq hmod))
      by_cases hc : t < n1
      · obtain ⟨g1, g2, g3, g4, g5⟩ := HH.out
        have hci : (t : Int) < (n1 : Int) := by omega
        have ht0 : (0 : Int) ≤ (t : Int) := by omega
        have htb : (t : Int) < 9223372036854775807 := by omega
        have k6 : IntKind.i64.wrap (t : Int) = (t : Int) := by simp [IntKind.wrap, IntKind.bits, IntKind.signed]; omega
        obtain ⟨x, hx⟩ : ∃ x, l1[t]? = some x := ⟨_, List.getElem?_eq_getElem (by omega)⟩
        obtain ⟨y, hy⟩ : ∃ y, l2[t]? = some y := ⟨_, List.getElem?_eq_getElem (by omega)⟩
        have d1 := (g1.mod (S := fun _ => False) (by decide) rowC_len hmod.drew (fun _ _ h => h))
        have d2 := (g2.mod (S := fun _ => False) (by decide) rowC_len hmod.drew (fun _ _ h => h))
        obtain ⟨b1, o1, rfl, r1, lt1⟩ := d1.lt (by decide) rowC_len hx
        obtain ⟨b2, o2, rfl, r2, lt2⟩ := d2.lt (by decide) rowC_len hy
        obtain ⟨cx, hcx⟩ : ∃ cx, rowC x = cx := ⟨_, rfl⟩
        obtain ⟨cy, hcy⟩ : ∃ cy, rowC y = cy := ⟨_, rfl⟩
        have hx5 : cx.length = 5 := by rw [← hcx]; rfl
        have hy5 : cy.length = 5 := by rw [← hcy]; rfl
        obtain ⟨bb, hbb⟩ : ∃ bb, decide (x = y) = bb := ⟨_, rfl⟩
        have hq : ∀ w, (Op.equal 39 (.agg cx.toArray) (.agg cy.toArray)).run Try.prog w = .ok bb w := fun w => by
          rw [← hcx, ← hcy, ← hbb]
          exact eqRow x y w
        rw [hcx] at r1
        rw [hcy] at r2
        have HQ := Lib.hid hq
        have HX := Lib.hid (And.intro hx5 (And.intro hy5 (And.intro r1 (And.intro lt1 (And.intro r2 (And.intro lt2 hbb))))))
        have HE := Lib.hid (And.intro hx (And.intro hy hc))
        clear g1 g2 g3 g4 g5 hx hy d1 d2 r1 lt1 r2 lt2 hcx hcy hx5 hy5 hbb hq htg heq hmod hc
        go_wp2_with fail
        refine wp_region_held_drew (S := fun w' => Gr wr.drew w') (by kernel_rfl) (Gr.refl _) (fun hS => ?_)
        refine takeD (i := 0) rfl (by kernel_rfl) (by kernel_rfl) (by kernel_rfl) (fun _ _ _ h => h) hS (Or.inl ⟨by rfl, fun w hSw => by go_simp; rfl⟩) ?_
        simp only [Act.put, List.setIfInBounds_toArray, List.set_cons_zero, List.set_cons_succ]
        refine takeD (i := 1) rfl (by kernel_rfl) (by kernel_rfl) (by kernel_rfl) (fun _ _ _ h => h) hS (Or.inl ⟨by rfl, fun w hSw => by go_simp; rfl⟩) ?_
        simp only [Act.put, List.setIfInBounds_toArray, List.set_cons_zero, List.set_cons_succ]
        refine takeD (i := 2) rfl (by kernel_rfl) (by kernel_rfl) (by kernel_rfl) (fun _ _ _ h => h) hS (Or.inl ⟨by rfl, fun w hSw => by go_simp; rfl⟩) ?_
        simp only [Act.put, List.setIfInBounds_toArray, List.set_cons_zero, List.set_cons_succ]
        refine takeD (i := 3) rfl (by kernel_rfl) (by kernel_rfl) (by kernel_rfl) (fun _ _ _ h => h) hS (yieldsIf_load_mid (by rfl) 39 (.tmp 19) rfl b1 (o1 + t * 5) rfl cx _ (fun w hSw => range_below HX.out.2.2.1 hSw.below HX.out.2.2.2.1) Try.underlying39 rfl (by rw [HX.out.1]; exact infoRow0)) ?_
        simp only [Act.put, List.setIfInBounds_toArray, List.set_cons_zero, List.set_cons_succ]
        refine takeD (i := 4) rfl (by kernel_rfl) (by kernel_rfl) (by kernel_rfl) (fun _ _ _ h => h) hS (Or.inl ⟨by rfl, fun w hSw => by go_simp; rfl⟩) ?_
        simp only [Act.put, List.setIfInBounds_toArray, List.set_cons_zero, List.set_cons_succ]
        refine takeD (i := 5) rfl (by kernel_rfl) (by kernel_rfl) (by kernel_rfl) (fun _ _ _ h => h) hS (Or.inl ⟨by rfl, fun w hSw => by go_simp; rfl⟩) ?_
        simp only [Act.put, List.setIfInBounds_toArray, List.set_cons_zero, List.set_cons_succ]
        refine takeD (i := 6) rfl (by kernel_rfl) (by kernel_rfl) (by kernel_rfl) (fun _ _ _ h => h) hS (Or.inl ⟨by rfl, fun w hSw => by go_simp; rfl⟩) ?_
        simp only [Act.put, List.setIfInBounds_toArray, List.set_cons_zero, List.set_cons_succ]
        refine takeD (i := 7) rfl (by kernel_rfl) (by kernel_rfl) (by kernel_rfl) (fun _ _ _ h => h) hS (yieldsIf_load_mid (by rfl) 39 (.tmp 23) rfl b2 (o2 + t * 5) rfl cy _ (fun w hSw => range_below HX.out.2.2.2.2.1 hSw.below HX.out.2.2.2.2.2.1) Try.underlying39 rfl (by rw [HX.out.2.1]; exact infoRow0)) ?_
        simp only [Act.put, List.setIfInBounds_toArray, List.set_cons_zero, List.set_cons_succ]
        refine takeD (i := 8) rfl (by kernel_rfl) (by kernel_rfl) (by kernel_rfl) (fun _ _ _ h => h) hS (yields_neS (by rfl) 39 (.tmp 20) (.tmp 24) _ rfl cx.toArray cy.toArray rfl rfl (by kernel_rfl) bb HQ.out) ?_
        simp only [Act.put, List.setIfInBounds_toArray, List.set_cons_zero, List.set_cons_succ]
        refine wpAnyH_done (by kernel_rfl) ?_ _
        clear hS
        cases bb with
        | true =>
          simp only [Bool.not_true]
          go_wp2
          go_roundg (gk - 1)
          case measure => have h1 := HI.out; have h2 := HE.out; omega
          case rel =>
            obtain ⟨i1, i2, i3⟩ := HI.out
            obtain ⟨e1, e2, e3⟩ := HE.out
            have hxy : x = y := of_decide_eq_true HX.out.2.2.2.2.2.2
            exact ⟨t + 1, by omega, by go_num, by rw [List.take_add_one, List.take_add_one, i2, e1, e2, hxy], i3.drew⟩
        | false =>
          simp only [Bool.not_false]
          go_wp2
          go_ret
          obtain ⟨e1, e2, e3⟩ := HE.out
          have hxy : ¬ x = y := of_decide_eq_false HX.out.2.2.2.2.2.2
          refine ⟨?_, HI.out.2.2.drew⟩
          rw [decide_eq_false (fun e => hxy (by rw [e] at e1; rw [e1] at e2; exact Option.some.inj e2))]
          rfl
      · have hci : ¬ (t : Int) < (n1 : Int) := by omega
        have HE := Lib.hid hc
        clear htg heq hmod hc
        go_wp2
        go_ret
        obtain ⟨i1, i2, i3⟩ := HI.out
        obtain ⟨g1, g2, g3, g4, g5⟩ := HH.out
        have hcc := HE.out
        rw [List.take_of_length_le (by omega), List.take_of_length_le (by omega)] at i2
        refine ⟨?_, i3⟩
        rw [decide_eq_true i2]
        rfl
  · have q : ((n1 : Int) != (n2 : Int)) = true := by rw [bne_iff_ne]; omega
    have HE := Lib.hid hne
    clear hne hn1 hn2
    go_wp2
    go_ret
    obtain ⟨g1, g2, g3, g4, g5⟩ := HH.out
    refine ⟨?_, Mod.refl _ _⟩
    rw [decide_eq_false (fun e => HE.out (by rw [← g4, ← g5, e]))]
    rfl
end Go.Proofs.Ytobcakjlfdejjaa.Watch
end
section
set_option linter.unusedVariables false
set_option linter.unusedSimpArgs false
namespace Go.Por
open Go.RowKit Go.MapKept

/-- A list without repetitions whose members lie in another is a part of it. -/
theorem nodup_part {α : Type} [DecidableEq α] : ∀ {a b : List α}, a.Nodup → (∀ x ∈ a, x ∈ b) → ∃ c, b.Perm (a ++ c)
  | [], b, _, _ => ⟨b, .refl _⟩
  | x :: a, b, hn, hs => by
    rw [List.nodup_cons] at hn
    have hx : x ∈ b := hs x (by simp)
    obtain ⟨c, hc⟩ := nodup_part (a := a) (b := b.erase x) hn.2 (fun y hy => (List.mem_erase_of_ne (fun (e : y = x) => hn.1 (by rw [← e]; exact hy))).2 (hs y (by simp [hy])))
    exact ⟨c, (List.perm_cons_erase hx).trans (hc.cons x)⟩
theorem nodup_length {α : Type} [DecidableEq α] {a b : List α} (hn : a.Nodup) (hs : ∀ x ∈ a, x ∈ b) : a.length ≤ b.length := by
  obtain ⟨c, hc⟩ := nodup_part hn hs
  rw [hc.length_eq]; simp
theorem nodup_perm {α : Type} [DecidableEq α] {a b : List α} (hn : a.Nodup) (hs : ∀ x ∈ a, x ∈ b) (hl : b.length ≤ a.length) : a.Perm b := by
  obtain ⟨c, hc⟩ := nodup_part hn hs
  have : c = [] := by
    have := hc.length_eq
    simp at this
    exact List.length_eq_zero_iff.1 (by omega)
  subst this
  simpa using hc.symm

section
variable {P : Program} {kt et t : TypeId} {κ : Type} {enc : κ → Value} {w : World} {M I : Nat} {l : List (κ × Value)}

/-- Block I goes over the map of block M; 'done' has come already. -/
def IterIs (w : World) (I M : Nat) (enc : κ → Value) (l done : List (κ × Value)) : Prop :=
  ∃ es clock, w.heap[M]? = some (.map es clock) ∧ es.toList.map (fun e => (e.key, e.val)) = l.map (fun p => (enc p.1, p.2)) ∧ (l.map Prod.fst).Nodup ∧
    (∀ e ∈ es.toList, e.born < clock) ∧ (es.toList.map (·.born)).Nodup ∧
    ∃ idx : List Nat, idx.Nodup ∧ (∀ i ∈ idx, i < l.length) ∧ done.map some = idx.map (fun i => l[i]?) ∧
      ∃ seen : Array Nat, w.heap[I]? = some (.mapIter (some M) clock seen clock) ∧ seen.toList.map some = idx.map (fun i => (es.toList[i]?).map (·.born))

theorem IterIs.map {done : List (κ × Value)} (h : IterIs w I M enc l done) : MapIs w M enc l := by
  obtain ⟨es, clock, h1, h2, h3, h4, h5, _⟩ := h
  exact ⟨es, clock, h1, h2, h3, h4, h5⟩
theorem IterIs.ltI {done : List (κ × Value)} (h : IterIs w I M enc l done) : I < w.heap.size := by
  obtain ⟨es, clock, h1, h2, h3, h4, h5, idx, _, _, _, seen, hs, _⟩ := h
  exact lt_block hs
theorem IterIs.keep {done : List (κ × Value)} {w' : World} (h : IterIs w I M enc l done) (hM : w'.heap[M]? = w.heap[M]?) (hI : w'.heap[I]? = w.heap[I]?) : IterIs w' I M enc l done := by
  obtain ⟨es, clock, h1, h2, h3, h4, h5, idx, h6, h7, h8, seen, hs, h9⟩ := h
  exact ⟨es, clock, hM.trans h1, h2, h3, h4, h5, idx, h6, h7, h8, seen, hI.trans hs, h9⟩
theorem IterIs.mod {done : List (κ × Value)} {S : Nat → Prop} {w' : World} (h : IterIs w I M enc l done) (hm : Mod S w w') (h1 : ¬ S M) (h2 : ¬ S I) : IterIs w' I M enc l done :=
  h.keep (hm.block M h.map.lt h1) (hm.block I h.ltI h2)

/-- 'range m'. -/
theorem MapIs.range (ht : P.underlying t = some (.map kt et)) (h : MapIs w M enc l) :
    ∃ o, (Instr.range t (.map (some M))).run P w = .ok (.pointer (some ⟨w.heap.size, 0, none⟩)) (w.alloc o) ∧ IterIs (w.alloc o) w.heap.size M enc l [] := by
  have hlt := h.lt
  obtain ⟨es, clock, hb, he, hn, hborn, hbn⟩ := h
  refine ⟨.mapIter (some M) clock #[] clock, by simp [Instr.range, run_underlying ht, MapKept.run_getObj_map hb, Result.andThen], ?_⟩
  exact ⟨es, clock, (Below.heap_alloc _ _ _ hlt).trans hb, he, hn, hborn, hbn, [], by simp, by simp, rfl, #[], block_new _ _, rfl⟩

theorem run_getObj_iter {m : Option Nat} {a b : Nat} {s : Array Nat} (hb : w.heap[I]? = some (.mapIter m a s b)) : (getObj I).run P w = .ok (.mapIter m a s b) w := by
  simp [getObj, Sem.run, hb]
theorem run_setObj_iter {m : Option Nat} {a b : Nat} {s : Array Nat} (o : Obj) (hb : w.heap[I]? = some (.mapIter m a s b)) : (setObj I o).run P w = .ok () (setB w I o) := by
  simp [setObj, Sem.run, hb, setB]

/-- The next entry: none is left, or some one that has not come yet. -/
theorem IterIs.next {done : List (κ × Value)} (h : IterIs w I M enc l done) :
    (done.length = l.length ∧ ∀ ty, (Instr.next (.pointer (some ⟨I, 0, none⟩)) false ty).run P w = .ok (.tuple #[.bool false]) w) ∨
    ∃ k v w', done.length < l.length ∧ (k, v) ∈ l ∧ (k, v) ∉ done ∧ (∀ ty, (Instr.next (.pointer (some ⟨I, 0, none⟩)) false ty).run P w = .ok (.tuple #[.bool true, enc k, v]) w') ∧
      IterIs w' I M enc l (done ++ [(k, v)]) ∧ Mod (fun x => x = I) w w' ∧ (Instr.entry (.pointer (some ⟨I, 0, none⟩))).run P w' = .ok (.tuple #[enc k, v]) w' := by
  obtain ⟨es, clock, hb, he, hn, hborn, hbn, idx, h6, h7, h8, seen, hs, h9⟩ := h
  have hlen : es.size = l.length := by simpa using congrArg List.length he
  have hdl : done.length = idx.length := by simpa using congrArg List.length h8
  have hMI : M ≠ I := by intro e; subst e; rw [hb] at hs; simp at hs
  -- what has been seen
  have hseen : ∀ (i : Nat) (e : MapEntry), es.toList[i]? = some e → (e.born ∈ seen.toList ↔ i ∈ idx) := by
    intro i e hi
    constructor
    · intro hm
      have : some e.born ∈ idx.map (fun i => (es.toList[i]?).map (·.born)) := by rw [← h9]; exact List.mem_map.2 ⟨_, hm, rfl⟩
      obtain ⟨j, hj, ej⟩ := List.mem_map.1 this
      cases hx : es.toList[j]? with
      | none => simp [hx] at ej
      | some x =>
        simp [hx] at ej
        have hi' : i < es.toList.length := by
          rcases Nat.lt_or_ge i es.toList.length with h | h
          · exact h
          · simp [List.getElem?_eq_none h] at hi
        have hj' : j < es.toList.length := by
          rcases Nat.lt_or_ge j es.toList.length with h | h
          · exact h
          · simp [List.getElem?_eq_none h] at hx
        have q1 : es.toList[i] = e := by simpa [List.getElem?_eq_getElem hi'] using hi
        have q2 : es.toList[j] = x := by simpa [List.getElem?_eq_getElem hj'] using hx
        have a1 : (es.toList.map (·.born))[i]'(by simpa using hi') = (es.toList.map (·.born))[j]'(by simpa using hj') := by
          rw [List.getElem_map, List.getElem_map, q1, q2, ej]
        have := (List.getElem_inj hbn).1 a1
        subst this
        exact hj
    · intro hm
      have : some e.born ∈ seen.toList.map some := by rw [h9]; exact List.mem_map.2 ⟨i, hm, by rw [hi]; rfl⟩
      obtain ⟨x, hx, ex⟩ := List.mem_map.1 this
      cases ex
      exact hx
  have hcont : ∀ e : MapEntry, seen.contains e.born = decide (e.born ∈ seen.toList) := fun e => by
    rw [Bool.eq_iff_iff]; simp
  -- the entries that are left
  obtain ⟨left, hleft⟩ : ∃ left : Array MapEntry, left = es.filter fun e => !seen.contains e.born := ⟨_, rfl⟩
  have hleftmem : ∀ e, e ∈ left.toList ↔ ∃ i, es.toList[i]? = some e ∧ i ∉ idx := by
    intro e
    rw [hleft]
    simp only [Array.toList_filter, List.mem_filter]
    constructor
    · rintro ⟨hm, hc⟩
      obtain ⟨i, hi⟩ := List.getElem?_of_mem hm
      refine ⟨i, hi, fun hx => ?_⟩
      have := (hseen i e hi).2 hx
      rw [hcont e] at hc
      simp at hc
      exact hc (by simpa using this)
    · rintro ⟨i, hi, hx⟩
      refine ⟨List.mem_of_getElem? hi, ?_⟩
      rw [hcont e]
      have := mt (hseen i e hi).1 hx
      simp
      simpa using this
  have hold : left.filter (fun e => decide (e.born < clock)) = left := by
    apply Array.toList_inj.1
    rw [Array.toList_filter, List.filter_eq_self]
    intro e he'
    obtain ⟨i, hi, _⟩ := (hleftmem e).1 he'
    simpa using hborn e (List.mem_of_getElem? hi)
  have hnew : left.filter (fun e => decide (e.born ≥ clock)) = #[] := by
    apply Array.toList_inj.1
    rw [Array.toList_filter]
    simp only [List.filter_eq_nil_iff]
    intro e he'
    obtain ⟨i, hi, _⟩ := (hleftmem e).1 he'
    have := hborn e (List.mem_of_getElem? hi)
    simp; omega
  have hguard : (!seen.isEmpty && !es.isEmpty && es.all (fun e => decide (e.born ≥ clock))) = false := by
    cases hes : es.toList with
    | nil =>
      have : es = #[] := Array.toList_inj.1 hes
      subst this; simp
    | cons x r =>
      have hx := hborn x (by rw [hes]; simp)
      have : es.all (fun e => decide (e.born ≥ clock)) = false := by
        rw [← Array.all_toList, hes]
        simp; omega
      rw [this]; simp
  by_cases hdone : left.toList = []
  · -- nothing is left
    have hl0 : left = #[] := Array.toList_inj.1 hdone
    left
    refine ⟨?_, ?_⟩
    · rw [hdl]
      have h1 : (List.range l.length).length ≤ idx.length := by
        refine nodup_length List.nodup_range (fun i hi => ?_)
        have hi' := List.mem_range.1 hi
        have hi2 : i < es.toList.length := by simpa [hlen] using hi'
        refine Classical.byContradiction fun hx => ?_
        have : es.toList[i] ∈ left.toList := (hleftmem _).2 ⟨i, List.getElem?_eq_getElem hi2, hx⟩
        rw [hdone] at this
        cases this
      have h2 : idx.length ≤ (List.range l.length).length := nodup_length h6 (fun i hi => List.mem_range.2 (h7 i hi))
      simp at h1 h2
      omega
    · intro ty
      simp only [Instr.next, Sem.run_bind, run_getObj_iter hs, MapKept.run_getObj_map hb, Result.andThen, hguard, ← hleft, hl0]
      simp [choose, Sem.run, Question.forced]
  · -- some entry comes
    right
    have hpos : 0 < left.size := by
      rcases Nat.eq_zero_or_pos left.size with h | h
      · exact absurd (by simpa using Array.size_eq_zero_iff.1 h) hdone
      · exact h
    have hne : left.isEmpty = false := by
      cases hh : left.isEmpty with
      | false => rfl
      | true => exact absurd (by simpa using hh) hdone
    obtain ⟨c, w1, hcw, hcl, hw1⟩ : ∃ (c : Nat) (w1 : World), (choose (.mapNext left.size)).run P w = .ok c w1 ∧ c < left.size ∧ (w1 = w ∨ w1 = w.drew) := by
      by_cases hf : Question.forced (.mapNext left.size) = true
      · refine ⟨0, w, by simp [choose, Sem.run, hf], hpos, .inl rfl⟩
      · have hf' : Question.forced (.mapNext left.size) = false := by simpa using hf
        refine ⟨_, w.drew, by simp [choose, Sem.run, hf']; rfl, ?_, .inr rfl⟩
        exact Nat.mod_lt _ hpos
    obtain ⟨e, hce⟩ : ∃ e, left[c]? = some e := ⟨_, Array.getElem?_eq_getElem hcl⟩
    have hel : e ∈ left.toList := by
      have := Array.mem_of_getElem? hce
      simpa using this
    obtain ⟨i, hi, hix⟩ := (hleftmem e).1 hel
    obtain ⟨p, hp, hk, hv⟩ := map_at he hi
    have hil : i < l.length := by
      rcases Nat.lt_or_ge i l.length with h | h
      · exact h
      · simp [List.getElem?_eq_none h] at hp
    have hb1 : w1.heap = w.heap := by rcases hw1 with rfl | rfl <;> rfl
    have hs1 : w1.heap[I]? = some (.mapIter (some M) clock seen clock) := by rw [hb1]; exact hs
    have hIl : I < w1.heap.size := lt_block hs1
    have hrun : ∀ ty, (Instr.next (.pointer (some ⟨I, 0, none⟩)) false ty).run P w = .ok (.tuple #[.bool true, enc p.1, p.2]) (setB w1 I (.mapIter (some M) clock (seen.push e.born) clock)) := by
      intro ty
      have hcand : ((if left.isEmpty then #[none] else #[]) ++ (left ++ #[]).map some : Array (Option MapEntry)) = left.map some := by
        rw [hne]; simp
      have hsz : (left.map some).size = left.size := by simp
      have hget : (left.map some)[c]? = some (some e) := by simp [hce]
      simp only [Instr.next, Sem.run_bind, run_getObj_iter hs, MapKept.run_getObj_map hb, Result.andThen, hguard, ← hleft, hold, hnew, hcand, hsz]
      rw [if_neg (by decide), Sem.run_bind, hcw]
      simp only [Result.andThen, hget]
      simp [run_setObj_iter _ hs1, Result.andThen, hk, hv]
    have hnd : (p.1, p.2) ∉ done := by
      intro hm
      have : some (p.1, p.2) ∈ idx.map (fun i => l[i]?) := by rw [← h8]; exact List.mem_map.2 ⟨_, hm, rfl⟩
      obtain ⟨j, hj, ej⟩ := List.mem_map.1 this
      have hjl := h7 j hj
      have q1 : l[i] = p := by simpa [List.getElem?_eq_getElem hil] using hp
      have q2 : l[j] = (p.1, p.2) := by simpa [List.getElem?_eq_getElem hjl] using ej
      have a1 : (l.map Prod.fst)[i]'(by simpa using hil) = (l.map Prod.fst)[j]'(by simpa using hjl) := by
        rw [List.getElem_map, List.getElem_map, q1, q2]
      have := (List.getElem_inj hn).1 a1
      subst this
      exact hix hj
    have hlt : done.length < l.length := by
      rw [hdl]
      have h1 : (i :: idx).length ≤ (List.range l.length).length := by
        refine nodup_length (List.nodup_cons.2 ⟨hix, h6⟩) (fun j hj => ?_)
        rcases List.mem_cons.1 hj with rfl | hj
        · exact List.mem_range.2 hil
        · exact List.mem_range.2 (h7 j hj)
      simp at h1
      omega
    have hMb : (setB w1 I (.mapIter (some M) clock (seen.push e.born) clock)).heap[M]? = some (.map es clock) := by
      rw [(setB_mod w1 I _).block M (by rw [hb1]; exact lt_block hb) hMI, hb1]; exact hb
    have hIb : (setB w1 I (.mapIter (some M) clock (seen.push e.born) clock)).heap[I]? = some (.mapIter (some M) clock (seen.push e.born) clock) := by simp [setB, hIl]
    refine ⟨p.1, p.2, _, hlt, List.mem_of_getElem? hp, hnd, hrun, ?_, ?_, ?_⟩
    · refine ⟨es, clock, hMb, he, hn, hborn, hbn, idx ++ [i], ?_, ?_, ?_, seen.push e.born, hIb, ?_⟩
      · rw [List.nodup_append]
        exact ⟨h6, by simp, fun a ha b hb' => by simp at hb'; subst hb'; intro e'; subst e'; exact hix ha⟩
      · intro j hj
        rcases List.mem_append.1 hj with hj | hj
        · exact h7 j hj
        · simp at hj; subst hj; exact hil
      · rw [List.map_append, List.map_append, h8]; simp [hp]
      · rw [Array.toList_push, List.map_append, List.map_append, h9]
        simp only [List.map_cons, List.map_nil, hi, Option.map_some]
    · rcases hw1 with rfl | rfl
      · exact setB_mod _ _ _
      · exact ((Mod.refl _ w).drew).trans' (setB_mod _ _ _)
    · have hfind : es.find? (fun x => x.born == e.born) = some e := by
        rw [← Array.find?_toList]
        have hm : e ∈ es.toList := List.mem_of_getElem? hi
        cases hf : es.toList.find? (fun x => x.born == e.born) with
        | none => exact absurd (List.find?_eq_none.1 hf e hm) (by simp)
        | some x =>
          have h1 := List.mem_of_find?_eq_some hf
          have h2 := List.find?_some hf
          simp at h2
          obtain ⟨j, hj⟩ := List.getElem?_of_mem h1
          have hi' : i < es.toList.length := by
            rcases Nat.lt_or_ge i es.toList.length with h | h
            · exact h
            · simp [List.getElem?_eq_none h] at hi
          have hj' : j < es.toList.length := by
            rcases Nat.lt_or_ge j es.toList.length with h | h
            · exact h
            · simp [List.getElem?_eq_none h] at hj
          have q1 : es.toList[i] = e := by simpa [List.getElem?_eq_getElem hi'] using hi
          have q2 : es.toList[j] = x := by simpa [List.getElem?_eq_getElem hj'] using hj
          have a1 : (es.toList.map (·.born))[i]'(by simpa using hi') = (es.toList.map (·.born))[j]'(by simpa using hj') := by
            rw [List.getElem_map, List.getElem_map, q1, q2, h2]
          have := (List.getElem_inj hbn).1 a1
          subst this
          rw [← q2, q1]
      simp [Instr.entry, run_getObj_iter hIb, MapKept.run_getObj_map hMb, Result.andThen, hfind, hk, hv]

/-- Where all have come, just the map's entries have. -/
theorem IterIs.all {done : List (κ × Value)} (h : IterIs w I M enc l done) (hd : done.length = l.length) : done.Perm l := by
  obtain ⟨es, clock, h1, h2, h3, h4, h5, idx, h6, h7, h8, _⟩ := h
  have hdl : done.length = idx.length := by simpa using congrArg List.length h8
  have hp : idx.Perm (List.range l.length) := by
    refine nodup_perm h6 (fun i hi => List.mem_range.2 (h7 i hi)) ?_
    simp; omega
  have h9 : (done.map some).Perm ((List.range l.length).map (fun i => l[i]?)) := by rw [h8]; exact hp.map _
  have e : (List.range l.length).map (fun i => l[i]?) = l.map some := by
    apply List.ext_getElem?
    intro i
    simp only [List.getElem?_map]
    rcases Nat.lt_or_ge i l.length with hi | hi
    · simp [hi]
    · simp [hi]
  rw [e] at h9
  have h10 := h9.filterMap id
  simpa [List.filterMap_map] using h10
end
end Go.Por
end
section
set_option linter.unusedVariables false
set_option linter.unusedSimpArgs false
namespace Go.Proofs.Ytobcakjlfdejjaa.Watch
open Go.RowKit Go.Por Go.Sort

def kputG {κ : Type} [DecidableEq κ] (ks : List κ) (t : κ) : List κ := if t ∈ ks then ks else ks ++ [t]
def kput (ks : List Tup) (t : Tup) : List Tup := kputG ks t
def kdel (ks : List Tup) (t : Tup) : List Tup := ks.filter (fun x => decide (x ≠ t))
def kstep (ks : List Tup) (c : Chg) : List Tup := if c.2.1 then kdel (kput ks c.2.2) c.2.2 else kput ks c.2.2
def playK (ts : List Tup) (cs : List Chg) : List Tup := cs.foldl kstep (ts.foldl kput [])
/-- What watch.Play hands back. -/
def playL (ts : List Tup) (cs : List Chg) : List Tup := (playK ts cs).mergeSort tle
theorem kput_le (ks : List Tup) (t : Tup) : (kput ks t).length ≤ ks.length + 1 := by
  unfold kput kputG
  split <;> simp
theorem kstep_le (ks : List Tup) (c : Chg) : (kstep ks c).length ≤ ks.length + 1 := by
  unfold kstep
  split
  · exact Nat.le_trans (List.length_filter_le _ _) (kput_le ks _)
  · exact kput_le ks _
theorem fold_le {α : Type} (f : List Tup → α → List Tup) (hf : ∀ ks a, (f ks a).length ≤ ks.length + 1) : ∀ (l : List α) (ks : List Tup), (l.foldl f ks).length ≤ ks.length + l.length
  | [], ks => by simp
  | a :: l, ks => by
    have h1 := fold_le f hf l (f ks a)
    have h2 := hf ks a
    rw [List.foldl_cons, List.length_cons]
    omega
theorem playK_le (ts : List Tup) (cs : List Chg) : (playK ts cs).length ≤ ts.length + cs.length := by
  have h1 := fold_le kput kput_le ts []
  have h2 := fold_le kstep kstep_le cs (ts.foldl kput [])
  rw [List.length_nil, Nat.zero_add] at h1
  unfold playK
  omega
theorem foldl_succ {α β : Type} (f : β → α → β) (l : List α) (b : β) (t : Nat) (x : α) (h : l[t]? = some x) : (l.take (t + 1)).foldl f b = f ((l.take t).foldl f b) x := by
  rw [List.take_add_one, h, List.foldl_append]
  rfl
def km (ks : List Tup) : List (Tup × Value) := ks.map (fun t => (t, Value.int .i64 1))
theorem km_fst (ks : List Tup) : (km ks).map Prod.fst = ks := by
  unfold km
  rw [List.map_map]
  exact List.map_id _
theorem km_put (ks : List Tup) (t : Tup) : mput (km ks) t (.int .i64 1) = km (kput ks t) := by
  unfold mput kput kputG
  rw [km_fst]
  split
  · unfold km
    rw [List.map_map]
    refine List.map_congr_left (fun x _ => ?_)
    show (if x = t then (t, Value.int .i64 1) else (x, Value.int .i64 1)) = _
    split
    · rename_i e; rw [e]
    · rfl
  · unfold km
    rw [List.map_append]
    rfl
theorem km_del (ks : List Tup) (t : Tup) : mdel (km ks) t = km (kdel ks t) := by
  unfold mdel km kdel
  rw [List.filter_map]
  rfl
theorem km_store {W : World} {B : Nat} {ks : List Tup} (h : MapIs W B encT (km ks)) (t : Tup) : ∃ W5, (Instr.mapUpdate 69 (.map (some B)) (encT t) (.int .i64 1)).run Try.prog W = .ok () W5 ∧ MapIs W5 B encT (km (kput ks t)) ∧ Mod (fun x => x = B) W W5 := by
  obtain ⟨o, h1, h2⟩ := h.store keyTup Try.underlying69 t (.int .i64 1)
  rw [km_put] at h2
  exact ⟨_, h1, h2, setB_mod _ _ _⟩
theorem km_delete {W : World} {B : Nat} {ks : List Tup} (h : MapIs W B encT (km ks)) (t : Tup) : ∃ W5, (Builtin.delete_ #[69, 37] 0 #[.map (some B), encT t]).run Try.prog W = .ok (.tuple #[]) W5 ∧ MapIs W5 B encT (km (kdel ks t)) ∧ Mod (fun x => x = B) W W5 := by
  obtain ⟨o, h1, h2⟩ := h.delete (ty := 0) (t2 := 37) keyTup Try.underlying69 t
  rw [km_del] at h2
  exact ⟨_, h1, h2, setB_mod _ _ _⟩
theorem sort_perm {a b : List Tup} (h : a.Perm b) : a.mergeSort tle = b.mergeSort tle := by
  have tr : ∀ x y z : Tup, tle x y = true → tle y z = true → tle x z = true := fun x y z h1 h2 => by
    unfold tle at *
    simp only [Bool.not_eq_true'] at *
    exact tupSwo.ntrans _ _ _ h2 h1
  have tot : ∀ x y : Tup, (tle x y || tle y x) = true := fun x y => by
    unfold tle
    cases h1 : ltOf tcmp y x with
    | false => rfl
    | true => rw [Stab.SWO.asymm' tupSwo h1]; rfl
  refine List.Perm.eq_of_pairwise (le := fun x y => tle x y = true) (fun x y _ _ h1 h2 => ?_) (List.pairwise_mergeSort tr tot a) (List.pairwise_mergeSort tr tot b) ((List.mergeSort_perm _ _).trans (h.trans (List.mergeSort_perm _ _).symm))
  unfold tle at *
  simp only [Bool.not_eq_true'] at *
  exact tupTotal x y h2 h1
end Go.Proofs.Ytobcakjlfdejjaa.Watch
end
section
set_option linter.unusedVariables false
set_option linter.unusedSimpArgs false
namespace Go.Proofs.Ytobcakjlfdejjaa.Watch
open Go.RowKit Go.Por Go.Sort

theorem iter_own_ne {κ α : Type} {enc : κ → Value} {w : World} {I M : Nat} {lm dn : List (κ × Value)} (h : IterIs w I M enc lm dn) {f : α → List Value} {c : Nat} {E : TypeId} {v : Value} {l : List α} (ho : OwnS f c w E v l) : v.ownBlock ≠ some I := by
  obtain ⟨es, ck, _, _, _, _, _, idx, _, _, _, seen, hs, _⟩ := h
  rcases ho.form with ⟨rfl, _⟩ | ⟨g, cap, rfl, _, _⟩
  · simp [Value.ownBlock]
  · obtain ⟨cur, h2, _⟩ := ho.block
    intro e
    simp only [Value.ownBlock, Option.some.injEq] at e
    subst e
    rw [hs] at h2
    cases h2

set_option maxRecDepth 100000 in
set_option maxHeartbeats 4000000 in
theorem play_any {w : World} {v1 v2 : Value} {ts : List Tup} {cs : List Chg} (h1 : ReadS tupC 3 w v1 ts) (h2 : ReadS chgC 5 w v2 cs) (hb : (ts.length + cs.length + 1) * 48 ≤ 140737488355328) :
    Calls Try.prog 17 #[v1, v2] w fun e w' => ∃ v', e = .returned v' ∧ OwnS tupC 3 w' 37 v' (playL ts cs) ∧ Below w.heap.size w w' ∧ ∀ k, v'.ownBlock = some k → w.heap.size ≤ k := by
  obtain ⟨ao1, cap1, rfl, hl1⟩ := h1.form
  obtain ⟨ao2, cap2, rfl, hl2⟩ := h2.form
  obtain ⟨n1, hn1⟩ : ∃ n, ts.length = n := ⟨_, rfl⟩
  obtain ⟨n2, hn2⟩ : ∃ n, cs.length = n := ⟨_, rfl⟩
  obtain ⟨B, hB⟩ : ∃ B, w.heap.size = B := ⟨_, rfl⟩
  rw [hn1] at h1 hl1 ⊢
  rw [hn2] at h2 hl2 ⊢
  have HH := Lib.hid (And.intro h1 (And.intro h2 (And.intro hb (And.intro hB (And.intro hn1 hn2)))))
  clear h1 h2 hb
  go_enter Try.func17, Try.ntmps17
  have hmm := @run_makeMap Try.prog
  go_wp2
  clear hmm
  have hM0 := MapIs.made w encT
  have hbel0 := (Below.refl B w).alloc (by omega) (.map #[] 0)
  have hB0 : (w.alloc (.map #[] 0)).heap.size = B + 1 := by simp [hB]
  rw [hB] at hM0
  generalize hW3 : w.alloc (.map #[] 0) = W3 at *
  have HW := Lib.hid (And.intro hM0 (And.intro hbel0 hB0))
  clear hM0 hbel0 hB0 hW3
  go_loopg [15] n1 (fun gg vi wx => ∃ t : Nat, t + gg = n1 ∧ vi = .int .i64 (t : Int) ∧ MapIs wx B encT (km ((ts.take t).foldl kput [])) ∧ Below B w wx ∧ B + 1 ≤ wx.heap.size)
  case atStart => exact ⟨0, by omega, rfl, HW.out.1, HW.out.2.1, by rw [HW.out.2.2]; exact Nat.le_refl _⟩
  case round =>
    obtain ⟨t, htg, rfl, hmap, hbel, hsz⟩ := hrel
    by_cases hc : t < n1
    · obtain ⟨r, hx⟩ : ∃ r, ts[t]? = some r := ⟨_, List.getElem?_eq_getElem (by omega)⟩
      obtain ⟨b, o, rfl, hrange, hbl⟩ := HH.out.1.lt (by decide) tupC_len hx
      have hrange2 : wr.rangeAt b (o + t * 3) (tupC r) := range_below hrange hbel (by omega)
      have hfold := foldl_succ kput ts [] t r hx
      obtain ⟨x0, x1, x2⟩ := r
      have hci : (t : Int) < (n1 : Int) := by omega
      have hti : (t : Int) < 9223372036854775807 := by omega
      have hmap4 := hmap.alloc (.cells #[.string x0, .string x1, .string x2] 37)
      obtain ⟨W5, hst, hmap5, hm5⟩ := km_store hmap4 (x0, x1, x2)
      unfold encT tupC at hst
      have hb5 : Below B w W5 := (hbel.alloc (by omega) (.cells #[.string x0, .string x1, .string x2] 37)).trans (hm5.to_below (by simp; omega) (fun k hk => by rw [show k = B from hk]; exact Nat.le_refl _))
      have hs5 := hm5.size
      simp only [World.size_alloc] at hs5
      rw [← hfold] at hmap5
      have HC := Lib.hid (And.intro hrange2 (And.intro hc (And.intro htg (And.intro hmap5 (And.intro hb5 (show B + 1 ≤ W5.heap.size by omega))))))
      clear hmap hmap4 hmap5 hm5 hb5 hs5 hbel hsz hfold hx hrange hrange2 hbl hc htg
      go_wp2_with (first
        | (refine wpList_load_mid rfl 37 (.tmp 17) rfl b (o + t * 3) rfl (tupC (x0, x1, x2)) _ HC.out.1 Try.underlying37 rfl infoTup0 ?_; unfold tupC))
      go_roundg (gk - 1)
      case measure => have h1 := HC.out; omega
      case rel =>
        obtain ⟨k1, k2, k3, k4, k5, k6⟩ := HC.out
        exact ⟨t + 1, by omega, by go_num, k4, k5, k6⟩
    · have hci : ¬ (t : Int) < (n1 : Int) := by omega
      have ht : ts.take t = ts := List.take_of_length_le (by have := HH.out; omega)
      rw [ht] at hmap
      have HT := Lib.hid (And.intro hmap (And.intro hbel hsz))
      clear hmap hbel hsz htg hc ht
      go_wp2
      go_loopg [24] n2 (fun gg vi wx => ∃ t : Nat, t + gg = n2 ∧ vi = .int .i64 (t : Int) ∧ MapIs wx B encT (km ((cs.take t).foldl kstep (ts.foldl kput []))) ∧ Below B w wx ∧ B + 1 ≤ wx.heap.size)
      case atStart => exact ⟨0, by omega, rfl, HT.out.1, HT.out.2.1, HT.out.2.2⟩
      case round =>
        clear HT
        obtain ⟨t, htg, rfl, hmap, hbel, hsz⟩ := hrel
        by_cases hc : t < n2
        · obtain ⟨r, hx⟩ : ∃ r, cs[t]? = some r := ⟨_, List.getElem?_eq_getElem (by omega)⟩
          obtain ⟨b, o, rfl, hrange, hbl⟩ := HH.out.2.1.lt (by decide) chgC_len hx
          have hrange2 : wr.rangeAt b (o + t * 5) (chgC r) := range_below hrange hbel (by omega)
          have hfold := foldl_succ kstep cs (ts.foldl kput []) t r hx
          obtain ⟨ks, hks⟩ : ∃ ks, (cs.take t).foldl kstep (ts.foldl kput []) = ks := ⟨_, rfl⟩
          rw [hks] at hfold hmap
          obtain ⟨rev, del, x0, x1, x2⟩ := r
          have hci : (t : Int) < (n2 : Int) := by omega
          have hti : (t : Int) < 9223372036854775807 := by omega
          obtain ⟨W4, hW4⟩ : ∃ W4, wr.alloc (.cells #[.int .i64 rev, .bool del, .string x0, .string x1, .string x2] 43) = W4 := ⟨_, rfl⟩
          have hmap4 := hmap.alloc (.cells #[.int .i64 rev, .bool del, .string x0, .string x1, .string x2] 43)
          have hRb := block_new wr (.cells #[.int .i64 rev, .bool del, .string x0, .string x1, .string x2] 43)
          have hb4 := hbel.alloc (by omega) (.cells #[.int .i64 rev, .bool del, .string x0, .string x1, .string x2] 43)
          have hs4 : W4.heap.size = wr.heap.size + 1 := by rw [← hW4]; simp
          rw [hW4] at hmap4 hRb hb4
          obtain ⟨R, hR⟩ : ∃ R, wr.heap.size = R := ⟨_, rfl⟩
          rw [hR] at hRb hs4
          obtain ⟨W5, hst, hmap5, hm5⟩ := km_store hmap4 (x0, x1, x2)
          unfold encT tupC at hst
          have hR5 := hm5.old hRb (fun e => by omega)
          have c0 : W4.cell? ⟨R, 0, none⟩ = some (.int .i64 rev) := cell_of hRb rfl
          have c1 : W4.cell? ⟨R, 1, none⟩ = some (.bool del) := cell_of hRb rfl
          have c2 : W4.cell? ⟨R, 2, none⟩ = some (.string x0) := cell_of hRb rfl
          have c3 : W4.cell? ⟨R, 3, none⟩ = some (.string x1) := cell_of hRb rfl
          have c4 : W4.cell? ⟨R, 4, none⟩ = some (.string x2) := cell_of hRb rfl
          have d1 : W5.cell? ⟨R, 1, none⟩ = some (.bool del) := cell_of hR5 rfl
          have d2 : W5.cell? ⟨R, 2, none⟩ = some (.string x0) := cell_of hR5 rfl
          have d3 : W5.cell? ⟨R, 3, none⟩ = some (.string x1) := cell_of hR5 rfl
          have d4 : W5.cell? ⟨R, 4, none⟩ = some (.string x2) := cell_of hR5 rfl
          have hb5 : Below B w W5 := hb4.trans (hm5.to_below (by omega) (fun k hk => by rw [show k = B from hk]; exact Nat.le_refl _))
          have hs5 := hm5.size
          have HC := Lib.hid (And.intro hrange2 (And.intro hc (And.intro htg (And.intro hb5 (show B + 1 ≤ W5.heap.size by omega)))))
          cases del with
          | true =>
            obtain ⟨W6, hdl, hmap6, hm6⟩ := km_delete hmap5 (x0, x1, x2)
            unfold encT tupC at hdl
            have hb6 : Below B w W6 := hb5.trans (hm6.to_below (by omega) (fun k hk => by rw [show k = B from hk]; exact Nat.le_refl _))
            have hs6 := hm6.size
            have HD := Lib.hid (And.intro hfold (And.intro hmap6 (And.intro hb6 (show B + 1 ≤ W6.heap.size by omega))))
            clear hmap hmap4 hmap5 hm5 hb5 hs5 hb4 hbel hsz hfold hx hrange hrange2 hbl hc htg hRb hR5 hmap6 hm6 hb6 hs6 hks hs4
            go_upto_region 10 with (first
              | (refine wpList_load_mid rfl 43 (.tmp 26) rfl b (o + t * 5) rfl (chgC (rev, true, x0, x1, x2)) _ HC.out.1 Try.underlying43 rfl infoC ?_; unfold chgC))
            clear hW4 hR
            go_wp2
            go_roundg (gk - 1)
            case measure => have h1 := HC.out; omega
            case rel =>
              obtain ⟨k1, k2, k3, k4, k5⟩ := HC.out
              obtain ⟨m1, m2, m3, m4⟩ := HD.out
              exact ⟨t + 1, by omega, by go_num, by rw [m1]; exact m2, m3, m4⟩
          | false =>
            have HD := Lib.hid (And.intro hfold hmap5)
            clear hmap hmap4 hmap5 hm5 hb5 hs5 hb4 hbel hsz hfold hx hrange hrange2 hbl hc htg hRb hR5 hks hs4
            go_upto_region 10 with (first
              | (refine wpList_load_mid rfl 43 (.tmp 26) rfl b (o + t * 5) rfl (chgC (rev, false, x0, x1, x2)) _ HC.out.1 Try.underlying43 rfl infoC ?_; unfold chgC))
            clear hW4 hR
            go_wp2
            go_roundg (gk - 1)
            case measure => have h1 := HC.out; omega
            case rel =>
              obtain ⟨k1, k2, k3, k4, k5⟩ := HC.out
              obtain ⟨m1, m2⟩ := HD.out
              exact ⟨t + 1, by omega, by go_num, by rw [m1]; exact m2, k4, k5⟩
        · have hci : ¬ (t : Int) < (n2 : Int) := by omega
          have ht : cs.take t = cs := List.take_of_length_le (by have := HH.out; omega)
          rw [ht] at hmap
          have hle := playK_le ts cs
          obtain ⟨ks, hks⟩ : ∃ ks, playK ts cs = ks := ⟨_, rfl⟩
          rw [show cs.foldl kstep (ts.foldl kput []) = ks from hks] at hmap
          rw [hks] at hle
          obtain ⟨I, hI⟩ : ∃ I, wr.heap.size = I := ⟨_, rfl⟩
          obtain ⟨oI, hrng, hit⟩ := hmap.range Try.underlying69
          rw [hI] at hrng hit
          have hbI := hbel.alloc (by omega) oI
          have hsI : (wr.alloc oI).heap.size = I + 1 := by simp [hI]
          obtain ⟨WI, hWI⟩ : ∃ WI, wr.alloc oI = WI := ⟨_, rfl⟩
          rw [hWI] at hrng hit hbI hsI
          have HT := Lib.hid (And.intro hit (And.intro hbI (And.intro hsI (And.intro hks (And.intro hle (show B + 1 ≤ I by omega))))))
          clear hmap hbel hsz htg hc ht hle hks hit hbI hsI hWI hI
          go_wp2
          go_loopg [10] (ks.length) (fun gg sv wx => ∃ dn : List (Tup × Value), dn.length + gg = ks.length ∧ OwnS tupC 3 wx 37 sv (dn.map Prod.fst) ∧ IterIs wx I B encT (km ks) dn ∧ Below B w wx ∧ I + 1 ≤ wx.heap.size ∧ ∀ k, sv.ownBlock = some k → I + 1 ≤ k)
          case atStart => exact ⟨[], by simp, OwnS.nil _ _ _ _, HT.out.1, HT.out.2.1, by have := HT.out; omega, fun k h => by simp [Value.ownBlock] at h⟩
          case round =>
            clear hrng
            obtain ⟨dn, hdg, hown, hit, hbel, hsz, hwh⟩ := hrel
            have hkl : (km ks).length = ks.length := by unfold km; rw [List.length_map]
            rcases hit.next (P := Try.prog) with ⟨hfin, hnx⟩ | ⟨q, v, w', hlt, hm, hnd, hnx, hit', hm', hen⟩
            · have hp := hit.all hfin
              have HE := Lib.hid (And.intro hown (And.intro hbel (And.intro hsz (And.intro hwh hp))))
              clear hown hit hbel hsz hwh hdg hp hfin
              go_wp2_with fail
              obtain ⟨e1, e2, e3, e4, e5⟩ := HE.out
              have hpk : (dn.map Prod.fst).Perm ks := by
                have := e5.map Prod.fst
                rwa [km_fst] at this
              have hroom := room48' (a := (dn.map Prod.fst).length) (n := ts.length + cs.length) (by rw [hpk.length_eq]; exact HT.out.2.2.2.2.1) HH.out.2.2.1
              have hBI := HT.out.2.2.2.2.2
              refine (sort_tup e1 hroom.2).mono ?_
              rintro e w5 ⟨rfl, hown5, hm5⟩
              rw [sort_perm hpk, ← HT.out.2.2.2.1] at hown5
              have k3 : Below B w w5 := e2.trans (hm5.to_below (by omega) (fun k hk => by have := e4 k hk.symm; have := HT.out; omega))
              have HK := Lib.hid (And.intro hown5 (And.intro k3 e4))
              clear hown5 hm5 k3 e1 e2 e3 e4 e5 hpk hroom
              go_wp2
              go_ret
              obtain ⟨h1, h2, h3⟩ := HK.out
              exact ⟨u10, rfl, h1, by rw [hB]; exact h2, fun k hk => by have := h3 k hk; have := HT.out; omega⟩
            · obtain ⟨x0, x1, x2⟩ := q
              have hv1 : v = .int .i64 1 := by
                obtain ⟨t', _, e⟩ := List.mem_map.1 hm
                exact (Prod.mk.inj e).2.symm
              subst hv1
              unfold encT tupC at hnx hen
              have hnI := iter_own_ne hit hown
              have hownw : OwnS tupC 3 w' 37 u10 (dn.map Prod.fst) := hown.mod hm' (fun k hk e => hnI (by rw [hk, show k = I from e]))
              obtain ⟨S, hS⟩ : ∃ S, w'.heap.size = S := ⟨_, rfl⟩
              have hs' := hm'.size
              have hoo : OwnS tupC 3 ((w'.alloc (.cells #[.string x0, .string x1, .string x2] 37)).alloc (.cells #[.string x0, .string x1, .string x2] 37)) 37 u10 (dn.map Prod.fst) := hownw.mod (S := fun _ => False) (((Mod.refl _ w').alloc _).alloc _) (fun _ _ h => h)
              have hbn := block_new (w'.alloc (.cells #[.string x0, .string x1, .string x2] 37)) (.cells #[.string x0, .string x1, .string x2] 37)
              rw [World.size_alloc, hS] at hbn
              have hlen : dn.length ≤ ts.length + cs.length := by have := HT.out.2.2.2.2.1; omega
              have hroom := room48 hlen HH.out.2.2.1
              have hroom' := room48' hlen HH.out.2.2.1
              have hit7 := (hit'.mod (((Mod.refl (fun _ => False) w').alloc (.cells #[.string x0, .string x1, .string x2] 37)).alloc (.cells #[.string x0, .string x1, .string x2] 37)) (fun h => h) (fun h => h))
              have hBI0 := HT.out.2.2.2.2.2
              have hb7 : Below B w ((w'.alloc (.cells #[.string x0, .string x1, .string x2] 37)).alloc (.cells #[.string x0, .string x1, .string x2] 37)) := ((hbel.trans (hm'.to_below (by omega) (fun k hk => by have := HT.out; rw [show k = I from hk]; omega))).alloc (by omega) _).alloc (by simp; omega) _
              have HE := Lib.hid (And.intro hoo (And.intro hbn (And.intro hroom (And.intro hroom'.1 (And.intro hit7 (And.intro hb7 (And.intro hwh (And.intro (show I + 1 ≤ S by omega) (And.intro hdg (And.intro hlt hkl))))))))))
              have hll : (dn.map Prod.fst).length = dn.length := List.length_map _
              clear hBI0 hoo hbn hroom hroom' hit7 hb7 hwh hs' hlen hown hownw hit hit' hbel hsz hdg hnd hm hm' hlt hnI hkl
              go_wp2_with (first
                | (at_builtin; refine wpList_push elemTup rfl _ _ rfl rfl HE.out.1 (S + 1) (x0, x1, x2) rfl HE.out.2.1 ?c1 ?c2 ?_))
              case c1 => exact HE.out.2.2.1
              case c2 => exact HE.out.2.2.2.1
              intro v7 w7 hown7 hm7 hb7'
              have HF := Lib.hid (And.intro hown7 (And.intro hm7 hb7'))
              clear hown7 hm7 hb7'
              go_wp2
              go_roundg (gk - 1)
              case measure => have h1 := HE.out; omega
              case rel =>
                obtain ⟨e1, e2, e3, e4, e5, e6, e7, e8, e9, e10, e11⟩ := HE.out
                obtain ⟨f1, f2, f3⟩ := HF.out
                have hs7 := f2.size
                simp only [World.size_alloc, hS] at hs7 f3
                have hBI := HT.out.2.2.2.2.2
                refine ⟨dn ++ [((x0, x1, x2), .int .i64 1)], by rw [List.length_append, List.length_singleton]; omega, by rw [List.map_append]; exact f1, e5.mod f2 (fun e => MapIs.own_ne e5.map e1 e.symm) (fun e => iter_own_ne e5 e1 e.symm), e6.trans (f2.to_below (by simp only [World.size_alloc, hS]; omega) (fun k hk => by have := e7 k hk.symm; omega)), by omega, fun k hk => ?_⟩
                rcases f3 k hk with h | h
                · exact e7 k h
                · omega
end Go.Proofs.Ytobcakjlfdejjaa.Watch
end
section
set_option linter.unusedVariables false
set_option linter.unusedSimpArgs false
namespace Go.Proofs.Ytobcakjlfdejjaa.Watch
open Go.RowKit Go.Por Go.ChangeShapes Go.WideShapes

theorem cellsI64 : Try.prog.cellsOf 2 = 1 := by kernel_rfl
theorem cellsBool : Try.prog.cellsOf 4 = 1 := by kernel_rfl
theorem cellsStr : Try.prog.cellsOf 9 = 1 := by kernel_rfl
theorem cellsTup : Try.prog.cellsOf 37 = 3 := by kernel_rfl
theorem cellsMut : Try.prog.cellsOf 41 = 4 := by kernel_rfl
theorem cellsRow : Try.prog.cellsOf 39 = 5 := by kernel_rfl
theorem cellsChg : Try.prog.cellsOf 43 = 5 := by kernel_rfl
section
variable {H : Type} {enc : TypeId × Value → H} {w : World} {spare : Nat → Bool} {held : Bool}
set_option maxRecDepth 10000 in
theorem open_tup (fuel : Nat) (cs : List Value) (y : DataW H × List MemPlace) (h : DataW.trod enc Try.prog w 0 spare held fuel 37 cs = some y) : ∃ x, cs = tupC x := by
  obtain ⟨xs, n, _, _, hlen, hxl, hf⟩ := DataW.trod_struct Try.underlying37 h
  rw [cellsTup] at hlen
  have g0 := hf 0 _ rfl
  have g1 := hf 1 _ rfl
  have g2 := hf 2 _ rfl
  have hxl' : xs.length = 3 := hxl
  clear hxl hf h
  match cs, hlen, xs, hxl' with
  | [v0, v1, v2], _, [y0, y1, y2], _ =>
    simp [cellsStr] at g0 g1 g2
    obtain ⟨a, ha, _⟩ := DataW.trod_string Try.underlying9 g0
    obtain ⟨b, hb, _⟩ := DataW.trod_string Try.underlying9 g1
    obtain ⟨s, hs, _⟩ := DataW.trod_string Try.underlying9 g2
    simp at ha hb hs
    subst ha hb hs
    exact ⟨(a, b, s), rfl⟩
set_option maxRecDepth 10000 in
theorem open_rowC (fuel : Nat) (cs : List Value) (y : DataW H × List MemPlace) (h : DataW.trod enc Try.prog w 0 spare held fuel 39 cs = some y) : ∃ x, cs = rowC x := by
  obtain ⟨xs, n, _, _, hlen, hxl, hf⟩ := DataW.trod_struct Try.underlying39 h
  rw [cellsRow] at hlen
  have g0 := hf 0 _ rfl
  have g1 := hf 1 _ rfl
  have g2 := hf 2 _ rfl
  have hxl' : xs.length = 3 := hxl
  clear hxl hf h
  match cs, hlen, xs, hxl' with
  | [v0, v1, v2, v3, v4], _, [y0, y1, y2], _ =>
    simp [cellsTup, cellsI64] at g0 g1 g2
    obtain ⟨⟨a, b, s⟩, ha⟩ := open_tup _ _ _ g0
    obtain ⟨c, hc, _⟩ := DataW.trod_int Try.underlying2 g1
    obtain ⟨d, hd, _⟩ := DataW.trod_int Try.underlying2 g2
    simp [tupC] at ha hc hd
    obtain ⟨rfl, rfl, rfl⟩ := ha
    subst hc hd
    exact ⟨((a, b, s), c, d), rfl⟩
set_option maxRecDepth 10000 in
theorem open_mutC (fuel : Nat) (cs : List Value) (y : DataW H × List MemPlace) (h : DataW.trod enc Try.prog w 0 spare held fuel 41 cs = some y) : ∃ x, cs = mutC x := by
  obtain ⟨xs, n, _, _, hlen, hxl, hf⟩ := DataW.trod_struct Try.underlying41 h
  rw [cellsMut] at hlen
  have g0 := hf 0 _ rfl
  have g1 := hf 1 _ rfl
  have hxl' : xs.length = 2 := hxl
  clear hxl hf h
  match cs, hlen, xs, hxl' with
  | [v0, v1, v2, v3], _, [y0, y1], _ =>
    simp [cellsTup, cellsBool] at g0 g1
    obtain ⟨c, hc, _⟩ := DataW.trod_bool Try.underlying4 g0
    obtain ⟨⟨a, b, s⟩, ha⟩ := open_tup _ _ _ g1
    simp [tupC] at ha hc
    obtain ⟨rfl, rfl, rfl⟩ := ha
    subst hc
    exact ⟨(c, a, b, s), rfl⟩
set_option maxRecDepth 10000 in
theorem open_chgC (fuel : Nat) (cs : List Value) (y : DataW H × List MemPlace) (h : DataW.trod enc Try.prog w 0 spare held fuel 43 cs = some y) : ∃ x, cs = chgC x := by
  obtain ⟨xs, n, _, _, hlen, hxl, hf⟩ := DataW.trod_struct Try.underlying43 h
  rw [cellsChg] at hlen
  have g0 := hf 0 _ rfl
  have g1 := hf 1 _ rfl
  have hxl' : xs.length = 2 := hxl
  clear hxl hf h
  match cs, hlen, xs, hxl' with
  | [v0, v1, v2, v3, v4], _, [y0, y1], _ =>
    simp [cellsMut, cellsI64] at g0 g1
    obtain ⟨c, hc, _⟩ := DataW.trod_int Try.underlying2 g0
    obtain ⟨⟨d, a, b, s⟩, ha⟩ := open_mutC _ _ _ g1
    simp [mutC] at ha hc
    obtain ⟨rfl, rfl, rfl, rfl⟩ := ha
    subst hc
    exact ⟨(c, d, a, b, s), rfl⟩
theorem open_rows {fuel : Nat} {cs : List Value} {y : DataW H × List MemPlace} (h : DataW.trod enc Try.prog w 0 spare held fuel 22 cs = some y) : ∃ v xs, cs = [v] ∧ SliceIs 5 (fun _ cs x => cs = rowC x) w v xs :=
  open_SliceIs Try.underlying22 cellsRow (by omega) open_rowC h
theorem open_chgs {fuel : Nat} {cs : List Value} {y : DataW H × List MemPlace} (h : DataW.trod enc Try.prog w 0 spare held fuel 25 cs = some y) : ∃ v xs, cs = [v] ∧ SliceIs 5 (fun _ cs x => cs = chgC x) w v xs :=
  open_SliceIs Try.underlying25 cellsChg (by omega) open_chgC h
end
end Go.Proofs.Ytobcakjlfdejjaa.Watch
end
