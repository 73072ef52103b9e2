/- The law's words: two slices are alike. -/
import Derived.Test.YtobcakjlfdejjaaAwakeW
import Derived.Test.YtobcakjlfdejjaaCompactM
set_option linter.unusedVariables false
set_option linter.unusedSimpArgs false
namespace Go.Proofs.Ytobcakjlfdejjaa.Watch
open Go.RowKit Go.Por Go.Sort Go.Por.StEq

theorem infoRow0 : (Try.prog.info? 39).map (·.size) = some 5 := by kernel_rfl
theorem part_tupR (x : Tup) (a b : Int) (w : World) : (part 37 (rowC (x, a, b)).toArray 0).run Try.prog w = .ok (.agg (tupC x).toArray) w := by
  unfold rowC tupC
  go_simp
theorem eqRowIn (d : Nat) (w : World) (x y : RowT) : (Op.equalIn (d + 3) 39 (.agg (rowC x).toArray) (.agg (rowC y).toArray)).run Try.prog w = .ok (decide (x = y)) w := by
  obtain ⟨x0, x1, x2⟩ := x
  obtain ⟨y0, y1, y2⟩ := y
  have h : (Op.equalIn (d + 3) 39 (.agg (rowC (x0, x1, x2)).toArray) (.agg (rowC (y0, y1, y2)).toArray)).run Try.prog w = .ok (decide (x0 = y0) && (x1 == y1 && x2 == y2)) w := by
    refine eqA_of Try.underlying39 (by kernel_rfl) ?_
    refine eqf_cons (by rfl) (part_tupR x0 x1 x2 w) (part_tupR y0 y1 y2 w) (eqTupIn d w x0 y0) ?_
    refine eqf_cons (a := .int .i64 x1) (b := .int .i64 y1) (by rfl) (by unfold rowC; go_simp) (by unfold rowC; go_simp) (by go_simp) ?_
    exact eqf_last (a := .int .i64 x2) (b := .int .i64 y2) (by rfl) (by unfold rowC; go_simp) (by unfold rowC; go_simp) (by go_simp)
  have e : (decide (x0 = y0) && (x1 == y1 && x2 == y2)) = decide ((x0, x1, x2) = (y0, y1, y2)) := by
    rw [Bool.eq_iff_iff]
    simp
  rw [h, e]
theorem eqRow (x y : RowT) (w : World) : (Op.equal 39 (.agg (rowC x).toArray) (.agg (rowC y).toArray)).run Try.prog w = .ok (decide (x = y)) w := eqRowIn 9997 w x y

set_option maxRecDepth 100000 in
set_option maxHeartbeats 1600000 in
theorem tuples_any {w : World} {v1 v2 : Value} {l1 l2 : List Tup} (h1 : ReadS tupC 3 w v1 l1) (h2 : ReadS tupC 3 w v2 l2) :
    Calls Try.prog 12 #[v1, v2] w fun e w' => e = .returned (.bool (decide (l1 = l2))) ∧ Mod (fun _ => False) w w' := by
  obtain ⟨ao1, cap1, rfl, hl1⟩ := h1.form
  obtain ⟨ao2, cap2, rfl, hl2⟩ := h2.form
  obtain ⟨n1, hn1⟩ : ∃ n, l1.length = n := ⟨_, rfl⟩
  obtain ⟨n2, hn2⟩ : ∃ n, l2.length = n := ⟨_, rfl⟩
  rw [hn1] at h1 hl1 ⊢
  rw [hn2] at h2 hl2 ⊢
  have HH := Lib.hid (And.intro h1 (And.intro h2 (And.intro hl1 (And.intro hn1 hn2))))
  clear h1 h2 hl2
  go_enter Try.func12, Try.ntmps12
  by_cases hne : n1 = n2
  · subst hne
    clear hn2 hn1
    go_wp2
    go_loopg [13] n1 (fun gg vi wx => ∃ t : Nat, t + gg = n1 ∧ vi = .int .i64 (t : Int) ∧ l1.take t = l2.take t ∧ Mod (fun _ => False) w wx)
    case atStart => exact ⟨0, by omega, rfl, rfl, Mod.refl _ _⟩
    case round =>
      obtain ⟨t, htg, rfl, heq, hmod⟩ := hrel
      have HI := Lib.hid (And.intro htg (And.intro heq hmod))
      by_cases hc : t < n1
      · obtain ⟨g1, g2, g3, g4, g5⟩ := HH.out
        have hci : (t : Int) < (n1 : Int) := by omega
        have ht0 : (0 : Int) ≤ (t : Int) := by omega
        have htb : (t : Int) < 9223372036854775807 := by omega
        have k6 : IntKind.i64.wrap (t : Int) = (t : Int) := by simp [IntKind.wrap, IntKind.bits, IntKind.signed]; omega
        obtain ⟨x, hx⟩ : ∃ x, l1[t]? = some x := ⟨_, List.getElem?_eq_getElem (by omega)⟩
        obtain ⟨y, hy⟩ : ∃ y, l2[t]? = some y := ⟨_, List.getElem?_eq_getElem (by omega)⟩
        have d1 := (g1.mod (S := fun _ => False) (by decide) tupC_len hmod.drew (fun _ _ h => h))
        have d2 := (g2.mod (S := fun _ => False) (by decide) tupC_len hmod.drew (fun _ _ h => h))
        obtain ⟨b1, o1, rfl, r1, lt1⟩ := d1.lt (by decide) tupC_len hx
        obtain ⟨b2, o2, rfl, r2, lt2⟩ := d2.lt (by decide) tupC_len hy
        obtain ⟨cx, hcx⟩ : ∃ cx, tupC x = cx := ⟨_, rfl⟩
        obtain ⟨cy, hcy⟩ : ∃ cy, tupC y = cy := ⟨_, rfl⟩
        have hx5 : cx.length = 3 := by rw [← hcx]; rfl
        have hy5 : cy.length = 3 := by rw [← hcy]; rfl
        obtain ⟨bb, hbb⟩ : ∃ bb, decide (x = y) = bb := ⟨_, rfl⟩
        have hq : ∀ w, (Op.equal 37 (.agg cx.toArray) (.agg cy.toArray)).run Try.prog w = .ok bb w := fun w => by
          rw [← hcx, ← hcy, ← hbb]
          exact eqTup x y w
        rw [hcx] at r1
        rw [hcy] at r2
        have HQ := Lib.hid hq
        have HX := Lib.hid (And.intro hx5 (And.intro hy5 (And.intro r1 (And.intro lt1 (And.intro r2 (And.intro lt2 hbb))))))
        have HE := Lib.hid (And.intro hx (And.intro hy hc))
        clear g1 g2 g3 g4 g5 hx hy d1 d2 r1 lt1 r2 lt2 hcx hcy hx5 hy5 hbb hq htg heq hmod hc
        go_wp2_with fail
        refine wp_region_held_drew (S := fun w' => Gr wr.drew w') (by kernel_rfl) (Gr.refl _) (fun hS => ?_)
        refine takeD (i := 0) rfl (by kernel_rfl) (by kernel_rfl) (by kernel_rfl) (fun _ _ _ h => h) hS (Or.inl ⟨by rfl, fun w hSw => by go_simp; rfl⟩) ?_
        simp only [Act.put, List.setIfInBounds_toArray, List.set_cons_zero, List.set_cons_succ]
        refine takeD (i := 1) rfl (by kernel_rfl) (by kernel_rfl) (by kernel_rfl) (fun _ _ _ h => h) hS (Or.inl ⟨by rfl, fun w hSw => by go_simp; rfl⟩) ?_
        simp only [Act.put, List.setIfInBounds_toArray, List.set_cons_zero, List.set_cons_succ]
        refine takeD (i := 2) rfl (by kernel_rfl) (by kernel_rfl) (by kernel_rfl) (fun _ _ _ h => h) hS (Or.inl ⟨by rfl, fun w hSw => by go_simp; rfl⟩) ?_
        simp only [Act.put, List.setIfInBounds_toArray, List.set_cons_zero, List.set_cons_succ]
        refine takeD (i := 3) rfl (by kernel_rfl) (by kernel_rfl) (by kernel_rfl) (fun _ _ _ h => h) hS (yieldsIf_load_mid (by rfl) 37 (.tmp 18) rfl b1 (o1 + t * 3) rfl cx _ (fun w hSw => range_below HX.out.2.2.1 hSw.below HX.out.2.2.2.1) Try.underlying37 rfl (by rw [HX.out.1]; exact infoTup0)) ?_
        simp only [Act.put, List.setIfInBounds_toArray, List.set_cons_zero, List.set_cons_succ]
        refine takeD (i := 4) rfl (by kernel_rfl) (by kernel_rfl) (by kernel_rfl) (fun _ _ _ h => h) hS (Or.inl ⟨by rfl, fun w hSw => by go_simp; rfl⟩) ?_
        simp only [Act.put, List.setIfInBounds_toArray, List.set_cons_zero, List.set_cons_succ]
        refine takeD (i := 5) rfl (by kernel_rfl) (by kernel_rfl) (by kernel_rfl) (fun _ _ _ h => h) hS (Or.inl ⟨by rfl, fun w hSw => by go_simp; rfl⟩) ?_
        simp only [Act.put, List.setIfInBounds_toArray, List.set_cons_zero, List.set_cons_succ]
        refine takeD (i := 6) rfl (by kernel_rfl) (by kernel_rfl) (by kernel_rfl) (fun _ _ _ h => h) hS (Or.inl ⟨by rfl, fun w hSw => by go_simp; rfl⟩) ?_
        simp only [Act.put, List.setIfInBounds_toArray, List.set_cons_zero, List.set_cons_succ]
        refine takeD (i := 7) rfl (by kernel_rfl) (by kernel_rfl) (by kernel_rfl) (fun _ _ _ h => h) hS (yieldsIf_load_mid (by rfl) 37 (.tmp 22) rfl b2 (o2 + t * 3) rfl cy _ (fun w hSw => range_below HX.out.2.2.2.2.1 hSw.below HX.out.2.2.2.2.2.1) Try.underlying37 rfl (by rw [HX.out.2.1]; exact infoTup0)) ?_
        simp only [Act.put, List.setIfInBounds_toArray, List.set_cons_zero, List.set_cons_succ]
        refine takeD (i := 8) rfl (by kernel_rfl) (by kernel_rfl) (by kernel_rfl) (fun _ _ _ h => h) hS (yields_neS (by rfl) 37 (.tmp 19) (.tmp 23) _ rfl cx.toArray cy.toArray rfl rfl (by kernel_rfl) bb HQ.out) ?_
        simp only [Act.put, List.setIfInBounds_toArray, List.set_cons_zero, List.set_cons_succ]
        refine wpAnyH_done (by kernel_rfl) ?_ _
        clear hS
        cases bb with
        | true =>
          simp only [Bool.not_true]
          go_wp2
          go_roundg (gk - 1)
          case measure => have h1 := HI.out; have h2 := HE.out; omega
          case rel =>
            obtain ⟨i1, i2, i3⟩ := HI.out
            obtain ⟨e1, e2, e3⟩ := HE.out
            have hxy : x = y := of_decide_eq_true HX.out.2.2.2.2.2.2
            exact ⟨t + 1, by omega, by go_num, by rw [List.take_add_one, List.take_add_one, i2, e1, e2, hxy], i3.drew⟩
        | false =>
          simp only [Bool.not_false]
          go_wp2
          go_ret
          obtain ⟨e1, e2, e3⟩ := HE.out
          have hxy : ¬ x = y := of_decide_eq_false HX.out.2.2.2.2.2.2
          refine ⟨?_, HI.out.2.2.drew⟩
          rw [decide_eq_false (fun e => hxy (by rw [e] at e1; rw [e1] at e2; exact Option.some.inj e2))]
          rfl
      · have hci : ¬ (t : Int) < (n1 : Int) := by omega
        have HE := Lib.hid hc
        clear htg heq hmod hc
        go_wp2
        go_ret
        obtain ⟨i1, i2, i3⟩ := HI.out
        obtain ⟨g1, g2, g3, g4, g5⟩ := HH.out
        have hcc := HE.out
        rw [List.take_of_length_le (by omega), List.take_of_length_le (by omega)] at i2
        refine ⟨?_, i3⟩
        rw [decide_eq_true i2]
        rfl
  · have q : ((n1 : Int) != (n2 : Int)) = true := by rw [bne_iff_ne]; omega
    have HE := Lib.hid hne
    clear hne hn1 hn2
    go_wp2
    go_ret
    obtain ⟨g1, g2, g3, g4, g5⟩ := HH.out
    refine ⟨?_, Mod.refl _ _⟩
    rw [decide_eq_false (fun e => HE.out (by rw [← g4, ← g5, e]))]
    rfl

set_option maxRecDepth 100000 in
set_option maxHeartbeats 1600000 in
theorem mutations_any {w : World} {v1 v2 : Value} {l1 l2 : List Mut} (h1 : ReadS mutC 4 w v1 l1) (h2 : ReadS mutC 4 w v2 l2) :
    Calls Try.prog 22 #[v1, v2] w fun e w' => e = .returned (.bool (decide (l1 = l2))) ∧ Mod (fun _ => False) w w' := by
  obtain ⟨ao1, cap1, rfl, hl1⟩ := h1.form
  obtain ⟨ao2, cap2, rfl, hl2⟩ := h2.form
  obtain ⟨n1, hn1⟩ : ∃ n, l1.length = n := ⟨_, rfl⟩
  obtain ⟨n2, hn2⟩ : ∃ n, l2.length = n := ⟨_, rfl⟩
  rw [hn1] at h1 hl1 ⊢
  rw [hn2] at h2 hl2 ⊢
  have HH := Lib.hid (And.intro h1 (And.intro h2 (And.intro hl1 (And.intro hn1 hn2))))
  clear h1 h2 hl2
  go_enter Try.func22, Try.ntmps22
  by_cases hne : n1 = n2
  · subst hne
    clear hn2 hn1
    go_wp2
    go_loopg [13] n1 (fun gg vi wx => ∃ t : Nat, t + gg = n1 ∧ vi = .int .i64 (t : Int) ∧ l1.take t = l2.take t ∧ Mod (fun _ => False) w wx)
    case atStart => exact ⟨0, by omega, rfl, rfl, Mod.refl _ _⟩
    case round =>
      obtain ⟨t, htg, rfl, heq, hmod⟩ := hrel
      have HI := Lib.hid (And.intro htg (And.intro heq hmod))
      by_cases hc : t < n1
      · obtain ⟨g1, g2, g3, g4, g5⟩ := HH.out
        have hci : (t : Int) < (n1 : Int) := by omega
        have ht0 : (0 : Int) ≤ (t : Int) := by omega
        have htb : (t : Int) < 9223372036854775807 := by omega
        have k6 : IntKind.i64.wrap (t : Int) = (t : Int) := by simp [IntKind.wrap, IntKind.bits, IntKind.signed]; omega
        obtain ⟨x, hx⟩ : ∃ x, l1[t]? = some x := ⟨_, List.getElem?_eq_getElem (by omega)⟩
        obtain ⟨y, hy⟩ : ∃ y, l2[t]? = some y := ⟨_, List.getElem?_eq_getElem (by omega)⟩
        have d1 := (g1.mod (S := fun _ => False) (by decide) mutC_len hmod.drew (fun _ _ h => h))
        have d2 := (g2.mod (S := fun _ => False) (by decide) mutC_len hmod.drew (fun _ _ h => h))
        obtain ⟨b1, o1, rfl, r1, lt1⟩ := d1.lt (by decide) mutC_len hx
        obtain ⟨b2, o2, rfl, r2, lt2⟩ := d2.lt (by decide) mutC_len hy
        obtain ⟨cx, hcx⟩ : ∃ cx, mutC x = cx := ⟨_, rfl⟩
        obtain ⟨cy, hcy⟩ : ∃ cy, mutC y = cy := ⟨_, rfl⟩
        have hx5 : cx.length = 4 := by rw [← hcx]; rfl
        have hy5 : cy.length = 4 := by rw [← hcy]; rfl
        obtain ⟨bb, hbb⟩ : ∃ bb, decide (x = y) = bb := ⟨_, rfl⟩
        have hq : ∀ w, (Op.equal 41 (.agg cx.toArray) (.agg cy.toArray)).run Try.prog w = .ok bb w := fun w => by
          rw [← hcx, ← hcy, ← hbb]
          exact eqMut x y w
        rw [hcx] at r1
        rw [hcy] at r2
        have HQ := Lib.hid hq
        have HX := Lib.hid (And.intro hx5 (And.intro hy5 (And.intro r1 (And.intro lt1 (And.intro r2 (And.intro lt2 hbb))))))
        have HE := Lib.hid (And.intro hx (And.intro hy hc))
        clear g1 g2 g3 g4 g5 hx hy d1 d2 r1 lt1 r2 lt2 hcx hcy hx5 hy5 hbb hq htg heq hmod hc
        go_wp2_with fail
        refine wp_region_held_drew (S := fun w' => Gr wr.drew w') (by kernel_rfl) (Gr.refl _) (fun hS => ?_)
        refine takeD (i := 0) rfl (by kernel_rfl) (by kernel_rfl) (by kernel_rfl) (fun _ _ _ h => h) hS (Or.inl ⟨by rfl, fun w hSw => by go_simp; rfl⟩) ?_
        simp only [Act.put, List.setIfInBounds_toArray, List.set_cons_zero, List.set_cons_succ]
        refine takeD (i := 1) rfl (by kernel_rfl) (by kernel_rfl) (by kernel_rfl) (fun _ _ _ h => h) hS (Or.inl ⟨by rfl, fun w hSw => by go_simp; rfl⟩) ?_
        simp only [Act.put, List.setIfInBounds_toArray, List.set_cons_zero, List.set_cons_succ]
        refine takeD (i := 2) rfl (by kernel_rfl) (by kernel_rfl) (by kernel_rfl) (fun _ _ _ h => h) hS (Or.inl ⟨by rfl, fun w hSw => by go_simp; rfl⟩) ?_
        simp only [Act.put, List.setIfInBounds_toArray, List.set_cons_zero, List.set_cons_succ]
        refine takeD (i := 3) rfl (by kernel_rfl) (by kernel_rfl) (by kernel_rfl) (fun _ _ _ h => h) hS (yieldsIf_load_mid (by rfl) 41 (.tmp 18) rfl b1 (o1 + t * 4) rfl cx _ (fun w hSw => range_below HX.out.2.2.1 hSw.below HX.out.2.2.2.1) Try.underlying41 rfl (by rw [HX.out.1]; exact infoMut0)) ?_
        simp only [Act.put, List.setIfInBounds_toArray, List.set_cons_zero, List.set_cons_succ]
        refine takeD (i := 4) rfl (by kernel_rfl) (by kernel_rfl) (by kernel_rfl) (fun _ _ _ h => h) hS (Or.inl ⟨by rfl, fun w hSw => by go_simp; rfl⟩) ?_
        simp only [Act.put, List.setIfInBounds_toArray, List.set_cons_zero, List.set_cons_succ]
        refine takeD (i := 5) rfl (by kernel_rfl) (by kernel_rfl) (by kernel_rfl) (fun _ _ _ h => h) hS (Or.inl ⟨by rfl, fun w hSw => by go_simp; rfl⟩) ?_
        simp only [Act.put, List.setIfInBounds_toArray, List.set_cons_zero, List.set_cons_succ]
        refine takeD (i := 6) rfl (by kernel_rfl) (by kernel_rfl) (by kernel_rfl) (fun _ _ _ h => h) hS (Or.inl ⟨by rfl, fun w hSw => by go_simp; rfl⟩) ?_
        simp only [Act.put, List.setIfInBounds_toArray, List.set_cons_zero, List.set_cons_succ]
        refine takeD (i := 7) rfl (by kernel_rfl) (by kernel_rfl) (by kernel_rfl) (fun _ _ _ h => h) hS (yieldsIf_load_mid (by rfl) 41 (.tmp 22) rfl b2 (o2 + t * 4) rfl cy _ (fun w hSw => range_below HX.out.2.2.2.2.1 hSw.below HX.out.2.2.2.2.2.1) Try.underlying41 rfl (by rw [HX.out.2.1]; exact infoMut0)) ?_
        simp only [Act.put, List.setIfInBounds_toArray, List.set_cons_zero, List.set_cons_succ]
        refine takeD (i := 8) rfl (by kernel_rfl) (by kernel_rfl) (by kernel_rfl) (fun _ _ _ h => h) hS (yields_neS (by rfl) 41 (.tmp 19) (.tmp 23) _ rfl cx.toArray cy.toArray rfl rfl (by kernel_rfl) bb HQ.out) ?_
        simp only [Act.put, List.setIfInBounds_toArray, List.set_cons_zero, List.set_cons_succ]
        refine wpAnyH_done (by kernel_rfl) ?_ _
        clear hS
        cases bb with
        | true =>
          simp only [Bool.not_true]
          go_wp2
          go_roundg (gk - 1)
          case measure => have h1 := HI.out; have h2 := HE.out; omega
          case rel =>
            obtain ⟨i1, i2, i3⟩ := HI.out
            obtain ⟨e1, e2, e3⟩ := HE.out
            have hxy : x = y := of_decide_eq_true HX.out.2.2.2.2.2.2
            exact ⟨t + 1, by omega, by go_num, by rw [List.take_add_one, List.take_add_one, i2, e1, e2, hxy], i3.drew⟩
        | false =>
          simp only [Bool.not_false]
          go_wp2
          go_ret
          obtain ⟨e1, e2, e3⟩ := HE.out
          have hxy : ¬ x = y := of_decide_eq_false HX.out.2.2.2.2.2.2
          refine ⟨?_, HI.out.2.2.drew⟩
          rw [decide_eq_false (fun e => hxy (by rw [e] at e1; rw [e1] at e2; exact Option.some.inj e2))]
          rfl
      · have hci : ¬ (t : Int) < (n1 : Int) := by omega
        have HE := Lib.hid hc
        clear htg heq hmod hc
        go_wp2
        go_ret
        obtain ⟨i1, i2, i3⟩ := HI.out
        obtain ⟨g1, g2, g3, g4, g5⟩ := HH.out
        have hcc := HE.out
        rw [List.take_of_length_le (by omega), List.take_of_length_le (by omega)] at i2
        refine ⟨?_, i3⟩
        rw [decide_eq_true i2]
        rfl
  · have q : ((n1 : Int) != (n2 : Int)) = true := by rw [bne_iff_ne]; omega
    have HE := Lib.hid hne
    clear hne hn1 hn2
    go_wp2
    go_ret
    obtain ⟨g1, g2, g3, g4, g5⟩ := HH.out
    refine ⟨?_, Mod.refl _ _⟩
    rw [decide_eq_false (fun e => HE.out (by rw [← g4, ← g5, e]))]
    rfl

set_option maxRecDepth 100000 in
set_option maxHeartbeats 1600000 in
theorem same07_any {w : World} {v1 v2 : Value} {l1 l2 : List RowT} (h1 : ReadS rowC 5 w v1 l1) (h2 : ReadS rowC 5 w v2 l2) :
    Calls Try.prog 18 #[v1, v2] w fun e w' => e = .returned (.bool (decide (l1 = l2))) ∧ Mod (fun _ => False) w w' := by
  obtain ⟨ao1, cap1, rfl, hl1⟩ := h1.form
  obtain ⟨ao2, cap2, rfl, hl2⟩ := h2.form
  obtain ⟨n1, hn1⟩ : ∃ n, l1.length = n := ⟨_, rfl⟩
  obtain ⟨n2, hn2⟩ : ∃ n, l2.length = n := ⟨_, rfl⟩
  rw [hn1] at h1 hl1 ⊢
  rw [hn2] at h2 hl2 ⊢
  have HH := Lib.hid (And.intro h1 (And.intro h2 (And.intro hl1 (And.intro hn1 hn2))))
  clear h1 h2 hl2
  go_enter Try.func18, Try.ntmps18
  by_cases hne : n1 = n2
  · subst hne
    clear hn2 hn1
    go_wp2
    go_loopg [5] n1 (fun gg vi wx => ∃ t : Nat, t + gg = n1 ∧ vi = .int .i64 (t : Int) ∧ l1.take t = l2.take t ∧ Mod (fun _ => False) w wx)
    case atStart => exact ⟨0, by omega, rfl, rfl, Mod.refl _ _⟩
    case round =>
      obtain ⟨t, htg, rfl, heq, hmod⟩ := hrel
      have HI := Lib.hid (And.intro htg (And.intro heq hmod))
      by_cases hc : t < n1
      · obtain ⟨g1, g2, g3, g4, g5⟩ := HH.out
        have hci : (t : Int) < (n1 : Int) := by omega
        have ht0 : (0 : Int) ≤ (t : Int) := by omega
        have htb : (t : Int) < 9223372036854775807 := by omega
        have k6 : IntKind.i64.wrap (t : Int) = (t : Int) := by simp [IntKind.wrap, IntKind.bits, IntKind.signed]; omega
        obtain ⟨x, hx⟩ : ∃ x, l1[t]? = some x := ⟨_, List.getElem?_eq_getElem (by omega)⟩
        obtain ⟨y, hy⟩ : ∃ y, l2[t]? = some y := ⟨_, List.getElem?_eq_getElem (by omega)⟩
        have d1 := (g1.mod (S := fun _ => False) (by decide) rowC_len hmod.drew (fun _ _ h => h))
        have d2 := (g2.mod (S := fun _ => False) (by decide) rowC_len hmod.drew (fun _ _ h => h))
        obtain ⟨b1, o1, rfl, r1, lt1⟩ := d1.lt (by decide) rowC_len hx
        obtain ⟨b2, o2, rfl, r2, lt2⟩ := d2.lt (by decide) rowC_len hy
        obtain ⟨cx, hcx⟩ : ∃ cx, rowC x = cx := ⟨_, rfl⟩
        obtain ⟨cy, hcy⟩ : ∃ cy, rowC y = cy := ⟨_, rfl⟩
        have hx5 : cx.length = 5 := by rw [← hcx]; rfl
        have hy5 : cy.length = 5 := by rw [← hcy]; rfl
        obtain ⟨bb, hbb⟩ : ∃ bb, decide (x = y) = bb := ⟨_, rfl⟩
        have hq : ∀ w, (Op.equal 39 (.agg cx.toArray) (.agg cy.toArray)).run Try.prog w = .ok bb w := fun w => by
          rw [← hcx, ← hcy, ← hbb]
          exact eqRow x y w
        rw [hcx] at r1
        rw [hcy] at r2
        have HQ := Lib.hid hq
        have HX := Lib.hid (And.intro hx5 (And.intro hy5 (And.intro r1 (And.intro lt1 (And.intro r2 (And.intro lt2 hbb))))))
        have HE := Lib.hid (And.intro hx (And.intro hy hc))
        clear g1 g2 g3 g4 g5 hx hy d1 d2 r1 lt1 r2 lt2 hcx hcy hx5 hy5 hbb hq htg heq hmod hc
        go_wp2_with fail
        refine wp_region_held_drew (S := fun w' => Gr wr.drew w') (by kernel_rfl) (Gr.refl _) (fun hS => ?_)
        refine takeD (i := 0) rfl (by kernel_rfl) (by kernel_rfl) (by kernel_rfl) (fun _ _ _ h => h) hS (Or.inl ⟨by rfl, fun w hSw => by go_simp; rfl⟩) ?_
        simp only [Act.put, List.setIfInBounds_toArray, List.set_cons_zero, List.set_cons_succ]
        refine takeD (i := 1) rfl (by kernel_rfl) (by kernel_rfl) (by kernel_rfl) (fun _ _ _ h => h) hS (Or.inl ⟨by rfl, fun w hSw => by go_simp; rfl⟩) ?_
        simp only [Act.put, List.setIfInBounds_toArray, List.set_cons_zero, List.set_cons_succ]
        refine takeD (i := 2) rfl (by kernel_rfl) (by kernel_rfl) (by kernel_rfl) (fun _ _ _ h => h) hS (Or.inl ⟨by rfl, fun w hSw => by go_simp; rfl⟩) ?_
        simp only [Act.put, List.setIfInBounds_toArray, List.set_cons_zero, List.set_cons_succ]
        refine takeD (i := 3) rfl (by kernel_rfl) (by kernel_rfl) (by kernel_rfl) (fun _ _ _ h => h) hS (yieldsIf_load_mid (by rfl) 39 (.tmp 19) rfl b1 (o1 + t * 5) rfl cx _ (fun w hSw => range_below HX.out.2.2.1 hSw.below HX.out.2.2.2.1) Try.underlying39 rfl (by rw [HX.out.1]; exact infoRow0)) ?_
        simp only [Act.put, List.setIfInBounds_toArray, List.set_cons_zero, List.set_cons_succ]
        refine takeD (i := 4) rfl (by kernel_rfl) (by kernel_rfl) (by kernel_rfl) (fun _ _ _ h => h) hS (Or.inl ⟨by rfl, fun w hSw => by go_simp; rfl⟩) ?_
        simp only [Act.put, List.setIfInBounds_toArray, List.set_cons_zero, List.set_cons_succ]
        refine takeD (i := 5) rfl (by kernel_rfl) (by kernel_rfl) (by kernel_rfl) (fun _ _ _ h => h) hS (Or.inl ⟨by rfl, fun w hSw => by go_simp; rfl⟩) ?_
        simp only [Act.put, List.setIfInBounds_toArray, List.set_cons_zero, List.set_cons_succ]
        refine takeD (i := 6) rfl (by kernel_rfl) (by kernel_rfl) (by kernel_rfl) (fun _ _ _ h => h) hS (Or.inl ⟨by rfl, fun w hSw => by go_simp; rfl⟩) ?_
        simp only [Act.put, List.setIfInBounds_toArray, List.set_cons_zero, List.set_cons_succ]
        refine takeD (i := 7) rfl (by kernel_rfl) (by kernel_rfl) (by kernel_rfl) (fun _ _ _ h => h) hS (yieldsIf_load_mid (by rfl) 39 (.tmp 23) rfl b2 (o2 + t * 5) rfl cy _ (fun w hSw => range_below HX.out.2.2.2.2.1 hSw.below HX.out.2.2.2.2.2.1) Try.underlying39 rfl (by rw [HX.out.2.1]; exact infoRow0)) ?_
        simp only [Act.put, List.setIfInBounds_toArray, List.set_cons_zero, List.set_cons_succ]
        refine takeD (i := 8) rfl (by kernel_rfl) (by kernel_rfl) (by kernel_rfl) (fun _ _ _ h => h) hS (yields_neS (by rfl) 39 (.tmp 20) (.tmp 24) _ rfl cx.toArray cy.toArray rfl rfl (by kernel_rfl) bb HQ.out) ?_
        simp only [Act.put, List.setIfInBounds_toArray, List.set_cons_zero, List.set_cons_succ]
        refine wpAnyH_done (by kernel_rfl) ?_ _
        clear hS
        cases bb with
        | true =>
          simp only [Bool.not_true]
          go_wp2
          go_roundg (gk - 1)
          case measure => have h1 := HI.out; have h2 := HE.out; omega
          case rel =>
            obtain ⟨i1, i2, i3⟩ := HI.out
            obtain ⟨e1, e2, e3⟩ := HE.out
            have hxy : x = y := of_decide_eq_true HX.out.2.2.2.2.2.2
            exact ⟨t + 1, by omega, by go_num, by rw [List.take_add_one, List.take_add_one, i2, e1, e2, hxy], i3.drew⟩
        | false =>
          simp only [Bool.not_false]
          go_wp2
          go_ret
          obtain ⟨e1, e2, e3⟩ := HE.out
          have hxy : ¬ x = y := of_decide_eq_false HX.out.2.2.2.2.2.2
          refine ⟨?_, HI.out.2.2.drew⟩
          rw [decide_eq_false (fun e => hxy (by rw [e] at e1; rw [e1] at e2; exact Option.some.inj e2))]
          rfl
      · have hci : ¬ (t : Int) < (n1 : Int) := by omega
        have HE := Lib.hid hc
        clear htg heq hmod hc
        go_wp2
        go_ret
        obtain ⟨i1, i2, i3⟩ := HI.out
        obtain ⟨g1, g2, g3, g4, g5⟩ := HH.out
        have hcc := HE.out
        rw [List.take_of_length_le (by omega), List.take_of_length_le (by omega)] at i2
        refine ⟨?_, i3⟩
        rw [decide_eq_true i2]
        rfl
  · have q : ((n1 : Int) != (n2 : Int)) = true := by rw [bne_iff_ne]; omega
    have HE := Lib.hid hne
    clear hne hn1 hn2
    go_wp2
    go_ret
    obtain ⟨g1, g2, g3, g4, g5⟩ := HH.out
    refine ⟨?_, Mod.refl _ _⟩
    rw [decide_eq_false (fun e => HE.out (by rw [← g4, ← g5, e]))]
    rfl
end Go.Proofs.Ytobcakjlfdejjaa.Watch
