/- WatchNet, where what came in is of bulk at most 1048576: what leads from some tuples to others does so in a store, and n: part 16 of 32: what it leans on. -/
import Derived.Deep.LoopGhost
import Derived.Test.YtojjnfhgldjgbaaGreatDoorNtA
import Derived.Test.YtojjnfhgldjgbaaGreatDoorNtB
import Derived.Test.YtojjnfhgldjgbaaGreatDoorNtC
import Derived.Test.YtojjnfhgldjgbaaGreatDoorNtD
import Derived.Test.YtojjnfhgldjgbaaGreatDoorNtE
import Derived.Test.YtojjnfhgldjgbaaGreatDoorNtL
import Derived.Test.YtojjnfhgldjgbaaGreatDoorNtM
section
set_option linter.unusedVariables false
set_option linter.unusedSimpArgs false
namespace Go.Proofs.YtojjnfhgldjgbaaGreatDoor.Watch
open Go.RowKit Go.Por Go.Sort

theorem rowC_len (x : RowT) : (rowC x).length = 5 := rfl
theorem rowC_one (x : RowT) : (rowC x).toArray.all (·.oneCell') = true := by simp [rowC, Value.oneCell']

set_option maxRecDepth 100000 in
set_option maxHeartbeats 800000 in
theorem swapRange_row {w : World} {g cap : Nat} {l : List RowT} (h : OwnS rowC 5 w 63 (.slice (some ⟨g, 0, none⟩) l.length cap) l) (hl : l.length < 4611686018427387904) (a b n : Nat) (hab : a + n ≤ l.length) (hbb : b + n ≤ l.length) (fv : Value) :
    Calls Tryz.prog 183 #[.slice (some ⟨g, 0, none⟩) l.length cap, .int .i64 (a : Int), .int .i64 (b : Int), .int .i64 (n : Int), fv] w fun e w' =>
      e = .returned (.tuple #[]) ∧ OwnS rowC 5 w' 63 (.slice (some ⟨g, 0, none⟩) l.length cap) (swapR l a b n) ∧ Mod (fun x => x = g) w w' := by
  obtain ⟨L, hL⟩ : ∃ L, l.length = L := ⟨_, rfl⟩
  rw [hL] at h hl hab hbb ⊢
  have HH := Lib.hid (And.intro h hL)
  clear h hL
  go_enter Tryz.func183, Tryz.ntmps183
  go_wp2
  go_loopg [10] n (fun gg i wx => ∃ t : Nat, t + gg = n ∧ i = .int .i64 (t : Int) ∧ OwnS rowC 5 wx 63 (.slice (some ⟨g, 0, none⟩) L cap) (swapR l a b t) ∧ Mod (fun x => x = g) w wx)
  case atStart => exact ⟨0, by omega, rfl, HH.out.1, Mod.refl _ _⟩
  case round =>
    obtain ⟨t, htg, rfl, hown, hmod⟩ := hrel
    by_cases hg : gk = 0
    · have hk : ¬ ((t : Int) < (n : Int)) := by omega
      obtain rfl : t = n := by omega
      have HE := Lib.hid (And.intro hown hmod)
      clear hown hmod htg hg
      go_wp2
      go_end0
      exact ⟨rfl, HE.out⟩
    · have ht : (t : Int) < (n : Int) := by omega
      obtain ⟨p, hp⟩ : ∃ p, a + t = p := ⟨_, rfl⟩
      obtain ⟨q, hq⟩ : ∃ q, b + t = q := ⟨_, rfl⟩
      have e1 : IntKind.i64.wrap (p : Int) = (p : Int) := by simp [IntKind.wrap, IntKind.bits, IntKind.signed]; omega
      have e2 : IntKind.i64.wrap (q : Int) = (q : Int) := by simp [IntKind.wrap, IntKind.bits, IntKind.signed]; omega
      have e3 : (a : Int) + (t : Int) = (p : Int) := by omega
      have e4 : (b : Int) + (t : Int) = (q : Int) := by omega
      have p0 : (0 : Int) ≤ (p : Int) := by omega
      have p1 : (p : Int) < (L : Int) := by omega
      have q0 : (0 : Int) ≤ (q : Int) := by omega
      have q1 : (q : Int) < (L : Int) := by omega
      have hlen : (swapR l a b t).length = L := by rw [swapR_length]; exact HH.out.2
      obtain ⟨x, hx⟩ : ∃ x, (swapR l a b t)[p]? = some x := ⟨_, List.getElem?_eq_getElem (by omega)⟩
      obtain ⟨y, hy⟩ : ∃ y, (swapR l a b t)[q]? = some y := ⟨_, List.getElem?_eq_getElem (by omega)⟩
      have hnext : swapR l a b (t + 1) = ((swapR l a b t).set p y).set q x := by
        rw [swapR, hp, hq, hx, hy]
      obtain ⟨cx, hcx⟩ : ∃ cx, rowC x = cx := ⟨_, rfl⟩
      obtain ⟨cy, hcy⟩ : ∃ cy, rowC y = cy := ⟨_, rfl⟩
      have hx5 : cx.length = 5 := by rw [← hcx]; rfl
      have hy5 : cy.length = 5 := by rw [← hcy]; rfl
      have hx1 : cx.toArray.all (·.oneCell') = true := by rw [← hcx]; exact rowC_one x
      have hy1 : cy.toArray.all (·.oneCell') = true := by rw [← hcy]; exact rowC_one y
      have HX := Lib.hid (And.intro hcx (And.intro hcy (And.intro hx5 (And.intro hy5 (And.intro hx1 hy1)))))
      clear hcx hcy hx5 hy5 hx1 hy1
      obtain ⟨l1, hl1⟩ : ∃ l1, swapR l a b t = l1 := ⟨_, rfl⟩
      rw [hl1] at hown hlen hx hy hnext
      have HI := Lib.hid (And.intro hown (And.intro hmod (And.intro htg (And.intro hlen (And.intro hx (And.intro hy hnext))))))
      clear hown hmod htg hlen hx hy hnext hl1 hp hq
      have HD := Lib.hid (show OwnS rowC 5 wr.drew 63 (.slice (some ⟨g, 0, none⟩) L cap) l1 from HI.out.1)
      have HDm := Lib.hid (show Mod (fun x => x = g) w wr.drew from HI.out.2.1.drew)
      go_wp2_with fail
      refine wp_region_held_drew (S := fun _ => True) (by kernel_rfl) trivial (fun hS => ?_)
      refine takeD (i := 0) rfl (by kernel_rfl) (by kernel_rfl) (by kernel_rfl) (fun _ _ _ h => h) hS (Or.inl ⟨by rfl, fun w hSw => by go_simp; rfl⟩) ?_
      simp only [Act.put, List.setIfInBounds_toArray, List.set_cons_zero, List.set_cons_succ]
      refine takeD (i := 1) rfl (by kernel_rfl) (by kernel_rfl) (by kernel_rfl) (fun _ _ _ h => h) hS (Or.inl ⟨by rfl, fun w hSw => by go_simp; rfl⟩) ?_
      simp only [Act.put, List.setIfInBounds_toArray, List.set_cons_zero, List.set_cons_succ]
      refine takeD (i := 2) rfl (by kernel_rfl) (by kernel_rfl) (by kernel_rfl) (fun _ _ _ h => h) hS (Or.inl ⟨by rfl, fun w hSw => by go_simp; rfl⟩) ?_
      simp only [Act.put, List.setIfInBounds_toArray, List.set_cons_zero, List.set_cons_succ]
      refine takeD (i := 3) rfl (by kernel_rfl) (by kernel_rfl) (by kernel_rfl) (fun _ _ _ h => h) hS (Or.inl ⟨by rfl, fun w hSw => by go_simp; rfl⟩) ?_
      simp only [Act.put, List.setIfInBounds_toArray, List.set_cons_zero, List.set_cons_succ]
      refine takeD (i := 4) rfl (by kernel_rfl) (by kernel_rfl) (by kernel_rfl) (fun _ _ _ h => h) hS (Or.inl ⟨by rfl, fun w hSw => by go_simp; rfl⟩) ?_
      simp only [Act.put, List.setIfInBounds_toArray, List.set_cons_zero, List.set_cons_succ]
      refine takeD (i := 5) rfl (by kernel_rfl) (by kernel_rfl) (by kernel_rfl) (fun _ _ _ h => h) hS (Or.inl ⟨by rfl, fun w hSw => by go_simp; rfl⟩) ?_
      simp only [Act.put, List.setIfInBounds_toArray, List.set_cons_zero, List.set_cons_succ]
      refine takeD (i := 6) rfl (by kernel_rfl) (by kernel_rfl) (by kernel_rfl) (fun _ _ _ h => h) hS (Or.inl ⟨by rfl, fun w hSw => by go_simp; rfl⟩) ?_
      simp only [Act.put, List.setIfInBounds_toArray, List.set_cons_zero, List.set_cons_succ]
      refine takeD (i := 7) rfl (by kernel_rfl) (by kernel_rfl) (by kernel_rfl) (fun _ _ _ h => h) hS (Or.inl ⟨by rfl, fun w hSw => by go_simp; rfl⟩) ?_
      simp only [Act.put, List.setIfInBounds_toArray, List.set_cons_zero, List.set_cons_succ]
      refine takeD (i := 8) rfl (by kernel_rfl) (by kernel_rfl) (by kernel_rfl) (fun _ _ _ h => h) hS (Or.inl ⟨by rfl, fun w hSw => by go_simp; rfl⟩) ?_
      simp only [Act.put, List.setIfInBounds_toArray, List.set_cons_zero, List.set_cons_succ]
      refine takeD (i := 9) rfl (by kernel_rfl) (by kernel_rfl) (by kernel_rfl) (fun _ _ _ h => h) hS (Or.inl ⟨by rfl, fun w hSw => by go_simp; rfl⟩) ?_
      simp only [Act.put, List.setIfInBounds_toArray, List.set_cons_zero, List.set_cons_succ]
      refine takeD (i := 10) rfl (by kernel_rfl) (by kernel_rfl) (by kernel_rfl) (fun _ _ _ h => h) hS (Or.inl ⟨by rfl, fun w hSw => by go_simp; rfl⟩) ?_
      simp only [Act.put, List.setIfInBounds_toArray, List.set_cons_zero, List.set_cons_succ]
      refine takeD (i := 11) rfl (by kernel_rfl) (by kernel_rfl) (by kernel_rfl) (fun _ _ _ h => h) hS (Or.inl ⟨by rfl, fun w hSw => by go_simp; rfl⟩) ?_
      simp only [Act.put, List.setIfInBounds_toArray, List.set_cons_zero, List.set_cons_succ]
      refine takeD (i := 12) rfl (by kernel_rfl) (by kernel_rfl) (by kernel_rfl) (fun _ _ _ h => h) hS (Or.inl ⟨by rfl, fun w hSw => by go_simp; rfl⟩) ?_
      simp only [Act.put, List.setIfInBounds_toArray, List.set_cons_zero, List.set_cons_succ]
      refine takeD (i := 14) rfl (by kernel_rfl) (by kernel_rfl) (by kernel_rfl) (fun _ _ _ h => h) hS (Or.inl ⟨by rfl, fun w hSw => by go_simp; rfl⟩) ?_
      simp only [Act.put, List.setIfInBounds_toArray, List.set_cons_zero, List.set_cons_succ]
      refine takeD (i := 15) rfl (by kernel_rfl) (by kernel_rfl) (by kernel_rfl) (fun _ _ _ h => h) hS (Or.inl ⟨by rfl, fun w hSw => by go_simp; rfl⟩) ?_
      simp only [Act.put, List.setIfInBounds_toArray, List.set_cons_zero, List.set_cons_succ]
      refine takeD (i := 16) rfl (by kernel_rfl) (by kernel_rfl) (by kernel_rfl) (fun _ _ _ h => h) hS (Or.inl ⟨by rfl, fun w hSw => by go_simp; rfl⟩) ?_
      simp only [Act.put, List.setIfInBounds_toArray, List.set_cons_zero, List.set_cons_succ]
      refine takeD (i := 17) rfl (by kernel_rfl) (by kernel_rfl) (by kernel_rfl) (fun _ _ _ h => h) hS (Or.inl ⟨by rfl, fun w hSw => by go_simp; rfl⟩) ?_
      simp only [Act.put, List.setIfInBounds_toArray, List.set_cons_zero, List.set_cons_succ]
      refine takeD (i := 18) rfl (by kernel_rfl) (by kernel_rfl) (by kernel_rfl) (fun _ _ _ h => h) hS (Or.inl ⟨by rfl, fun w hSw => by go_simp; rfl⟩) ?_
      simp only [Act.put, List.setIfInBounds_toArray, List.set_cons_zero, List.set_cons_succ]
      refine wpAnyH_ready (rs := [13, 19]) (by kernel_rfl) (by simp) ?_
      refine consD (i := 13) rfl (fun K hK => ?_) (consD (i := 19) rfl (fun K hK => ?_) AllReadyH.nil)
      · rw [if_pos (by rfl)]
        refine wp_load_mid 63 (.tmp 28) rfl g (q * 5) rfl cy _ (by rw [← HX.out.2.1]; exact OwnS.range rowC_len HD.out HI.out.2.2.2.2.2.1) Tryz.underlying63 rfl (by rw [HX.out.2.2.2.1]; exact infoR) ?_
        simp only [Act.put, List.setIfInBounds_toArray, List.set_cons_zero, List.set_cons_succ]
        refine hK.out _ _ trivial (fun hS => ?_)
        clear hK K
        refine wpAnyH_ready (rs := [19]) (by kernel_rfl) (by simp) ?_
        refine consD (i := 19) rfl (fun K hK => ?_) AllReadyH.nil
        rw [if_pos (by rfl)]
        refine wp_load_mid 63 (.tmp 34) rfl g (p * 5) rfl cx _ (by rw [← HX.out.1]; exact OwnS.range rowC_len HD.out HI.out.2.2.2.2.1) Tryz.underlying63 rfl (by rw [HX.out.2.2.1]; exact infoR) ?_
        simp only [Act.put, List.setIfInBounds_toArray, List.set_cons_zero, List.set_cons_succ]
        refine hK.out _ _ trivial (fun hS => ?_)
        clear hK K
        refine takeD (i := 20) rfl (by kernel_rfl) (by kernel_rfl) (by kernel_rfl) (fun _ _ _ h => h) hS (Or.inl ⟨by rfl, fun w hSw => by go_simp; rfl⟩) ?_
        simp only [Act.put, List.setIfInBounds_toArray, List.set_cons_zero, List.set_cons_succ]
        refine wpAnyH_ready (rs := [21]) (by kernel_rfl) (by simp) ?_
        refine consD (i := 21) rfl (fun K hK => ?_) AllReadyH.nil
        rw [if_pos (by rfl)]
        refine wp_store_mid 63 (.tmp 36) (.tmp 29) rfl g (p * 5) cy.toArray rfl rfl (by rw [List.size_toArray, HX.out.2.2.2.1]; exact OwnS.there HD.out (by have := HI.out.2.2.2.1; omega)) (by rw [List.size_toArray, HX.out.2.2.2.1]; exact infoR) HX.out.2.2.2.2.2 ?_
        simp only [Act.put, List.setIfInBounds_toArray, List.set_cons_zero, List.set_cons_succ]
        refine hK.out _ _ trivial (fun hS => ?_)
        clear hK K
        refine takeD (i := 22) rfl (by kernel_rfl) (by kernel_rfl) (by kernel_rfl) (fun _ _ _ h => h) hS (Or.inl ⟨by rfl, fun w hSw => by go_simp; rfl⟩) ?_
        simp only [Act.put, List.setIfInBounds_toArray, List.set_cons_zero, List.set_cons_succ]
        refine wpAnyH_ready (rs := [23]) (by kernel_rfl) (by simp) ?_
        refine consD (i := 23) rfl (fun K hK => ?_) AllReadyH.nil
        rw [if_pos (by rfl)]
        refine wp_store_mid 63 (.tmp 37) (.tmp 35) rfl g (q * 5) cx.toArray rfl rfl (by rw [List.size_toArray, HX.out.2.2.1, ← HX.out.2.1]; exact OwnS.there (OwnS.store rowC_len HD.out (i := p) (by have := HI.out.2.2.2.1; omega) y) (by rw [List.length_set]; have := HI.out.2.2.2.1; omega)) (by rw [List.size_toArray, HX.out.2.2.1]; exact infoR) HX.out.2.2.2.2.1 ?_
        simp only [Act.put, List.setIfInBounds_toArray, List.set_cons_zero, List.set_cons_succ]
        refine hK.out _ _ trivial (fun hS => ?_)
        clear hK K
        refine wpAnyH_done (by kernel_rfl) ?_ _
        go_wp2
        go_roundg (gk - 1)
        case measure => have := HI.out.2.2.1; omega
        case rel =>
          have hs2 := OwnS.store rowC_len (OwnS.store rowC_len HD.out (i := p) (by have := HI.out.2.2.2.1; omega) y) (i := q) (by rw [List.length_set]; have := HI.out.2.2.2.1; omega) x
          rw [HX.out.1, HX.out.2.1] at hs2
          exact ⟨t + 1, by have := HI.out.2.2.1; omega, by go_num, by rw [HI.out.2.2.2.2.2.2]; exact hs2, ((HDm.out.trans' (Mod.setCells (S := fun x => x = g) (.inl rfl) _ _ (Mod.refl _ _))).trans' (Mod.setCells (S := fun x => x = g) (.inl rfl) _ _ (Mod.refl _ _)))⟩
      · rw [if_pos (by rfl)]
        refine wp_load_mid 63 (.tmp 34) rfl g (p * 5) rfl cx _ (by rw [← HX.out.1]; exact OwnS.range rowC_len HD.out HI.out.2.2.2.2.1) Tryz.underlying63 rfl (by rw [HX.out.2.2.1]; exact infoR) ?_
        simp only [Act.put, List.setIfInBounds_toArray, List.set_cons_zero, List.set_cons_succ]
        refine hK.out _ _ trivial (fun hS => ?_)
        clear hK K
        refine wpAnyH_ready (rs := [13]) (by kernel_rfl) (by simp) ?_
        refine consD (i := 13) rfl (fun K hK => ?_) AllReadyH.nil
        rw [if_pos (by rfl)]
        refine wp_load_mid 63 (.tmp 28) rfl g (q * 5) rfl cy _ (by rw [← HX.out.2.1]; exact OwnS.range rowC_len HD.out HI.out.2.2.2.2.2.1) Tryz.underlying63 rfl (by rw [HX.out.2.2.2.1]; exact infoR) ?_
        simp only [Act.put, List.setIfInBounds_toArray, List.set_cons_zero, List.set_cons_succ]
        refine hK.out _ _ trivial (fun hS => ?_)
        clear hK K
        refine takeD (i := 20) rfl (by kernel_rfl) (by kernel_rfl) (by kernel_rfl) (fun _ _ _ h => h) hS (Or.inl ⟨by rfl, fun w hSw => by go_simp; rfl⟩) ?_
        simp only [Act.put, List.setIfInBounds_toArray, List.set_cons_zero, List.set_cons_succ]
        refine wpAnyH_ready (rs := [21]) (by kernel_rfl) (by simp) ?_
        refine consD (i := 21) rfl (fun K hK => ?_) AllReadyH.nil
        rw [if_pos (by rfl)]
        refine wp_store_mid 63 (.tmp 36) (.tmp 29) rfl g (p * 5) cy.toArray rfl rfl (by rw [List.size_toArray, HX.out.2.2.2.1]; exact OwnS.there HD.out (by have := HI.out.2.2.2.1; omega)) (by rw [List.size_toArray, HX.out.2.2.2.1]; exact infoR) HX.out.2.2.2.2.2 ?_
        simp only [Act.put, List.setIfInBounds_toArray, List.set_cons_zero, List.set_cons_succ]
        refine hK.out _ _ trivial (fun hS => ?_)
        clear hK K
        refine takeD (i := 22) rfl (by kernel_rfl) (by kernel_rfl) (by kernel_rfl) (fun _ _ _ h => h) hS (Or.inl ⟨by rfl, fun w hSw => by go_simp; rfl⟩) ?_
        simp only [Act.put, List.setIfInBounds_toArray, List.set_cons_zero, List.set_cons_succ]
        refine wpAnyH_ready (rs := [23]) (by kernel_rfl) (by simp) ?_
        refine consD (i := 23) rfl (fun K hK => ?_) AllReadyH.nil
        rw [if_pos (by rfl)]
        refine wp_store_mid 63 (.tmp 37) (.tmp 35) rfl g (q * 5) cx.toArray rfl rfl (by rw [List.size_toArray, HX.out.2.2.1, ← HX.out.2.1]; exact OwnS.there (OwnS.store rowC_len HD.out (i := p) (by have := HI.out.2.2.2.1; omega) y) (by rw [List.length_set]; have := HI.out.2.2.2.1; omega)) (by rw [List.size_toArray, HX.out.2.2.1]; exact infoR) HX.out.2.2.2.2.1 ?_
        simp only [Act.put, List.setIfInBounds_toArray, List.set_cons_zero, List.set_cons_succ]
        refine hK.out _ _ trivial (fun hS => ?_)
        clear hK K
        refine wpAnyH_done (by kernel_rfl) ?_ _
        go_wp2
        go_roundg (gk - 1)
        case measure => have := HI.out.2.2.1; omega
        case rel =>
          have hs2 := OwnS.store rowC_len (OwnS.store rowC_len HD.out (i := p) (by have := HI.out.2.2.2.1; omega) y) (i := q) (by rw [List.length_set]; have := HI.out.2.2.2.1; omega) x
          rw [HX.out.1, HX.out.2.1] at hs2
          exact ⟨t + 1, by have := HI.out.2.2.1; omega, by go_num, by rw [HI.out.2.2.2.2.2.2]; exact hs2, ((HDm.out.trans' (Mod.setCells (S := fun x => x = g) (.inl rfl) _ _ (Mod.refl _ _))).trans' (Mod.setCells (S := fun x => x = g) (.inl rfl) _ _ (Mod.refl _ _)))⟩
end Go.Proofs.YtojjnfhgldjgbaaGreatDoor.Watch
end
