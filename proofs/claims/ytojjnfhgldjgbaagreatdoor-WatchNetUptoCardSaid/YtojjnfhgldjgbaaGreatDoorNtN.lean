/- WatchNet, where what came in is of bulk at most 1048576: what leads from some tuples to others does so in a store, and n: part 14 of 32: what it leans on. -/
import Derived.Deep.DeepCutAuto
import Derived.Test.YtojjnfhgldjgbaaGreatDoorNtA
import Derived.Test.YtojjnfhgldjgbaaGreatDoorNtB
import Derived.Test.YtojjnfhgldjgbaaGreatDoorNtC
import Derived.Test.YtojjnfhgldjgbaaGreatDoorNtD
import Derived.Test.YtojjnfhgldjgbaaGreatDoorNtE
import Derived.Test.YtojjnfhgldjgbaaGreatDoorNtL
import Derived.Test.YtojjnfhgldjgbaaGreatDoorNtM
section
set_option linter.unusedVariables false
set_option linter.unusedSimpArgs false
namespace Go.Proofs.YtojjnfhgldjgbaaGreatDoor.Watch
open Go.RowKit Go.Por Go.Sort

set_option maxRecDepth 100000 in
set_option maxHeartbeats 1600000 in
theorem symOneR_chg {w : World} {g cap L : Nat} {P X S : List Chg} {y : Chg} (h : OwnS chgC 5 w 83 (.slice (some ⟨g, 0, none⟩) L cap) (P ++ (X ++ (y :: S)))) (hl : L < 4611686018427387904) (hL : L = P.length + X.length + 1 + S.length) (hX : 2 ≤ X.length) (hs : Stab.Sorted (ltOf ccmp) X) (a m b : Nat) (ha : a = P.length) (hm : m = P.length + X.length) (hb : b = P.length + X.length + 1) :
    Calls Tryz.prog 108 #[.slice (some ⟨g, 0, none⟩) L cap, .int .i64 (a : Int), .int .i64 (m : Int), .int .i64 (b : Int), .func (.func 40) #[] #[]] w fun e w' =>
      e = .returned (.tuple #[]) ∧ ∃ Z : List Chg, Stab.Sorted (ltOf ccmp) Z ∧ Stab.Stab (ltOf ccmp) (X ++ [y]) Z ∧ OwnS chgC 5 w' 83 (.slice (some ⟨g, 0, none⟩) L cap) (P ++ (Z ++ S)) ∧ Mod (fun x => x = g) w w' := by
  have q : ((m : Int) - (a : Int) == (1 : Int)) = false := by rw [beq_eq_false_iff_ne]; omega
  have q2 : ((b : Int) - (m : Int) == (1 : Int)) = true := by rw [beq_iff_eq]; omega
  have hm1 : (m : Int) < 4611686018427387904 := by omega
  have ha1 : (a : Int) < 4611686018427387904 := by omega
  have hb1 : (b : Int) < 4611686018427387904 := by omega
  have hmL : (m : Int) < (L : Int) := by omega
  have HH := Lib.hid (And.intro h (And.intro hL (And.intro ha (And.intro hm (And.intro hb (And.intro hX hs))))))
  clear h hL ha hm hb hX hs
  go_enter Tryz.func108, Tryz.ntmps108
  go_wp2
  go_loopg [14, 15] X.length (fun gg vi vj wx => ∃ i j : Nat, vi = .int .i64 ((P.length + i : Nat) : Int) ∧ vj = .int .i64 ((P.length + j : Nat) : Int) ∧ i ≤ j ∧ j ≤ X.length ∧ j - i ≤ gg ∧ (∀ t x, t < i → X[t]? = some x → ltOf ccmp y x = false) ∧ (∀ t x, j ≤ t → X[t]? = some x → ltOf ccmp y x = true) ∧ Gr w wx)
  case atStart => exact ⟨0, X.length, by rw [HH.out.2.2.1]; rfl, by rw [HH.out.2.2.2.1], Nat.zero_le _, Nat.le_refl _, Nat.le_refl _, fun t y h => by omega, fun t y h hy => by have := (List.getElem?_eq_some_iff.1 hy).1; omega, Gr.refl w⟩
  case round =>
    obtain ⟨i, j, rfl, rfl, hij, hjX, hjg, hlo, hhi, hgr⟩ := hrel
    have HI := Lib.hid (And.intro hij (And.intro hjX (And.intro hjg (And.intro hlo (And.intro hhi hgr)))))
    by_cases hc : i < j
    · obtain ⟨k, hk⟩ : ∃ k, (i + j) / 2 = k := ⟨_, rfl⟩
      have hki : i ≤ k := by omega
      have hkj : k < j := by omega
      obtain ⟨u, hu⟩ : ∃ u, P.length + i = u := ⟨_, rfl⟩
      obtain ⟨v, hv⟩ : ∃ v, P.length + j = v := ⟨_, rfl⟩
      obtain ⟨h, hh⟩ : ∃ h, P.length + k = h := ⟨_, rfl⟩
      have huv : (u : Int) < (v : Int) := by omega
      have hLL := HH.out.2.1
      have hv1 : v ≤ L := by omega
      have u1 : (u : Int) < 4611686018427387904 := by omega
      have v1 : (v : Int) < 4611686018427387904 := by omega
      have hd : ((u : Int) + (v : Int)) / 2 = (h : Int) := by omega
      have h0 : (0 : Int) ≤ (h : Int) := by omega
      have h1 : (h : Int) < (L : Int) := by omega
      obtain ⟨x, hx⟩ : ∃ x, X[k]? = some x := ⟨_, List.getElem?_eq_getElem (by omega)⟩
      have hxL : (P ++ (X ++ (y :: S)))[h]? = some x := by
        rw [List.getElem?_append_right (by omega), show h - P.length = k by omega, List.getElem?_append_left (by omega), hx]
      have hyL : (P ++ (X ++ (y :: S)))[m]? = some y := by
        rw [HH.out.2.2.2.1, List.getElem?_append_right (by omega), Nat.add_sub_cancel_left, List.getElem?_append_right (Nat.le_refl _), Nat.sub_self]
        rfl
      rw [hu, hv]
      obtain ⟨cx, hcx⟩ : ∃ cx, chgC x = cx := ⟨_, rfl⟩
      obtain ⟨cy, hcy⟩ : ∃ cy, chgC y = cy := ⟨_, rfl⟩
      have ho := fun w => chg_order y x w
      obtain ⟨n, hn⟩ : ∃ n, ccmp y x = n := ⟨_, rfl⟩
      have HN := Lib.hid hn
      rw [hcx, hcy, hn] at ho
      clear hn
      have HO := Lib.hid ho
      have HC := Lib.hid (And.intro hki (And.intro hkj (And.intro hu (And.intro hv (And.intro hh (And.intro hk (And.intro hx (And.intro hxL (And.intro hyL (And.intro hcx hcy))))))))))
      have HD := Lib.hid (show OwnS chgC 5 wr.drew 83 (.slice (some ⟨g, 0, none⟩) L cap) (P ++ (X ++ (y :: S))) from OwnS.gr HH.out.1 hgr.drew)
      clear hki hkj hu hv hh hk hij hjX hjg hlo hhi hgr hc hLL hv1 hx hyL hxL hcx hcy ho
      go_wp2_with fail
      clear hd
      refine wp_region_held_drew (S := fun w' => Gr wr.drew w') (by kernel_rfl) (Gr.refl _) (fun hS => ?_)
      refine takeD (i := 0) rfl (by kernel_rfl) (by kernel_rfl) (by kernel_rfl) (fun _ _ _ h => h) hS (Or.inl ⟨by rfl, fun w hSw => by go_simp; rfl⟩) ?_
      simp only [Act.put, List.setIfInBounds_toArray, List.set_cons_zero, List.set_cons_succ]
      refine takeD (i := 1) rfl (by kernel_rfl) (by kernel_rfl) (by kernel_rfl) (fun _ _ _ h => h) hS (Or.inl ⟨by rfl, fun w hSw => by go_simp; rfl⟩) ?_
      simp only [Act.put, List.setIfInBounds_toArray, List.set_cons_zero, List.set_cons_succ]
      refine takeD (i := 2) rfl (by kernel_rfl) (by kernel_rfl) (by kernel_rfl) (fun _ _ _ h => h) hS (Or.inl ⟨by rfl, fun w hSw => by go_simp; rfl⟩) ?_
      simp only [Act.put, List.setIfInBounds_toArray, List.set_cons_zero, List.set_cons_succ]
      refine takeD (i := 3) rfl (by kernel_rfl) (by kernel_rfl) (by kernel_rfl) (fun _ _ _ h => h) hS (Or.inl ⟨by rfl, fun w hSw => by go_simp; rfl⟩) ?_
      simp only [Act.put, List.setIfInBounds_toArray, List.set_cons_zero, List.set_cons_succ]
      refine takeD (i := 4) rfl (by kernel_rfl) (by kernel_rfl) (by kernel_rfl) (fun _ _ _ h => h) hS (yieldsIf_load_mid (by rfl) 83 (.tmp 95) rfl g (m * 5) rfl cy _ (fun w hSw => by rw [← HC.out.2.2.2.2.2.2.2.2.2.2]; exact OwnS.range chgC_len (OwnS.gr HD.out hSw) HC.out.2.2.2.2.2.2.2.2.1) Tryz.underlying83 rfl (by rw [← HC.out.2.2.2.2.2.2.2.2.2.2]; exact infoC)) ?_
      simp only [Act.put, List.setIfInBounds_toArray, List.set_cons_zero, List.set_cons_succ]
      refine takeD (i := 5) rfl (by kernel_rfl) (by kernel_rfl) (by kernel_rfl) (fun _ _ _ h => h) hS (Or.inl ⟨by rfl, fun w hSw => by go_simp; rfl⟩) ?_
      simp only [Act.put, List.setIfInBounds_toArray, List.set_cons_zero, List.set_cons_succ]
      refine takeD (i := 6) rfl (by kernel_rfl) (by kernel_rfl) (by kernel_rfl) (fun _ _ _ h => h) hS (Or.inl ⟨by rfl, fun w hSw => by go_simp; rfl⟩) ?_
      simp only [Act.put, List.setIfInBounds_toArray, List.set_cons_zero, List.set_cons_succ]
      refine takeD (i := 7) rfl (by kernel_rfl) (by kernel_rfl) (by kernel_rfl) (fun _ _ _ h => h) hS (Or.inl ⟨by rfl, fun w hSw => by go_simp; rfl⟩) ?_
      simp only [Act.put, List.setIfInBounds_toArray, List.set_cons_zero, List.set_cons_succ]
      refine takeD (i := 8) rfl (by kernel_rfl) (by kernel_rfl) (by kernel_rfl) (fun _ _ _ h => h) hS (yieldsIf_load_mid (by rfl) 83 (.tmp 99) rfl g (h * 5) rfl cx _ (fun w hSw => by rw [← HC.out.2.2.2.2.2.2.2.2.2.1]; exact OwnS.range chgC_len (OwnS.gr HD.out hSw) HC.out.2.2.2.2.2.2.2.1) Tryz.underlying83 rfl (by rw [← HC.out.2.2.2.2.2.2.2.2.2.1]; exact infoC)) ?_
      simp only [Act.put, List.setIfInBounds_toArray, List.set_cons_zero, List.set_cons_succ]
      refine wpAnyH_ready (rs := [9]) (by kernel_rfl) (by simp) ?_
      refine consD (i := 9) rfl (fun K hK => ?_) AllReadyH.nil
      rw [if_pos (by rfl)]
      go_simp
      ((with_reducible refine (HO.out _).mono ?_); rintro e w2 ⟨rfl, hg2⟩)
      dsimp only
      refine hK.out _ _ (hS.trans hg2) (fun hS => ?_)
      clear hK K
      refine takeD (i := 10) rfl (by kernel_rfl) (by kernel_rfl) (by kernel_rfl) (fun _ _ _ h => h) hS (Or.inl ⟨by rfl, fun w hSw => by go_simp; rfl⟩) ?_
      simp only [Act.put, List.setIfInBounds_toArray, List.set_cons_zero, List.set_cons_succ]
      refine takeD (i := 11) rfl (by kernel_rfl) (by kernel_rfl) (by kernel_rfl) (fun _ _ _ h => h) hS (Or.inl ⟨by rfl, fun w hSw => by go_simp; rfl⟩) ?_
      simp only [Act.put, List.setIfInBounds_toArray, List.set_cons_zero, List.set_cons_succ]
      refine wpAnyH_done (by kernel_rfl) ?_ _
      by_cases hq : n < 0
      · have hlt : ltOf ccmp y x = true := by rw [← HN.out] at hq; simp [ltOf, hq]
        have HQ := Lib.hid (And.intro hlt hS)
        have hdec : decide (n < 0) = true := by simp [hq]
        rw [hdec]
        clear hlt hg2 hS hdec hq
        simp only [Bool.not_true]
        go_wp2
        go_roundg (k - i)
        case measure => have h1 := HI.out; have h2 := HC.out; omega
        case rel =>
          obtain ⟨i1, i2, i3, i4, i5, i6⟩ := HI.out
          obtain ⟨c1, c2, c3, c4, c5, c6, c7, _⟩ := HC.out
          refine ⟨i, k, ?_, ?_, by omega, by omega, Nat.le_refl _, i4, fun t z ht hz => ?_, (i6.drew).trans HQ.out.2⟩
          · congr 1; omega
          · congr 1; omega
          · exact Stab.Sorted.above chgSwo HH.out.2.2.2.2.2.2 c7 HQ.out.1 hz (by omega)
      · have hlt : ltOf ccmp y x = false := by rw [← HN.out] at hq; simp [ltOf, hq]
        have HQ := Lib.hid (And.intro hlt hS)
        have hdec : decide (n < 0) = false := by simp [hq]
        rw [hdec]
        clear hlt hg2 hS hdec hq
        simp only [Bool.not_false]
        go_wp2
        go_roundg (j - (k + 1))
        case measure => have h1 := HI.out; have h2 := HC.out; omega
        case rel =>
          obtain ⟨i1, i2, i3, i4, i5, i6⟩ := HI.out
          obtain ⟨c1, c2, c3, c4, c5, c6, c7, _⟩ := HC.out
          refine ⟨k + 1, j, ?_, ?_, by omega, i2, Nat.le_refl _, fun t z ht hz => ?_, i5, (i6.drew).trans HQ.out.2⟩
          · congr 1; omega
          · congr 1; omega
          · exact Stab.Sorted.beneath chgSwo HH.out.2.2.2.2.2.2 c7 HQ.out.1 hz (by omega)
    · obtain rfl : i = j := by omega
      obtain ⟨u, hu⟩ : ∃ u, P.length + i = u := ⟨_, rfl⟩
      have HU := Lib.hid hu
      rw [hu]
      have huu : ¬ (u : Int) < (u : Int) := by omega
      have hLL := HH.out.2.1
      have hu1 : (u : Int) < 4611686018427387904 := by omega
      clear hij hjX hjg hlo hhi hgr hc hLL hu
      go_wp2
      go_loopg [17] X.length (fun gg vk wx => ∃ t : Nat, vk = .int .i64 ((P.length + t : Nat) : Int) ∧ i ≤ t ∧ t ≤ X.length ∧ t - i ≤ gg ∧ OwnS chgC 5 wx 83 (.slice (some ⟨g, 0, none⟩) L cap) (P ++ (X.take t ++ (y :: (X.drop t ++ S)))) ∧ Mod (fun x => x = g) w wx)
      case atStart => exact ⟨X.length, by rw [HH.out.2.2.2.1], HI.out.2.1, Nat.le_refl _, by omega, by have := OwnS.gr HH.out.1 HI.out.2.2.2.2.2; simpa using this, HI.out.2.2.2.2.2.mod⟩
      case round =>
        obtain ⟨t', rfl, hti, htX, htg, hown, hmod⟩ := hrel
        by_cases hc : i < t'
        · obtain ⟨t, rfl⟩ : ∃ t, t' = t + 1 := ⟨t' - 1, by omega⟩
          have HT := Lib.hid (And.intro hti (And.intro htX (And.intro htg (And.intro hown hmod))))
          obtain ⟨p, hp⟩ : ∃ p, P.length + t + 1 = p := ⟨_, rfl⟩
          obtain ⟨q, hq⟩ : ∃ q, P.length + t = q := ⟨_, rfl⟩
          have hLL := HH.out.2.1
          have hUU := HU.out
          have k1 : (u : Int) < (p : Int) := by omega
          have k2 : (p : Int) - 1 = (q : Int) := by omega
          have k3 : (p : Int) < (L : Int) := by omega
          have k4 : (q : Int) < (L : Int) := by omega
          have k5 : (p : Int) < 4611686018427387904 := by omega
          have k6 : IntKind.i64.wrap (p : Int) = (p : Int) := by simp [IntKind.wrap, IntKind.bits, IntKind.signed]; omega
          have k7 : IntKind.i64.wrap (q : Int) = (q : Int) := by simp [IntKind.wrap, IntKind.bits, IntKind.signed]; omega
          have k8 : (0 : Int) ≤ (p : Int) := by omega
          have k9 : (0 : Int) ≤ (q : Int) := by omega
          obtain ⟨x, hx⟩ : ∃ x, X[t]? = some x := ⟨_, List.getElem?_eq_getElem (by omega)⟩
          have hsh := shift_left P X S x y t hx
          rw [hp, hq] at hsh
          rw [show P.length + (t + 1) = p by omega]
          obtain ⟨l1, hl1⟩ : ∃ l1, P ++ (X.take (t + 1) ++ (y :: (X.drop (t + 1) ++ S))) = l1 := ⟨_, rfl⟩
          rw [hl1] at hsh hown
          obtain ⟨cx, hcx⟩ : ∃ cx, chgC y = cx := ⟨_, rfl⟩
          obtain ⟨cy, hcy⟩ : ∃ cy, chgC x = cy := ⟨_, rfl⟩
          have hx5 : cx.length = 5 := by rw [← hcx]; rfl
          have hy5 : cy.length = 5 := by rw [← hcy]; rfl
          have hx1 : cx.toArray.all (·.oneCell') = true := by rw [← hcx]; exact chgC_one y
          have hy1 : cy.toArray.all (·.oneCell') = true := by rw [← hcy]; exact chgC_one x
          have HX := Lib.hid (And.intro hcx (And.intro hcy (And.intro hx5 (And.intro hy5 (And.intro hx1 hy1)))))
          clear hcx hcy hx5 hy5 hx1 hy1
          have HL := Lib.hid (And.intro hsh.1 (And.intro hsh.2.1 (And.intro (List.getElem?_eq_some_iff.1 hsh.1).1 (List.getElem?_eq_some_iff.1 hsh.2.1).1)))
          have HR := Lib.hid (And.intro hsh.2.2 (And.intro hp (And.intro hq hc)))
          have HD := Lib.hid (show OwnS chgC 5 wr.drew 83 (.slice (some ⟨g, 0, none⟩) L cap) l1 from hown)
          have HDm := Lib.hid (show Mod (fun x => x = g) w wr.drew from hmod.drew)
          clear hti htX htg hown hmod hc hp hq hLL hUU hx hsh hl1
          go_wp2_with fail
          refine wp_region_held_drew (S := fun _ => True) (by kernel_rfl) trivial (fun hS => ?_)
          refine takeD (i := 0) rfl (by kernel_rfl) (by kernel_rfl) (by kernel_rfl) (fun _ _ _ h => h) hS (Or.inl ⟨by rfl, fun w hSw => by go_simp; rfl⟩) ?_
          simp only [Act.put, List.setIfInBounds_toArray, List.set_cons_zero, List.set_cons_succ]
          refine takeD (i := 1) rfl (by kernel_rfl) (by kernel_rfl) (by kernel_rfl) (fun _ _ _ h => h) hS (Or.inl ⟨by rfl, fun w hSw => by go_simp; rfl⟩) ?_
          simp only [Act.put, List.setIfInBounds_toArray, List.set_cons_zero, List.set_cons_succ]
          refine takeD (i := 2) rfl (by kernel_rfl) (by kernel_rfl) (by kernel_rfl) (fun _ _ _ h => h) hS (Or.inl ⟨by rfl, fun w hSw => by go_simp; rfl⟩) ?_
          simp only [Act.put, List.setIfInBounds_toArray, List.set_cons_zero, List.set_cons_succ]
          refine takeD (i := 3) rfl (by kernel_rfl) (by kernel_rfl) (by kernel_rfl) (fun _ _ _ h => h) hS (Or.inl ⟨by rfl, fun w hSw => by go_simp; rfl⟩) ?_
          simp only [Act.put, List.setIfInBounds_toArray, List.set_cons_zero, List.set_cons_succ]
          refine takeD (i := 4) rfl (by kernel_rfl) (by kernel_rfl) (by kernel_rfl) (fun _ _ _ h => h) hS (Or.inl ⟨by rfl, fun w hSw => by go_simp; rfl⟩) ?_
          simp only [Act.put, List.setIfInBounds_toArray, List.set_cons_zero, List.set_cons_succ]
          refine takeD (i := 5) rfl (by kernel_rfl) (by kernel_rfl) (by kernel_rfl) (fun _ _ _ h => h) hS (Or.inl ⟨by rfl, fun w hSw => by go_simp; rfl⟩) ?_
          simp only [Act.put, List.setIfInBounds_toArray, List.set_cons_zero, List.set_cons_succ]
          refine takeD (i := 6) rfl (by kernel_rfl) (by kernel_rfl) (by kernel_rfl) (fun _ _ _ h => h) hS (Or.inl ⟨by rfl, fun w hSw => by go_simp; rfl⟩) ?_
          simp only [Act.put, List.setIfInBounds_toArray, List.set_cons_zero, List.set_cons_succ]
          refine takeD (i := 7) rfl (by kernel_rfl) (by kernel_rfl) (by kernel_rfl) (fun _ _ _ h => h) hS (Or.inl ⟨by rfl, fun w hSw => by go_simp; rfl⟩) ?_
          simp only [Act.put, List.setIfInBounds_toArray, List.set_cons_zero, List.set_cons_succ]
          refine takeD (i := 8) rfl (by kernel_rfl) (by kernel_rfl) (by kernel_rfl) (fun _ _ _ h => h) hS (Or.inl ⟨by rfl, fun w hSw => by go_simp; rfl⟩) ?_
          simp only [Act.put, List.setIfInBounds_toArray, List.set_cons_zero, List.set_cons_succ]
          refine takeD (i := 10) rfl (by kernel_rfl) (by kernel_rfl) (by kernel_rfl) (fun _ _ _ h => h) hS (Or.inl ⟨by rfl, fun w hSw => by go_simp; rfl⟩) ?_
          simp only [Act.put, List.setIfInBounds_toArray, List.set_cons_zero, List.set_cons_succ]
          refine takeD (i := 11) rfl (by kernel_rfl) (by kernel_rfl) (by kernel_rfl) (fun _ _ _ h => h) hS (Or.inl ⟨by rfl, fun w hSw => by go_simp; rfl⟩) ?_
          simp only [Act.put, List.setIfInBounds_toArray, List.set_cons_zero, List.set_cons_succ]
          refine takeD (i := 12) rfl (by kernel_rfl) (by kernel_rfl) (by kernel_rfl) (fun _ _ _ h => h) hS (Or.inl ⟨by rfl, fun w hSw => by go_simp; rfl⟩) ?_
          simp only [Act.put, List.setIfInBounds_toArray, List.set_cons_zero, List.set_cons_succ]
          refine wpAnyH_ready (rs := [9, 13]) (by kernel_rfl) (by simp) ?_
          refine consD (i := 9) rfl (fun K hK => ?_) (consD (i := 13) rfl (fun K hK => ?_) AllReadyH.nil)
          · rw [if_pos (by rfl)]
            refine wp_load_mid 83 (.tmp 121) rfl g (q * 5) rfl cy _ (by rw [← HX.out.2.1]; exact OwnS.range chgC_len HD.out HL.out.2.1) Tryz.underlying83 rfl (by rw [HX.out.2.2.2.1]; exact infoC) ?_
            simp only [Act.put, List.setIfInBounds_toArray, List.set_cons_zero, List.set_cons_succ]
            refine hK.out _ _ trivial (fun hS => ?_)
            clear hK K
            refine wpAnyH_ready (rs := [13]) (by kernel_rfl) (by simp) ?_
            refine consD (i := 13) rfl (fun K hK => ?_) AllReadyH.nil
            rw [if_pos (by rfl)]
            refine wp_load_mid 83 (.tmp 125) rfl g (p * 5) rfl cx _ (by rw [← HX.out.1]; exact OwnS.range chgC_len HD.out HL.out.1) Tryz.underlying83 rfl (by rw [HX.out.2.2.1]; exact infoC) ?_
            simp only [Act.put, List.setIfInBounds_toArray, List.set_cons_zero, List.set_cons_succ]
            refine hK.out _ _ trivial (fun hS => ?_)
            clear hK K
            refine takeD (i := 14) rfl (by kernel_rfl) (by kernel_rfl) (by kernel_rfl) (fun _ _ _ h => h) hS (Or.inl ⟨by rfl, fun w hSw => by go_simp; rfl⟩) ?_
            simp only [Act.put, List.setIfInBounds_toArray, List.set_cons_zero, List.set_cons_succ]
            refine wpAnyH_ready (rs := [15]) (by kernel_rfl) (by simp) ?_
            refine consD (i := 15) rfl (fun K hK => ?_) AllReadyH.nil
            rw [if_pos (by rfl)]
            refine wp_store_mid 83 (.tmp 127) (.tmp 122) rfl g (p * 5) cy.toArray rfl rfl (by rw [List.size_toArray, HX.out.2.2.2.1]; exact OwnS.there HD.out HL.out.2.2.1) (by rw [List.size_toArray, HX.out.2.2.2.1]; exact infoC) HX.out.2.2.2.2.2 ?_
            simp only [Act.put, List.setIfInBounds_toArray, List.set_cons_zero, List.set_cons_succ]
            refine hK.out _ _ trivial (fun hS => ?_)
            clear hK K
            refine takeD (i := 16) rfl (by kernel_rfl) (by kernel_rfl) (by kernel_rfl) (fun _ _ _ h => h) hS (Or.inl ⟨by rfl, fun w hSw => by go_simp; rfl⟩) ?_
            simp only [Act.put, List.setIfInBounds_toArray, List.set_cons_zero, List.set_cons_succ]
            refine wpAnyH_ready (rs := [17]) (by kernel_rfl) (by simp) ?_
            refine consD (i := 17) rfl (fun K hK => ?_) AllReadyH.nil
            rw [if_pos (by rfl)]
            refine wp_store_mid 83 (.tmp 128) (.tmp 126) rfl g (q * 5) cx.toArray rfl rfl (by rw [List.size_toArray, HX.out.2.2.1, ← HX.out.2.1]; exact OwnS.there (OwnS.store chgC_len HD.out HL.out.2.2.1 x) (by rw [List.length_set]; exact HL.out.2.2.2)) (by rw [List.size_toArray, HX.out.2.2.1]; exact infoC) HX.out.2.2.2.2.1 ?_
            simp only [Act.put, List.setIfInBounds_toArray, List.set_cons_zero, List.set_cons_succ]
            refine hK.out _ _ trivial (fun hS => ?_)
            clear hK K
            refine wpAnyH_done (by kernel_rfl) ?_ _
            have hs2 := OwnS.store chgC_len (OwnS.store chgC_len HD.out HL.out.2.2.1 x) (i := q) (by rw [List.length_set]; exact HL.out.2.2.2) y
            rw [HX.out.1, HX.out.2.1] at hs2
            have hm2 := ((HDm.out.trans' (Mod.setCells (S := fun x => x = g) (.inl rfl) cy (p * 5) (Mod.refl _ _))).trans' (Mod.setCells (S := fun x => x = g) (.inl rfl) cx (q * 5) (Mod.refl _ _)))
            have HE := Lib.hid (And.intro hs2 hm2)
            clear hs2 hm2
            go_wp2
            go_roundg (t - i)
            case measure => have h1 := HT.out; have h2 := HR.out; omega
            case rel =>
              obtain ⟨t1, t2, t3, t4, t5⟩ := HT.out
              obtain ⟨r1, r2, r3, r4⟩ := HR.out
              refine ⟨t, ?_, by omega, by omega, Nat.le_refl _, ?_, HE.out.2⟩
              · congr 1; omega
              · rw [← r1]; exact HE.out.1
          · rw [if_pos (by rfl)]
            refine wp_load_mid 83 (.tmp 125) rfl g (p * 5) rfl cx _ (by rw [← HX.out.1]; exact OwnS.range chgC_len HD.out HL.out.1) Tryz.underlying83 rfl (by rw [HX.out.2.2.1]; exact infoC) ?_
            simp only [Act.put, List.setIfInBounds_toArray, List.set_cons_zero, List.set_cons_succ]
            refine hK.out _ _ trivial (fun hS => ?_)
            clear hK K
            refine wpAnyH_ready (rs := [9]) (by kernel_rfl) (by simp) ?_
            refine consD (i := 9) rfl (fun K hK => ?_) AllReadyH.nil
            rw [if_pos (by rfl)]
            refine wp_load_mid 83 (.tmp 121) rfl g (q * 5) rfl cy _ (by rw [← HX.out.2.1]; exact OwnS.range chgC_len HD.out HL.out.2.1) Tryz.underlying83 rfl (by rw [HX.out.2.2.2.1]; exact infoC) ?_
            simp only [Act.put, List.setIfInBounds_toArray, List.set_cons_zero, List.set_cons_succ]
            refine hK.out _ _ trivial (fun hS => ?_)
            clear hK K
            refine takeD (i := 14) rfl (by kernel_rfl) (by kernel_rfl) (by kernel_rfl) (fun _ _ _ h => h) hS (Or.inl ⟨by rfl, fun w hSw => by go_simp; rfl⟩) ?_
            simp only [Act.put, List.setIfInBounds_toArray, List.set_cons_zero, List.set_cons_succ]
            refine wpAnyH_ready (rs := [15]) (by kernel_rfl) (by simp) ?_
            refine consD (i := 15) rfl (fun K hK => ?_) AllReadyH.nil
            rw [if_pos (by rfl)]
            refine wp_store_mid 83 (.tmp 127) (.tmp 122) rfl g (p * 5) cy.toArray rfl rfl (by rw [List.size_toArray, HX.out.2.2.2.1]; exact OwnS.there HD.out HL.out.2.2.1) (by rw [List.size_toArray, HX.out.2.2.2.1]; exact infoC) HX.out.2.2.2.2.2 ?_
            simp only [Act.put, List.setIfInBounds_toArray, List.set_cons_zero, List.set_cons_succ]
            refine hK.out _ _ trivial (fun hS => ?_)
            clear hK K
            refine takeD (i := 16) rfl (by kernel_rfl) (by kernel_rfl) (by kernel_rfl) (fun _ _ _ h => h) hS (Or.inl ⟨by rfl, fun w hSw => by go_simp; rfl⟩) ?_
            simp only [Act.put, List.setIfInBounds_toArray, List.set_cons_zero, List.set_cons_succ]
            refine wpAnyH_ready (rs := [17]) (by kernel_rfl) (by simp) ?_
            refine consD (i := 17) rfl (fun K hK => ?_) AllReadyH.nil
            rw [if_pos (by rfl)]
            refine wp_store_mid 83 (.tmp 128) (.tmp 126) rfl g (q * 5) cx.toArray rfl rfl (by rw [List.size_toArray, HX.out.2.2.1, ← HX.out.2.1]; exact OwnS.there (OwnS.store chgC_len HD.out HL.out.2.2.1 x) (by rw [List.length_set]; exact HL.out.2.2.2)) (by rw [List.size_toArray, HX.out.2.2.1]; exact infoC) HX.out.2.2.2.2.1 ?_
            simp only [Act.put, List.setIfInBounds_toArray, List.set_cons_zero, List.set_cons_succ]
            refine hK.out _ _ trivial (fun hS => ?_)
            clear hK K
            refine wpAnyH_done (by kernel_rfl) ?_ _
            have hs2 := OwnS.store chgC_len (OwnS.store chgC_len HD.out HL.out.2.2.1 x) (i := q) (by rw [List.length_set]; exact HL.out.2.2.2) y
            rw [HX.out.1, HX.out.2.1] at hs2
            have hm2 := ((HDm.out.trans' (Mod.setCells (S := fun x => x = g) (.inl rfl) cy (p * 5) (Mod.refl _ _))).trans' (Mod.setCells (S := fun x => x = g) (.inl rfl) cx (q * 5) (Mod.refl _ _)))
            have HE := Lib.hid (And.intro hs2 hm2)
            clear hs2 hm2
            go_wp2
            go_roundg (t - i)
            case measure => have h1 := HT.out; have h2 := HR.out; omega
            case rel =>
              obtain ⟨t1, t2, t3, t4, t5⟩ := HT.out
              obtain ⟨r1, r2, r3, r4⟩ := HR.out
              refine ⟨t, ?_, by omega, by omega, Nat.le_refl _, ?_, HE.out.2⟩
              · congr 1; omega
              · rw [← r1]; exact HE.out.1
        · have hUU := HU.out
          have HT := Lib.hid (And.intro hti (And.intro htX (And.intro htg (And.intro hown hmod))))
          obtain ⟨p, hp⟩ : ∃ p, P.length + t' = p := ⟨_, rfl⟩
          rw [hp]
          have k1 : ¬ (u : Int) < (p : Int) := by omega
          have HC := Lib.hid hc
          clear hti htX htg hown hmod hUU hp hc
          go_wp2
          (try simp only [Exit.inBlock, Exit.then])
          refine bodyPost_ret (results_none rfl _ _ _) rfl ?_
          obtain ⟨t1, t2, t3, t4, t5⟩ := HT.out
          have hcc := HC.out
          obtain rfl : t' = i := by omega
          have hz := Stab.one_right chgSwo HH.out.2.2.2.2.2.2 HI.out.2.1 HI.out.2.2.2.1 HI.out.2.2.2.2.1
          refine ⟨rfl, _, hz.1, hz.2, ?_, t5⟩
          simpa using t4
end Go.Proofs.YtojjnfhgldjgbaaGreatDoor.Watch
end
section
set_option linter.unusedVariables false
set_option linter.unusedSimpArgs false
namespace Go.Proofs.YtojjnfhgldjgbaaGreatDoor.Watch
open Go.RowKit Go.Por Go.Sort

set_option maxRecDepth 100000 in
set_option maxHeartbeats 3200000 in
theorem symGen_chg {w : World} {g cap L : Nat} {P X Y S : List Chg} (h : OwnS chgC 5 w 83 (.slice (some ⟨g, 0, none⟩) L cap) (P ++ (X ++ (Y ++ S)))) (hl : L < 2305843009213693952) (hL : L = P.length + X.length + Y.length + S.length) (hX : 2 ≤ X.length) (hY : 2 ≤ Y.length) (hsX : Stab.Sorted (ltOf ccmp) X) (hsY : Stab.Sorted (ltOf ccmp) Y) (a m b : Nat) (ha : a = P.length) (hm : m = P.length + X.length) (hb : b = P.length + X.length + Y.length)
    (IH : ∀ (w : World) (P X1 Y1 S : List Chg) (a m b : Nat), X1.length + Y1.length < X.length + Y.length → OwnS chgC 5 w 83 (.slice (some ⟨g, 0, none⟩) L cap) (P ++ (X1 ++ (Y1 ++ S))) → L = P.length + X1.length + Y1.length + S.length → 1 ≤ X1.length → 1 ≤ Y1.length → Stab.Sorted (ltOf ccmp) X1 → Stab.Sorted (ltOf ccmp) Y1 → a = P.length → m = P.length + X1.length → b = P.length + X1.length + Y1.length →
      Calls Tryz.prog 108 #[.slice (some ⟨g, 0, none⟩) L cap, .int .i64 (a : Int), .int .i64 (m : Int), .int .i64 (b : Int), .func (.func 40) #[] #[]] w fun e w' =>
        e = .returned (.tuple #[]) ∧ ∃ Z : List Chg, Stab.Sorted (ltOf ccmp) Z ∧ Stab.Stab (ltOf ccmp) (X1 ++ Y1) Z ∧ OwnS chgC 5 w' 83 (.slice (some ⟨g, 0, none⟩) L cap) (P ++ (Z ++ S)) ∧ Mod (fun x => x = g) w w')
    (M s0 r0 : Nat) (hM : M = (a + b) / 2) (hk : (M < m ∧ s0 + b = M + m ∧ r0 = M) ∨ (m ≤ M ∧ s0 = a ∧ r0 = m)) :
    Calls Tryz.prog 108 #[.slice (some ⟨g, 0, none⟩) L cap, .int .i64 (a : Int), .int .i64 (m : Int), .int .i64 (b : Int), .func (.func 40) #[] #[]] w fun e w' =>
      e = .returned (.tuple #[]) ∧ ∃ Z : List Chg, Stab.Sorted (ltOf ccmp) Z ∧ Stab.Stab (ltOf ccmp) (X ++ Y) Z ∧ OwnS chgC 5 w' 83 (.slice (some ⟨g, 0, none⟩) L cap) (P ++ (Z ++ S)) ∧ Mod (fun x => x = g) w w' := by
  have q : ((m : Int) - (a : Int) == (1 : Int)) = false := by rw [beq_eq_false_iff_ne]; omega
  have q2 : ((b : Int) - (m : Int) == (1 : Int)) = false := by rw [beq_eq_false_iff_ne]; omega
  have hm1 : (m : Int) < 2305843009213693952 := by omega
  have ha1 : (a : Int) < 2305843009213693952 := by omega
  have hb1 : (b : Int) < 2305843009213693952 := by omega
  have hM1 : (M : Int) < 2305843009213693952 := by omega
  have hd : ((a : Int) + (b : Int)) / 2 = (M : Int) := by omega
  have hn : (M : Int) + (m : Int) = ((M + m : Nat) : Int) := by omega
  obtain ⟨N, hN⟩ : ∃ N, M + m = N := ⟨_, rfl⟩
  rw [hN] at hn
  have hN1 : (N : Int) < 4611686018427387904 := by omega
  have hS0 : (N : Int) - (b : Int) = (s0 : Int) ∨ m ≤ M := by omega
  have HH := Lib.hid (And.intro h (And.intro hL (And.intro ha (And.intro hm (And.intro hb (And.intro hX (And.intro hY (And.intro hsX (And.intro hsY (And.intro hM hN))))))))))
  have HIH := Lib.hid IH
  clear h hL ha hm hb hX hY hsX hsY hM IH
  go_enter Tryz.func108, Tryz.ntmps108
  have HW := Lib.hid hk
  clear hk hN
  go_upto_if 140 with fail
  go_cut [20, 21] (fun vs vr wx => vs = .int .i64 (s0 : Int) ∧ vr = .int .i64 (r0 : Int) ∧ w = wx)
  case first =>
    rcases HW.out with ⟨hk1, hk2, hk3⟩ | ⟨hk1, hk2, hk3⟩
    · have kk : (M : Int) < (m : Int) := by omega
      have hS0' : (N : Int) - (b : Int) = (s0 : Int) := by have := HH.out; omega
      subst hk3
      have hdec : decide (r0 < m) = true := decide_eq_true (by omega)
      rw [hdec]
      clear hS0 hk1 hk2 hdec kk
      go_wp2
      go_meet
      case rel => exact ⟨rfl, rfl, rfl⟩
    · have kk : ¬ (M : Int) < (m : Int) := by omega
      subst hk2 hk3
      have hdec : decide (M < r0) = false := decide_eq_false (by omega)
      rw [hdec]
      clear hS0 hk1 hdec kk
      go_wp2
      go_meet
      case rel => exact ⟨rfl, rfl, rfl⟩
  case rest =>
    obtain ⟨rfl, rfl, rfl⟩ := hcut
    clear hS0
    go_wp2_with fail
    go_loopg [20, 21] r0 (fun gg vi vj wx => ∃ s r : Nat, vi = .int .i64 (s : Int) ∧ vj = .int .i64 (r : Int) ∧ s0 ≤ s ∧ s ≤ r ∧ r ≤ r0 ∧ r - s ≤ gg ∧ (s = s0 ∨ ∃ x y, a + 1 ≤ s ∧ X[s - a - 1]? = some x ∧ Y[M - s]? = some y ∧ ltOf ccmp y x = false) ∧ (r = r0 ∨ ∃ x y, r + 1 ≤ M ∧ X[r - a]? = some x ∧ Y[M - r - 1]? = some y ∧ ltOf ccmp y x = true) ∧ Gr w wx)
    case atStart => exact ⟨s0, r0, by first | rfl | (congr 1; have := HW.out; omega), by first | rfl | (congr 1; have := HW.out; omega), Nat.le_refl _, by have := HW.out; have := HH.out; omega, Nat.le_refl _, by omega, .inl rfl, .inl rfl, Gr.refl w⟩
    case round =>
      obtain ⟨s, r, rfl, rfl, hs0, hsr, hr0, hrg, hlo, hup, hgr⟩ := hrel
      have HI := Lib.hid (And.intro hs0 (And.intro hsr (And.intro hr0 (And.intro hrg (And.intro hlo (And.intro hup hgr))))))
      by_cases hc : s < r
      · obtain ⟨k, hkk⟩ : ∃ k, (s + r) / 2 = k := ⟨_, rfl⟩
        obtain ⟨hh1, hh2, hh3, hh4, hh5, hh6, hh7, hh8, hh9, hh10, hh11⟩ := HH.out
        have hW := HW.out
        have hki : s ≤ k := by omega
        have hkj : k < r := by omega
        have hak : a ≤ k := by omega
        have hkm : k < m := by omega
        have hkM : k < M := by omega
        have hkY : M - k - 1 < Y.length := by omega
        have huv : (s : Int) < (r : Int) := by omega
        have u1 : (s : Int) < 4611686018427387904 := by omega
        have v1 : (r : Int) < 4611686018427387904 := by omega
        have hd : ((s : Int) + (r : Int)) / 2 = (k : Int) := by omega
        obtain ⟨p, hp⟩ : ∃ p, N - 1 - k = p := ⟨_, rfl⟩
        have hpp : (N : Int) - 1 - (k : Int) = (p : Int) := by omega
        have h0 : (0 : Int) ≤ (k : Int) := by omega
        have h1 : (k : Int) < (L : Int) := by omega
        have h2 : (0 : Int) ≤ (p : Int) := by omega
        have h3 : (p : Int) < (L : Int) := by omega
        have h4 : IntKind.i64.wrap (p : Int) = (p : Int) := by simp [IntKind.wrap, IntKind.bits, IntKind.signed]; omega
        obtain ⟨x, hx⟩ : ∃ x, X[k - a]? = some x := ⟨_, List.getElem?_eq_getElem (by omega)⟩
        obtain ⟨y, hy⟩ : ∃ y, Y[M - k - 1]? = some y := ⟨_, List.getElem?_eq_getElem (by omega)⟩
        have hxL : (P ++ (X ++ (Y ++ S)))[k]? = some x := by
          rw [List.getElem?_append_right (by omega), List.getElem?_append_left (by omega), ← hh3, hx]
        have hyL : (P ++ (X ++ (Y ++ S)))[p]? = some y := by
          rw [List.getElem?_append_right (by omega), List.getElem?_append_right (by omega), List.getElem?_append_left (by omega), show p - P.length - X.length = M - k - 1 by omega, hy]
        obtain ⟨cx, hcx⟩ : ∃ cx, chgC x = cx := ⟨_, rfl⟩
        obtain ⟨cy, hcy⟩ : ∃ cy, chgC y = cy := ⟨_, rfl⟩
        have ho := fun w => chg_order y x w
        obtain ⟨n, hn⟩ : ∃ n, ccmp y x = n := ⟨_, rfl⟩
        have HN := Lib.hid hn
        rw [hcx, hcy, hn] at ho
        clear hn
        have HO := Lib.hid ho
        have HC := Lib.hid (And.intro hki (And.intro hkj (And.intro hak (And.intro hkm (And.intro hkM (And.intro hkk (And.intro hx (And.intro hxL (And.intro hyL (And.intro hcx (And.intro hcy hy)))))))))))
        have HD := Lib.hid (show OwnS chgC 5 wr.drew 83 (.slice (some ⟨g, 0, none⟩) L cap) (P ++ (X ++ (Y ++ S))) from OwnS.gr hh1 hgr.drew)
        clear hki hkj hak hkm hkM hkY hkk hs0 hsr hr0 hrg hlo hup hgr hc hx hy hyL hxL hcx hcy ho hh1 hh2 hh3 hh4 hh5 hh6 hh7 hh8 hh9 hh10 hh11 hW hp
        go_wp2_with fail
        clear hd
        refine wp_region_held_drew (S := fun w' => Gr wr.drew w') (by kernel_rfl) (Gr.refl _) (fun hS => ?_)
        refine takeD (i := 0) rfl (by kernel_rfl) (by kernel_rfl) (by kernel_rfl) (fun _ _ _ h => h) hS (Or.inl ⟨by rfl, fun w hSw => by go_simp; rfl⟩) ?_
        simp only [Act.put, List.setIfInBounds_toArray, List.set_cons_zero, List.set_cons_succ]
        refine takeD (i := 1) rfl (by kernel_rfl) (by kernel_rfl) (by kernel_rfl) (fun _ _ _ h => h) hS (Or.inl ⟨by rfl, fun w hSw => by go_simp; rfl⟩) ?_
        simp only [Act.put, List.setIfInBounds_toArray, List.set_cons_zero, List.set_cons_succ]
        refine takeD (i := 2) rfl (by kernel_rfl) (by kernel_rfl) (by kernel_rfl) (fun _ _ _ h => h) hS (Or.inl ⟨by rfl, fun w hSw => by go_simp; rfl⟩) ?_
        simp only [Act.put, List.setIfInBounds_toArray, List.set_cons_zero, List.set_cons_succ]
        refine takeD (i := 3) rfl (by kernel_rfl) (by kernel_rfl) (by kernel_rfl) (fun _ _ _ h => h) hS (Or.inl ⟨by rfl, fun w hSw => by go_simp; rfl⟩) ?_
        simp only [Act.put, List.setIfInBounds_toArray, List.set_cons_zero, List.set_cons_succ]
        refine takeD (i := 4) rfl (by kernel_rfl) (by kernel_rfl) (by kernel_rfl) (fun _ _ _ h => h) hS (Or.inl ⟨by rfl, fun w hSw => by go_simp; rfl⟩) ?_
        simp only [Act.put, List.setIfInBounds_toArray, List.set_cons_zero, List.set_cons_succ]
        refine takeD (i := 5) rfl (by kernel_rfl) (by kernel_rfl) (by kernel_rfl) (fun _ _ _ h => h) hS (Or.inl ⟨by rfl, fun w hSw => by go_simp; rfl⟩) ?_
        simp only [Act.put, List.setIfInBounds_toArray, List.set_cons_zero, List.set_cons_succ]
        refine takeD (i := 6) rfl (by kernel_rfl) (by kernel_rfl) (by kernel_rfl) (fun _ _ _ h => h) hS (yieldsIf_load_mid (by rfl) 83 (.tmp 163) rfl g (p * 5) rfl cy _ (fun w hSw => by rw [← HC.out.2.2.2.2.2.2.2.2.2.2.1]; exact OwnS.range chgC_len (OwnS.gr HD.out hSw) HC.out.2.2.2.2.2.2.2.2.1) Tryz.underlying83 rfl (by rw [← HC.out.2.2.2.2.2.2.2.2.2.2.1]; exact infoC)) ?_
        simp only [Act.put, List.setIfInBounds_toArray, List.set_cons_zero, List.set_cons_succ]
        refine takeD (i := 7) rfl (by kernel_rfl) (by kernel_rfl) (by kernel_rfl) (fun _ _ _ h => h) hS (Or.inl ⟨by rfl, fun w hSw => by go_simp; rfl⟩) ?_
        simp only [Act.put, List.setIfInBounds_toArray, List.set_cons_zero, List.set_cons_succ]
        refine takeD (i := 8) rfl (by kernel_rfl) (by kernel_rfl) (by kernel_rfl) (fun _ _ _ h => h) hS (Or.inl ⟨by rfl, fun w hSw => by go_simp; rfl⟩) ?_
        simp only [Act.put, List.setIfInBounds_toArray, List.set_cons_zero, List.set_cons_succ]
        refine takeD (i := 9) rfl (by kernel_rfl) (by kernel_rfl) (by kernel_rfl) (fun _ _ _ h => h) hS (Or.inl ⟨by rfl, fun w hSw => by go_simp; rfl⟩) ?_
        simp only [Act.put, List.setIfInBounds_toArray, List.set_cons_zero, List.set_cons_succ]
        refine takeD (i := 10) rfl (by kernel_rfl) (by kernel_rfl) (by kernel_rfl) (fun _ _ _ h => h) hS (yieldsIf_load_mid (by rfl) 83 (.tmp 167) rfl g (k * 5) rfl cx _ (fun w hSw => by rw [← HC.out.2.2.2.2.2.2.2.2.2.1]; exact OwnS.range chgC_len (OwnS.gr HD.out hSw) HC.out.2.2.2.2.2.2.2.1) Tryz.underlying83 rfl (by rw [← HC.out.2.2.2.2.2.2.2.2.2.1]; exact infoC)) ?_
        simp only [Act.put, List.setIfInBounds_toArray, List.set_cons_zero, List.set_cons_succ]
        refine wpAnyH_ready (rs := [11]) (by kernel_rfl) (by simp) ?_
        refine consD (i := 11) rfl (fun K hK => ?_) AllReadyH.nil
        rw [if_pos (by rfl)]
        go_simp
        ((with_reducible refine (HO.out _).mono ?_); rintro e w2 ⟨rfl, hg2⟩)
        dsimp only
        refine hK.out _ _ (hS.trans hg2) (fun hS => ?_)
        clear hK K
        refine takeD (i := 12) rfl (by kernel_rfl) (by kernel_rfl) (by kernel_rfl) (fun _ _ _ h => h) hS (Or.inl ⟨by rfl, fun w hSw => by go_simp; rfl⟩) ?_
        simp only [Act.put, List.setIfInBounds_toArray, List.set_cons_zero, List.set_cons_succ]
        refine takeD (i := 13) rfl (by kernel_rfl) (by kernel_rfl) (by kernel_rfl) (fun _ _ _ h => h) hS (Or.inl ⟨by rfl, fun w hSw => by go_simp; rfl⟩) ?_
        simp only [Act.put, List.setIfInBounds_toArray, List.set_cons_zero, List.set_cons_succ]
        refine wpAnyH_done (by kernel_rfl) ?_ _
        by_cases hq : n < 0
        · have hlt : ltOf ccmp y x = true := by rw [← HN.out] at hq; simp [ltOf, hq]
          have HQ := Lib.hid (And.intro hlt hS)
          have hdec : decide (n < 0) = true := by simp [hq]
          rw [hdec]
          clear hlt hg2 hS hdec hq
          simp only [Bool.not_true]
          go_wp2
          go_roundg (k - s)
          case measure => have h1 := HI.out; have h2 := HC.out; omega
          case rel =>
            obtain ⟨i1, i2, i3, i4, i5, i6, i7⟩ := HI.out
            obtain ⟨c1, c2, c3, c4, c5, c6, c7, c8, c9, c10, c11, c12⟩ := HC.out
            exact ⟨s, k, rfl, rfl, i1, c1, by omega, Nat.le_refl _, i5, .inr ⟨x, y, by omega, c7, c12, HQ.out.1⟩, (i7.drew).trans HQ.out.2⟩
        · have hlt : ltOf ccmp y x = false := by rw [← HN.out] at hq; simp [ltOf, hq]
          have HQ := Lib.hid (And.intro hlt hS)
          have hdec : decide (n < 0) = false := by simp [hq]
          rw [hdec]
          clear hlt hg2 hS hdec hq
          simp only [Bool.not_false]
          go_wp2
          go_roundg (r - (k + 1))
          case measure => have h1 := HI.out; have h2 := HC.out; omega
          case rel =>
            obtain ⟨i1, i2, i3, i4, i5, i6, i7⟩ := HI.out
            obtain ⟨c1, c2, c3, c4, c5, c6, c7, c8, c9, c10, c11, c12⟩ := HC.out
            refine ⟨k + 1, r, by congr 1, rfl, by omega, by omega, i3, Nat.le_refl _, .inr ⟨x, y, by omega, ?_, ?_, HQ.out.1⟩, i6, (i7.drew).trans HQ.out.2⟩
            · rw [show k + 1 - a - 1 = k - a by omega]; exact c7
            · rw [show M - (k + 1) = M - k - 1 by omega]; exact c12
      · obtain rfl : s = r := by omega
        obtain ⟨hh1, hh2, hh3, hh4, hh5, hh6, hh7, hh8, hh9, hh10, hh11⟩ := HH.out
        have hW := HW.out
        have hcut0 := Stab.cut_ok chgSwo hh8 hh9 (s - a) (M - s) (by
          rcases hlo with hlo | hlo
          · rcases hW with hW | hW
            · exact .inr (.inl (by omega))
            · exact .inl (by omega)
          · obtain ⟨x, y, h1, h2, h3, h4⟩ := hlo
            exact .inr (.inr ⟨x, y, by omega, h2, h3, h4⟩)) (by
          rcases hup with hup | hup
          · rcases hW with hW | hW
            · exact .inr (.inl (by omega))
            · exact .inl (by omega)
          · obtain ⟨x, y, h1, h2, h3, h4⟩ := hup
            exact .inr (.inr ⟨x, y, by omega, h2, h3, h4⟩))
        obtain ⟨X1, hX1⟩ : ∃ X1, X.take (s - a) = X1 := ⟨_, rfl⟩
        obtain ⟨X2, hX2⟩ : ∃ X2, X.drop (s - a) = X2 := ⟨_, rfl⟩
        obtain ⟨Y1, hY1⟩ : ∃ Y1, Y.take (M - s) = Y1 := ⟨_, rfl⟩
        obtain ⟨Y2, hY2⟩ : ∃ Y2, Y.drop (M - s) = Y2 := ⟨_, rfl⟩
        have eX : X = X1 ++ X2 := by rw [← hX1, ← hX2, List.take_append_drop]
        have eY : Y = Y1 ++ Y2 := by rw [← hY1, ← hY2, List.take_append_drop]
        have l1 : X1.length = s - a := by rw [← hX1, List.length_take]; omega
        have l2 : X2.length = X.length - (s - a) := by rw [← hX2, List.length_drop]
        have l3 : Y1.length = M - s := by rw [← hY1, List.length_take]; omega
        have l4 : Y2.length = Y.length - (M - s) := by rw [← hY2, List.length_drop]
        rw [hX1, hX2, hY1, hY2] at hcut0
        obtain ⟨e, he⟩ : ∃ e, N - s = e := ⟨_, rfl⟩
        have he1 : (N : Int) - (s : Int) = (e : Int) := by omega
        have p1 : s = P.length + X1.length := by omega
        have p2 : m = s + X2.length := by omega
        have p3 : M = s + Y1.length := by omega
        have p4 : e = m + Y1.length := by omega
        have p5 : e = M + X2.length := by omega
        have p6 : b = e + Y2.length := by omega
        have pw : X1.length + X2.length = X.length ∧ Y1.length + Y2.length = Y.length := by omega
        have hown : OwnS chgC 5 wr 83 (.slice (some ⟨g, 0, none⟩) L cap) (P ++ ((X1 ++ X2) ++ ((Y1 ++ Y2) ++ S))) := by
          rw [← eX, ← eY]
          exact OwnS.gr hh1 hgr
        have HT := Lib.hid (And.intro p1 (And.intro p2 (And.intro p3 (And.intro p4 (And.intro p5 (And.intro p6 pw))))))
        have HS := Lib.hid (And.intro hcut0 (And.intro eX eY))
        have HU := Lib.hid (And.intro hown (hgr.mod (S := fun x => x = g)))
        have huu : ¬ (s : Int) < (s : Int) := by omega
        have e1 : (e : Int) < 4611686018427387904 := by omega
        have s1 : (s : Int) < 4611686018427387904 := by omega
        clear hs0 hsr hr0 hrg hlo hup hgr hc hW hcut0 hX1 hX2 hY1 hY2 eX eY l1 l2 l3 l4 he p1 p2 p3 p4 p5 p6 pw hown hh1 hh2 hh3 hh4 hh5 hh6 hh7 hh8 hh9 hh10 hh11 HI
        go_upto_region 39 with fail
        go_cut [185] (fun v wx => ∃ bb : Bool, v = .bool bb ∧ (bb = true ↔ (1 ≤ X2.length ∧ 1 ≤ Y1.length)) ∧ wx = wr)
        case first =>
          have ht := HT.out
          by_cases c1 : 1 ≤ X2.length
          · have d1 : (s : Int) < (m : Int) := by omega
            by_cases c2 : 1 ≤ Y1.length
            · have d2 : (m : Int) < (e : Int) := by omega
              have HC := Lib.hid (And.intro c1 c2)
              clear ht c1 c2
              go_wp2
              go_meet
              case rel => exact ⟨_, rfl, by have := HC.out; simp only [true_iff, decide_eq_true_eq]; omega, rfl⟩
            · have d2 : ¬ (m : Int) < (e : Int) := by omega
              have HC := Lib.hid (And.intro c1 c2)
              clear ht c1 c2
              go_wp2
              go_meet
              case rel => exact ⟨_, rfl, by have := HC.out; simp only [Bool.false_eq_true, false_iff, decide_eq_true_eq]; omega, rfl⟩
          · have d1 : ¬ (s : Int) < (m : Int) := by omega
            have HC := Lib.hid c1
            clear ht c1
            go_wp2
            go_meet
            case rel => exact ⟨_, rfl, by have := HC.out; simp only [Bool.false_eq_true, false_iff, decide_eq_true_eq]; omega, rfl⟩
        case rest =>
          obtain ⟨bb, rfl, hbb, rfl⟩ := hcut
          have HB := Lib.hid hbb
          clear hbb
          go_upto_if 185 with fail
          go_cut [] (fun wx => OwnS chgC 5 wx 83 (.slice (some ⟨g, 0, none⟩) L cap) (P ++ (X1 ++ (Y1 ++ (X2 ++ (Y2 ++ S))))) ∧ Mod (fun x => x = g) w wx)
          case first =>
            cases bb with
            | false =>
              go_wp2
              go_meet
              case rel =>
                have hb := HB.out
                have hown := HU.out.1
                refine ⟨?_, HU.out.2⟩
                simp only [Bool.false_eq_true, false_iff] at hb
                rcases (show X2.length = 0 ∨ Y1.length = 0 by omega) with h0 | h0
                · rw [List.length_eq_zero_iff.1 h0] at hown ⊢; simpa using hown
                · rw [List.length_eq_zero_iff.1 h0] at hown ⊢; simpa using hown
            | true =>
              have hb := HB.out.1 rfl
              go_wp2_with fail
              obtain ⟨t1, t2, t3, t4, t5, t6, t7, t8⟩ := HT.out
              have hh := HH.out.2
              refine (rotate_chg (w := wc) (g := g) (cap := cap) (L := L) (P := P ++ X1) (X := X2) (Y := Y1) (S := Y2 ++ S) (by have := HU.out.1; simpa using this) (by omega) (by simp only [List.length_append]; omega) hb.1 hb.2 _ _ _ _ (by rw [List.length_append]; omega) (by rw [List.length_append]; omega) (by rw [List.length_append]; omega)).mono ?_
              rintro e w2 ⟨rfl, hown2, hm2⟩
              have H2 := Lib.hid (And.intro hown2 hm2)
              clear hown2 hm2 hh t1 t2 t3 t4 t5 t6 t7 t8
              go_wp2
              go_meet
              case rel => exact ⟨by have := H2.out.1; simpa using this, HU.out.2.trans' H2.out.2⟩
          case rest =>
            obtain ⟨hown1, hmod1⟩ := hcut
            have HV := Lib.hid (And.intro hown1 hmod1)
            clear hown1 hmod1 HU HB
            as_aux_lemma =>
            go_upto_region 41 with fail
            go_cut [199] (fun v wx => ∃ bb : Bool, v = .bool bb ∧ (bb = true ↔ (1 ≤ X1.length ∧ 1 ≤ Y1.length)) ∧ wx = wc)
            case first =>
              have ht := HT.out
              have hh := HH.out.2.2.1
              by_cases c1 : 1 ≤ X1.length
              · have d1 : (a : Int) < (s : Int) := by omega
                by_cases c2 : 1 ≤ Y1.length
                · have d2 : (s : Int) < (M : Int) := by omega
                  have HC := Lib.hid (And.intro c1 c2)
                  clear ht c1 c2 hh
                  go_wp2
                  go_meet
                  case rel => exact ⟨_, rfl, by have := HC.out; simp only [true_iff, decide_eq_true_eq]; omega, rfl⟩
                · have d2 : ¬ (s : Int) < (M : Int) := by omega
                  have HC := Lib.hid (And.intro c1 c2)
                  clear ht c1 c2 hh
                  go_wp2
                  go_meet
                  case rel => exact ⟨_, rfl, by have := HC.out; simp only [Bool.false_eq_true, false_iff, decide_eq_true_eq]; omega, rfl⟩
              · have d1 : ¬ (a : Int) < (s : Int) := by omega
                have HC := Lib.hid c1
                clear ht c1 hh
                go_wp2
                go_meet
                case rel => exact ⟨_, rfl, by have := HC.out; simp only [Bool.false_eq_true, false_iff, decide_eq_true_eq]; omega, rfl⟩
            case rest =>
              obtain ⟨bb, rfl, hbb, rfl⟩ := hcut
              have HB := Lib.hid hbb
              clear hbb
              go_upto_if 199 with fail
              go_cut [] (fun wx => ∃ Z1 : List Chg, Stab.Sorted (ltOf ccmp) Z1 ∧ Stab.Stab (ltOf ccmp) (X1 ++ Y1) Z1 ∧ OwnS chgC 5 wx 83 (.slice (some ⟨g, 0, none⟩) L cap) (P ++ (Z1 ++ (X2 ++ (Y2 ++ S)))) ∧ Mod (fun x => x = g) w wx)
              case first =>
                have hsX := HH.out.2.2.2.2.2.2.2.1
                have hsY := HH.out.2.2.2.2.2.2.2.2.1
                rw [HS.out.2.1] at hsX
                rw [HS.out.2.2] at hsY
                have HZ := Lib.hid (And.intro hsX hsY)
                clear hsX hsY
                cases bb with
                | false =>
                  go_wp2
                  go_meet
                  case rel =>
                    have hb := HB.out
                    have hown := HV.out.1
                    simp only [Bool.false_eq_true, false_iff] at hb
                    rcases (show X1.length = 0 ∨ Y1.length = 0 by omega) with h0 | h0
                    · have h0' := List.length_eq_zero_iff.1 h0
                      refine ⟨Y1, HZ.out.2.left, by rw [h0']; exact Stab.Stab.refl _, ?_, HV.out.2⟩
                      rw [h0'] at hown; simpa using hown
                    · have h0' := List.length_eq_zero_iff.1 h0
                      refine ⟨X1, HZ.out.1.left, by rw [h0', List.append_nil]; exact Stab.Stab.refl _, ?_, HV.out.2⟩
                      rw [h0'] at hown; simpa using hown
                | true =>
                  have hb := HB.out.1 rfl
                  go_wp2_with fail
                  obtain ⟨t1, t2, t3, t4, t5, t6, t7, t8⟩ := HT.out
                  have hh := HH.out.2
                  refine (HIH.out wc P X1 Y1 (X2 ++ (Y2 ++ S)) a s M (by omega) HV.out.1 (by simp only [List.length_append]; omega) hb.1 hb.2 HZ.out.1.left HZ.out.2.left (by omega) (by omega) (by omega)).mono ?_
                  rintro e w2 ⟨rfl, Z1, hz1, hz2, hown2, hm2⟩
                  have H2 := Lib.hid (And.intro hz1 (And.intro hz2 (And.intro hown2 hm2)))
                  clear hown2 hm2 hh t1 t2 t3 t4 t5 t6 t7 t8 hz1 hz2
                  go_wp2
                  go_meet
                  case rel => exact ⟨Z1, H2.out.1, H2.out.2.1, H2.out.2.2.1, HV.out.2.trans' H2.out.2.2.2⟩
              case rest =>
                obtain ⟨Z1, hz1, hz2, hown1, hmod1⟩ := hcut
                have HW2 := Lib.hid (And.intro hz1 (And.intro hz2 (And.intro hown1 hmod1)))
                clear hown1 hmod1 hz1 hz2 HV HB
                go_upto_region 43 with fail
                go_cut [213] (fun v wx => ∃ bb : Bool, v = .bool bb ∧ (bb = true ↔ (1 ≤ X2.length ∧ 1 ≤ Y2.length)) ∧ wx = wc)
                case first =>
                  have ht := HT.out
                  have hh := HH.out.2.2.1
                  by_cases c1 : 1 ≤ X2.length
                  · have d1 : (M : Int) < (e : Int) := by omega
                    by_cases c2 : 1 ≤ Y2.length
                    · have d2 : (e : Int) < (b : Int) := by omega
                      have HC := Lib.hid (And.intro c1 c2)
                      clear ht c1 c2 hh
                      go_wp2
                      go_meet
                      case rel => exact ⟨_, rfl, by have := HC.out; simp only [true_iff, decide_eq_true_eq]; omega, rfl⟩
                    · have d2 : ¬ (e : Int) < (b : Int) := by omega
                      have HC := Lib.hid (And.intro c1 c2)
                      clear ht c1 c2 hh
                      go_wp2
                      go_meet
                      case rel => exact ⟨_, rfl, by have := HC.out; simp only [Bool.false_eq_true, false_iff, decide_eq_true_eq]; omega, rfl⟩
                  · have d1 : ¬ (M : Int) < (e : Int) := by omega
                    have HC := Lib.hid c1
                    clear ht c1 hh
                    go_wp2
                    go_meet
                    case rel => exact ⟨_, rfl, by have := HC.out; simp only [Bool.false_eq_true, false_iff, decide_eq_true_eq]; omega, rfl⟩
                case rest =>
                  obtain ⟨bb, rfl, hbb, rfl⟩ := hcut
                  have HB := Lib.hid hbb
                  clear hbb
                  go_upto_if 213 with fail
                  have hsX := HH.out.2.2.2.2.2.2.2.1
                  have hsY := HH.out.2.2.2.2.2.2.2.2.1
                  rw [HS.out.2.1] at hsX
                  rw [HS.out.2.2] at hsY
                  have HZ := Lib.hid (And.intro hsX hsY)
                  clear hsX hsY
                  cases bb with
                  | false =>
                    go_wp2
                    (try simp only [Exit.inBlock, Exit.then])
                    refine bodyPost_end (results_none rfl _ _ _) rfl ?_
                    have hb := HB.out
                    obtain ⟨z1, z2, hown, hmod⟩ := HW2.out
                    simp only [Bool.false_eq_true, false_iff] at hb
                    have h4 : ∃ Z2 : List Chg, X2 ++ Y2 = Z2 ∧ Stab.Sorted (ltOf ccmp) Z2 := by
                      refine ⟨_, rfl, ?_⟩
                      rcases (show X2.length = 0 ∨ Y2.length = 0 by omega) with h0 | h0
                      · rw [List.length_eq_zero_iff.1 h0, List.nil_append]; exact HZ.out.2.right
                      · rw [List.length_eq_zero_iff.1 h0, List.append_nil]; exact HZ.out.1.right
                    obtain ⟨Z2, hZ2, hs2⟩ := h4
                    have hf := Stab.four chgSwo HZ.out.1 HZ.out.2 HS.out.1.1 HS.out.1.2 z1 z2 hs2 (by rw [hZ2]; exact Stab.Stab.refl _)
                    rw [← HS.out.2.1, ← HS.out.2.2] at hf
                    refine ⟨rfl, _, hf.1, hf.2, ?_, hmod⟩
                    rw [← hZ2]
                    simpa using hown
                  | true =>
                    have hb := HB.out.1 rfl
                    go_wp2_with fail
                    obtain ⟨z1, z2, hown, hmod⟩ := HW2.out
                    obtain ⟨cur, _, _, _, hlen, _⟩ := hown.block
                    simp only [List.length_append] at hlen
                    obtain ⟨t1, t2, t3, t4, t5, t6, t7, t8⟩ := HT.out
                    have hh := HH.out.2
                    have hZ1 : Z1.length = X1.length + Y1.length := by omega
                    refine (HIH.out wc (P ++ Z1) X2 Y2 S M e b (by omega) (by simpa using hown) (by simp only [List.length_append]; omega) hb.1 hb.2 HZ.out.1.right HZ.out.2.right (by rw [List.length_append]; omega) (by rw [List.length_append]; omega) (by rw [List.length_append]; omega)).mono ?_
                    rintro e w2 ⟨rfl, Z2, hz1, hz2, hown2, hm2⟩
                    have H2 := Lib.hid (And.intro hz1 (And.intro hz2 (And.intro hown2 hm2)))
                    clear hown2 hm2 hh t1 t2 t3 t4 t5 t6 t7 t8 hz1 hz2 hown hmod hlen hZ1 z1 z2
                    go_wp2
                    (try simp only [Exit.inBlock, Exit.then])
                    refine bodyPost_end (results_none rfl _ _ _) rfl ?_
                    obtain ⟨z1, z2, hown, hmod⟩ := HW2.out
                    obtain ⟨y1, y2, y3, y4⟩ := H2.out
                    have hf := Stab.four chgSwo HZ.out.1 HZ.out.2 HS.out.1.1 HS.out.1.2 z1 z2 y1 y2
                    rw [← HS.out.2.1, ← HS.out.2.2] at hf
                    refine ⟨rfl, _, hf.1, hf.2, ?_, hmod.trans' y4⟩
                    simpa using y3
end Go.Proofs.YtojjnfhgldjgbaaGreatDoor.Watch
end
