/- slices.symMergeCmpFunc: one element on the left. -/
import Derived.Test.YtobcakjlfdejjaaRotR
import Derived.Test.YtobcakjlfdejjaaSymA
set_option linter.unusedVariables false
set_option linter.unusedSimpArgs false
namespace Go.Proofs.Ytobcakjlfdejjaa.Watch
open Go.RowKit Go.Por Go.Sort

set_option maxRecDepth 100000 in
set_option maxHeartbeats 1600000 in
theorem symOneL_row {w : World} {g cap L : Nat} {P Y S : List RowT} {x : RowT} (h : OwnS rowC 5 w 39 (.slice (some ⟨g, 0, none⟩) L cap) (P ++ (x :: (Y ++ S)))) (hl : L < 4611686018427387904) (hL : L = P.length + 1 + Y.length + S.length) (hY : 1 ≤ Y.length) (hs : Stab.Sorted (ltOf rcmp) Y) (a m b : Nat) (ha : a = P.length) (hm : m = P.length + 1) (hb : b = P.length + 1 + Y.length) :
    Calls Try.prog 70 #[.slice (some ⟨g, 0, none⟩) L cap, .int .i64 (a : Int), .int .i64 (m : Int), .int .i64 (b : Int), .func (.func 36) #[] #[]] w fun e w' =>
      e = .returned (.tuple #[]) ∧ ∃ Z : List RowT, Stab.Sorted (ltOf rcmp) Z ∧ Stab.Stab (ltOf rcmp) (x :: Y) Z ∧ OwnS rowC 5 w' 39 (.slice (some ⟨g, 0, none⟩) L cap) (P ++ (Z ++ S)) ∧ Mod (fun x => x = g) w w' := by
  have q : ((m : Int) - (a : Int) == (1 : Int)) = true := by rw [beq_iff_eq]; omega
  have hm1 : (m : Int) < 4611686018427387904 := by omega
  have ha1 : (a : Int) < 4611686018427387904 := by omega
  have haL : (a : Int) < (L : Int) := by omega
  have HH := Lib.hid (And.intro h (And.intro hL (And.intro ha (And.intro hm (And.intro hb (And.intro hY hs))))))
  clear h hL ha hm hb hY hs
  go_enter Try.func70, Try.ntmps70
  go_wp2
  go_loopg [10, 11] Y.length (fun gg vi vj wx => ∃ i j : Nat, vi = .int .i64 ((P.length + 1 + i : Nat) : Int) ∧ vj = .int .i64 ((P.length + 1 + j : Nat) : Int) ∧ i ≤ j ∧ j ≤ Y.length ∧ j - i ≤ gg ∧ (∀ t y, t < i → Y[t]? = some y → ltOf rcmp y x = true) ∧ (∀ t y, j ≤ t → Y[t]? = some y → ltOf rcmp y x = false) ∧ Gr w wx)
  case atStart => exact ⟨0, Y.length, by rw [HH.out.2.2.2.1], by rw [HH.out.2.2.2.2.1], Nat.zero_le _, Nat.le_refl _, Nat.le_refl _, fun t y h => by omega, fun t y h hy => by have := (List.getElem?_eq_some_iff.1 hy).1; omega, Gr.refl w⟩
  case round =>
    obtain ⟨i, j, rfl, rfl, hij, hjY, hjg, hlo, hhi, hgr⟩ := hrel
    have HI := Lib.hid (And.intro hij (And.intro hjY (And.intro hjg (And.intro hlo (And.intro hhi hgr)))))
    by_cases hc : i < j
    · obtain ⟨k, hk⟩ : ∃ k, (i + j) / 2 = k := ⟨_, rfl⟩
      have hki : i ≤ k := by omega
      have hkj : k < j := by omega
      obtain ⟨u, hu⟩ : ∃ u, P.length + 1 + i = u := ⟨_, rfl⟩
      obtain ⟨v, hv⟩ : ∃ v, P.length + 1 + j = v := ⟨_, rfl⟩
      obtain ⟨h, hh⟩ : ∃ h, P.length + 1 + k = h := ⟨_, rfl⟩
      have huv : (u : Int) < (v : Int) := by omega
      have hLL := HH.out.2.1
      have hv1 : v ≤ L := by omega
      have u1 : (u : Int) < 4611686018427387904 := by omega
      have v1 : (v : Int) < 4611686018427387904 := by omega
      have hd : ((u : Int) + (v : Int)) / 2 = (h : Int) := by omega
      have h0 : (0 : Int) ≤ (h : Int) := by omega
      have h1 : (h : Int) < (L : Int) := by omega
      obtain ⟨y, hy⟩ : ∃ y, Y[k]? = some y := ⟨_, List.getElem?_eq_getElem (by omega)⟩
      have hyL : (P ++ (x :: (Y ++ S)))[h]? = some y := by
        rw [List.getElem?_append_right (by omega), show h - P.length = k + 1 by omega, List.getElem?_cons_succ, List.getElem?_append_left (by omega), hy]
      have hxL : (P ++ (x :: (Y ++ S)))[a]? = some x := by
        rw [HH.out.2.2.1, List.getElem?_append_right (Nat.le_refl _), Nat.sub_self]
        rfl
      rw [hu, hv]
      obtain ⟨cx, hcx⟩ : ∃ cx, rowC x = cx := ⟨_, rfl⟩
      obtain ⟨cy, hcy⟩ : ∃ cy, rowC y = cy := ⟨_, rfl⟩
      have ho := fun w => row_order y x w
      obtain ⟨n, hn⟩ : ∃ n, rcmp y x = n := ⟨_, rfl⟩
      have HN := Lib.hid hn
      rw [hcx, hcy, hn] at ho
      clear hn
      have HO := Lib.hid ho
      have HC := Lib.hid (And.intro hki (And.intro hkj (And.intro hu (And.intro hv (And.intro hh (And.intro hk (And.intro hy (And.intro hyL (And.intro hxL (And.intro hcx hcy))))))))))
      have HD := Lib.hid (show OwnS rowC 5 wr.drew 39 (.slice (some ⟨g, 0, none⟩) L cap) (P ++ (x :: (Y ++ S))) from OwnS.gr HH.out.1 hgr.drew)
      clear hki hkj hu hv hh hk hij hjY hjg hlo hhi hgr hc hLL hv1 hy hyL hxL hcx hcy ho
      go_wp2_with fail

      clear hd
      refine wp_region_held_drew (S := fun w' => Gr wr.drew w') (by kernel_rfl) (Gr.refl _) (fun hS => ?_)
      refine takeD (i := 0) rfl (by kernel_rfl) (by kernel_rfl) (by kernel_rfl) (fun _ _ _ h => h) hS (Or.inl ⟨by rfl, fun w hSw => by go_simp; rfl⟩) ?_
      simp only [Act.put, List.setIfInBounds_toArray, List.set_cons_zero, List.set_cons_succ]
      refine takeD (i := 1) rfl (by kernel_rfl) (by kernel_rfl) (by kernel_rfl) (fun _ _ _ h => h) hS (Or.inl ⟨by rfl, fun w hSw => by go_simp; rfl⟩) ?_
      simp only [Act.put, List.setIfInBounds_toArray, List.set_cons_zero, List.set_cons_succ]
      refine takeD (i := 2) rfl (by kernel_rfl) (by kernel_rfl) (by kernel_rfl) (fun _ _ _ h => h) hS (Or.inl ⟨by rfl, fun w hSw => by go_simp; rfl⟩) ?_
      simp only [Act.put, List.setIfInBounds_toArray, List.set_cons_zero, List.set_cons_succ]
      refine takeD (i := 3) rfl (by kernel_rfl) (by kernel_rfl) (by kernel_rfl) (fun _ _ _ h => h) hS (Or.inl ⟨by rfl, fun w hSw => by go_simp; rfl⟩) ?_
      simp only [Act.put, List.setIfInBounds_toArray, List.set_cons_zero, List.set_cons_succ]
      refine takeD (i := 4) rfl (by kernel_rfl) (by kernel_rfl) (by kernel_rfl) (fun _ _ _ h => h) hS (yieldsIf_load_mid (by rfl) 39 (.tmp 43) rfl g (h * 5) rfl cy _ (fun w hSw => by rw [← HC.out.2.2.2.2.2.2.2.2.2.2]; exact OwnS.range rowC_len (OwnS.gr HD.out hSw) HC.out.2.2.2.2.2.2.2.1) Try.underlying39 rfl (by rw [← HC.out.2.2.2.2.2.2.2.2.2.2]; exact infoR)) ?_
      simp only [Act.put, List.setIfInBounds_toArray, List.set_cons_zero, List.set_cons_succ]
      refine takeD (i := 5) rfl (by kernel_rfl) (by kernel_rfl) (by kernel_rfl) (fun _ _ _ h => h) hS (Or.inl ⟨by rfl, fun w hSw => by go_simp; rfl⟩) ?_
      simp only [Act.put, List.setIfInBounds_toArray, List.set_cons_zero, List.set_cons_succ]
      refine takeD (i := 6) rfl (by kernel_rfl) (by kernel_rfl) (by kernel_rfl) (fun _ _ _ h => h) hS (Or.inl ⟨by rfl, fun w hSw => by go_simp; rfl⟩) ?_
      simp only [Act.put, List.setIfInBounds_toArray, List.set_cons_zero, List.set_cons_succ]
      refine takeD (i := 7) rfl (by kernel_rfl) (by kernel_rfl) (by kernel_rfl) (fun _ _ _ h => h) hS (Or.inl ⟨by rfl, fun w hSw => by go_simp; rfl⟩) ?_
      simp only [Act.put, List.setIfInBounds_toArray, List.set_cons_zero, List.set_cons_succ]
      refine takeD (i := 8) rfl (by kernel_rfl) (by kernel_rfl) (by kernel_rfl) (fun _ _ _ h => h) hS (yieldsIf_load_mid (by rfl) 39 (.tmp 47) rfl g (a * 5) rfl cx _ (fun w hSw => by rw [← HC.out.2.2.2.2.2.2.2.2.2.1]; exact OwnS.range rowC_len (OwnS.gr HD.out hSw) HC.out.2.2.2.2.2.2.2.2.1) Try.underlying39 rfl (by rw [← HC.out.2.2.2.2.2.2.2.2.2.1]; exact infoR)) ?_
      simp only [Act.put, List.setIfInBounds_toArray, List.set_cons_zero, List.set_cons_succ]
      refine wpAnyH_ready (rs := [9]) (by kernel_rfl) (by simp) ?_
      refine consD (i := 9) rfl (fun K hK => ?_) AllReadyH.nil
      rw [if_pos (by rfl)]
      go_simp
      ((with_reducible refine (HO.out _).mono ?_); rintro e w2 ⟨rfl, hg2⟩)
      dsimp only
      refine hK.out _ _ (hS.trans hg2) (fun hS => ?_)
      clear hK K
      refine takeD (i := 10) rfl (by kernel_rfl) (by kernel_rfl) (by kernel_rfl) (fun _ _ _ h => h) hS (Or.inl ⟨by rfl, fun w hSw => by go_simp; rfl⟩) ?_
      simp only [Act.put, List.setIfInBounds_toArray, List.set_cons_zero, List.set_cons_succ]
      refine wpAnyH_done (by kernel_rfl) ?_ _
      by_cases hq : n < 0
      · have hlt : ltOf rcmp y x = true := by rw [← HN.out] at hq; simp [ltOf, hq]
        have HQ := Lib.hid (And.intro hlt hS)
        have hdec : decide (n < 0) = true := by simp [hq]
        rw [hdec]
        clear hlt hg2 hS hdec hq
        go_wp2
        go_roundg (j - (k + 1))
        case measure => have h1 := HI.out; have h2 := HC.out; omega
        case rel =>
          obtain ⟨i1, i2, i3, i4, i5, i6⟩ := HI.out
          obtain ⟨c1, c2, c3, c4, c5, c6, c7, _⟩ := HC.out
          refine ⟨k + 1, j, ?_, ?_, by omega, i2, Nat.le_refl _, fun t z ht hz => ?_, i5, (i6.drew).trans HQ.out.2⟩
          · congr 1; omega
          · congr 1; omega
          · exact Stab.Sorted.low rowSwo HH.out.2.2.2.2.2.2 c7 HQ.out.1 hz (by omega)
      · have hlt : ltOf rcmp y x = false := by rw [← HN.out] at hq; simp [ltOf, hq]
        have HQ := Lib.hid (And.intro hlt hS)
        have hdec : decide (n < 0) = false := by simp [hq]
        rw [hdec]
        clear hlt hg2 hS hdec hq
        go_wp2
        go_roundg (k - i)
        case measure => have h1 := HI.out; have h2 := HC.out; omega
        case rel =>
          obtain ⟨i1, i2, i3, i4, i5, i6⟩ := HI.out
          obtain ⟨c1, c2, c3, c4, c5, c6, c7, _⟩ := HC.out
          refine ⟨i, k, ?_, ?_, by omega, by omega, Nat.le_refl _, i4, fun t z ht hz => ?_, (i6.drew).trans HQ.out.2⟩
          · congr 1; omega
          · congr 1; omega
          · exact Stab.Sorted.high rowSwo HH.out.2.2.2.2.2.2 c7 HQ.out.1 hz (by omega)
    · obtain rfl : i = j := by omega
      obtain ⟨u, hu⟩ : ∃ u, P.length + 1 + i = u := ⟨_, rfl⟩
      have HU := Lib.hid hu
      rw [hu]
      have huu : ¬ (u : Int) < (u : Int) := by omega
      have hLL := HH.out.2.1
      have hu1 : (u : Int) < 4611686018427387904 := by omega
      have hu0 : (0 : Int) ≤ (u : Int) - 1 := by omega
      clear hij hjY hjg hlo hhi hgr hc hLL hu
      go_wp2
      go_loopg [13] i (fun gg vk wx => ∃ t : Nat, vk = .int .i64 ((P.length + t : Nat) : Int) ∧ t ≤ i ∧ i - t ≤ gg ∧ OwnS rowC 5 wx 39 (.slice (some ⟨g, 0, none⟩) L cap) (P ++ (Y.take t ++ (x :: (Y.drop t ++ S)))) ∧ Mod (fun x => x = g) w wx)
      case atStart => exact ⟨0, by rw [HH.out.2.2.1]; rfl, Nat.zero_le _, by omega, by have := OwnS.gr HH.out.1 HI.out.2.2.2.2.2; simpa using this, HI.out.2.2.2.2.2.mod⟩
      case round =>
        obtain ⟨t, rfl, hti, htg, hown, hmod⟩ := hrel
        have HT := Lib.hid (And.intro hti (And.intro htg (And.intro hown hmod)))
        by_cases hc : t < i
        · obtain ⟨p, hp⟩ : ∃ p, P.length + t = p := ⟨_, rfl⟩
          obtain ⟨q, hq⟩ : ∃ q, P.length + t + 1 = q := ⟨_, rfl⟩
          have hLL := HH.out.2.1
          have hYi := HI.out.2.1
          have hUU := HU.out
          have k1 : (p : Int) < (u : Int) - 1 := by omega
          have k2 : (p : Int) + 1 = (q : Int) := by omega
          have k3 : (p : Int) < (L : Int) := by omega
          have k4 : (q : Int) < (L : Int) := by omega
          have k5 : (p : Int) < 4611686018427387904 := by omega
          have k6 : IntKind.i64.wrap (p : Int) = (p : Int) := by simp [IntKind.wrap, IntKind.bits, IntKind.signed]; omega
          have k7 : IntKind.i64.wrap (q : Int) = (q : Int) := by simp [IntKind.wrap, IntKind.bits, IntKind.signed]; omega
          have k8 : (0 : Int) ≤ (p : Int) := by omega
          have k9 : (0 : Int) ≤ (q : Int) := by omega
          obtain ⟨y, hy⟩ : ∃ y, Y[t]? = some y := ⟨_, List.getElem?_eq_getElem (by omega)⟩
          have hsh := shift_right P Y S x y t hy
          rw [hp] at hsh ⊢
          rw [show p + 1 = q by omega] at hsh
          obtain ⟨l1, hl1⟩ : ∃ l1, P ++ (Y.take t ++ (x :: (Y.drop t ++ S))) = l1 := ⟨_, rfl⟩
          rw [hl1] at hsh hown
          obtain ⟨cx, hcx⟩ : ∃ cx, rowC x = cx := ⟨_, rfl⟩
          obtain ⟨cy, hcy⟩ : ∃ cy, rowC y = cy := ⟨_, rfl⟩
          have hx5 : cx.length = 5 := by rw [← hcx]; rfl
          have hy5 : cy.length = 5 := by rw [← hcy]; rfl
          have hx1 : cx.toArray.all (·.oneCell') = true := by rw [← hcx]; exact rowC_one x
          have hy1 : cy.toArray.all (·.oneCell') = true := by rw [← hcy]; exact rowC_one y
          have HX := Lib.hid (And.intro hcx (And.intro hcy (And.intro hx5 (And.intro hy5 (And.intro hx1 hy1)))))
          clear hcx hcy hx5 hy5 hx1 hy1
          have HL := Lib.hid (And.intro hsh.1 (And.intro hsh.2.1 (And.intro (List.getElem?_eq_some_iff.1 hsh.1).1 (List.getElem?_eq_some_iff.1 hsh.2.1).1)))
          have HR := Lib.hid (And.intro hsh.2.2 (And.intro hp (And.intro hq hc)))
          have HD := Lib.hid (show OwnS rowC 5 wr.drew 39 (.slice (some ⟨g, 0, none⟩) L cap) l1 from hown)
          have HDm := Lib.hid (show Mod (fun x => x = g) w wr.drew from hmod.drew)
          clear hti htg hown hmod hc hp hq hLL hYi hUU hy hsh hl1
          go_wp2_with fail
          refine wp_region_held_drew (S := fun _ => True) (by kernel_rfl) trivial (fun hS => ?_)
          refine takeD (i := 0) rfl (by kernel_rfl) (by kernel_rfl) (by kernel_rfl) (fun _ _ _ h => h) hS (Or.inl ⟨by rfl, fun w hSw => by go_simp; rfl⟩) ?_
          simp only [Act.put, List.setIfInBounds_toArray, List.set_cons_zero, List.set_cons_succ]
          refine takeD (i := 1) rfl (by kernel_rfl) (by kernel_rfl) (by kernel_rfl) (fun _ _ _ h => h) hS (Or.inl ⟨by rfl, fun w hSw => by go_simp; rfl⟩) ?_
          simp only [Act.put, List.setIfInBounds_toArray, List.set_cons_zero, List.set_cons_succ]
          refine takeD (i := 2) rfl (by kernel_rfl) (by kernel_rfl) (by kernel_rfl) (fun _ _ _ h => h) hS (Or.inl ⟨by rfl, fun w hSw => by go_simp; rfl⟩) ?_
          simp only [Act.put, List.setIfInBounds_toArray, List.set_cons_zero, List.set_cons_succ]
          refine takeD (i := 3) rfl (by kernel_rfl) (by kernel_rfl) (by kernel_rfl) (fun _ _ _ h => h) hS (Or.inl ⟨by rfl, fun w hSw => by go_simp; rfl⟩) ?_
          simp only [Act.put, List.setIfInBounds_toArray, List.set_cons_zero, List.set_cons_succ]
          refine takeD (i := 4) rfl (by kernel_rfl) (by kernel_rfl) (by kernel_rfl) (fun _ _ _ h => h) hS (Or.inl ⟨by rfl, fun w hSw => by go_simp; rfl⟩) ?_
          simp only [Act.put, List.setIfInBounds_toArray, List.set_cons_zero, List.set_cons_succ]
          refine takeD (i := 5) rfl (by kernel_rfl) (by kernel_rfl) (by kernel_rfl) (fun _ _ _ h => h) hS (Or.inl ⟨by rfl, fun w hSw => by go_simp; rfl⟩) ?_
          simp only [Act.put, List.setIfInBounds_toArray, List.set_cons_zero, List.set_cons_succ]
          refine takeD (i := 6) rfl (by kernel_rfl) (by kernel_rfl) (by kernel_rfl) (fun _ _ _ h => h) hS (Or.inl ⟨by rfl, fun w hSw => by go_simp; rfl⟩) ?_
          simp only [Act.put, List.setIfInBounds_toArray, List.set_cons_zero, List.set_cons_succ]
          refine takeD (i := 7) rfl (by kernel_rfl) (by kernel_rfl) (by kernel_rfl) (fun _ _ _ h => h) hS (Or.inl ⟨by rfl, fun w hSw => by go_simp; rfl⟩) ?_
          simp only [Act.put, List.setIfInBounds_toArray, List.set_cons_zero, List.set_cons_succ]
          refine takeD (i := 8) rfl (by kernel_rfl) (by kernel_rfl) (by kernel_rfl) (fun _ _ _ h => h) hS (Or.inl ⟨by rfl, fun w hSw => by go_simp; rfl⟩) ?_
          simp only [Act.put, List.setIfInBounds_toArray, List.set_cons_zero, List.set_cons_succ]
          refine takeD (i := 10) rfl (by kernel_rfl) (by kernel_rfl) (by kernel_rfl) (fun _ _ _ h => h) hS (Or.inl ⟨by rfl, fun w hSw => by go_simp; rfl⟩) ?_
          simp only [Act.put, List.setIfInBounds_toArray, List.set_cons_zero, List.set_cons_succ]
          refine takeD (i := 11) rfl (by kernel_rfl) (by kernel_rfl) (by kernel_rfl) (fun _ _ _ h => h) hS (Or.inl ⟨by rfl, fun w hSw => by go_simp; rfl⟩) ?_
          simp only [Act.put, List.setIfInBounds_toArray, List.set_cons_zero, List.set_cons_succ]
          refine takeD (i := 12) rfl (by kernel_rfl) (by kernel_rfl) (by kernel_rfl) (fun _ _ _ h => h) hS (Or.inl ⟨by rfl, fun w hSw => by go_simp; rfl⟩) ?_
          simp only [Act.put, List.setIfInBounds_toArray, List.set_cons_zero, List.set_cons_succ]
          refine wpAnyH_ready (rs := [9, 13]) (by kernel_rfl) (by simp) ?_
          refine consD (i := 9) rfl (fun K hK => ?_) (consD (i := 13) rfl (fun K hK => ?_) AllReadyH.nil)
          · rw [if_pos (by rfl)]
            refine wp_load_mid 39 (.tmp 69) rfl g (q * 5) rfl cy _ (by rw [← HX.out.2.1]; exact OwnS.range rowC_len HD.out HL.out.2.1) Try.underlying39 rfl (by rw [HX.out.2.2.2.1]; exact infoR) ?_
            simp only [Act.put, List.setIfInBounds_toArray, List.set_cons_zero, List.set_cons_succ]
            refine hK.out _ _ trivial (fun hS => ?_)
            clear hK K
            refine wpAnyH_ready (rs := [13]) (by kernel_rfl) (by simp) ?_
            refine consD (i := 13) rfl (fun K hK => ?_) AllReadyH.nil
            rw [if_pos (by rfl)]
            refine wp_load_mid 39 (.tmp 73) rfl g (p * 5) rfl cx _ (by rw [← HX.out.1]; exact OwnS.range rowC_len HD.out HL.out.1) Try.underlying39 rfl (by rw [HX.out.2.2.1]; exact infoR) ?_
            simp only [Act.put, List.setIfInBounds_toArray, List.set_cons_zero, List.set_cons_succ]
            refine hK.out _ _ trivial (fun hS => ?_)
            clear hK K
            refine takeD (i := 14) rfl (by kernel_rfl) (by kernel_rfl) (by kernel_rfl) (fun _ _ _ h => h) hS (Or.inl ⟨by rfl, fun w hSw => by go_simp; rfl⟩) ?_
            simp only [Act.put, List.setIfInBounds_toArray, List.set_cons_zero, List.set_cons_succ]
            refine wpAnyH_ready (rs := [15]) (by kernel_rfl) (by simp) ?_
            refine consD (i := 15) rfl (fun K hK => ?_) AllReadyH.nil
            rw [if_pos (by rfl)]
            refine wp_store_mid 39 (.tmp 75) (.tmp 70) rfl g (p * 5) cy.toArray rfl rfl (by rw [List.size_toArray, HX.out.2.2.2.1]; exact OwnS.there HD.out HL.out.2.2.1) (by rw [List.size_toArray, HX.out.2.2.2.1]; exact infoR) HX.out.2.2.2.2.2 ?_
            simp only [Act.put, List.setIfInBounds_toArray, List.set_cons_zero, List.set_cons_succ]
            refine hK.out _ _ trivial (fun hS => ?_)
            clear hK K
            refine takeD (i := 16) rfl (by kernel_rfl) (by kernel_rfl) (by kernel_rfl) (fun _ _ _ h => h) hS (Or.inl ⟨by rfl, fun w hSw => by go_simp; rfl⟩) ?_
            simp only [Act.put, List.setIfInBounds_toArray, List.set_cons_zero, List.set_cons_succ]
            refine wpAnyH_ready (rs := [17]) (by kernel_rfl) (by simp) ?_
            refine consD (i := 17) rfl (fun K hK => ?_) AllReadyH.nil
            rw [if_pos (by rfl)]
            refine wp_store_mid 39 (.tmp 76) (.tmp 74) rfl g (q * 5) cx.toArray rfl rfl (by rw [List.size_toArray, HX.out.2.2.1, ← HX.out.2.1]; exact OwnS.there (OwnS.store rowC_len HD.out HL.out.2.2.1 y) (by rw [List.length_set]; exact HL.out.2.2.2)) (by rw [List.size_toArray, HX.out.2.2.1]; exact infoR) HX.out.2.2.2.2.1 ?_
            simp only [Act.put, List.setIfInBounds_toArray, List.set_cons_zero, List.set_cons_succ]
            refine hK.out _ _ trivial (fun hS => ?_)
            clear hK K
            refine wpAnyH_done (by kernel_rfl) ?_ _
            have hs2 := OwnS.store rowC_len (OwnS.store rowC_len HD.out HL.out.2.2.1 y) (i := q) (by rw [List.length_set]; exact HL.out.2.2.2) x
            rw [HX.out.1, HX.out.2.1] at hs2
            have hm2 := ((HDm.out.trans' (Mod.setCells (S := fun x => x = g) (.inl rfl) cy (p * 5) (Mod.refl _ _))).trans' (Mod.setCells (S := fun x => x = g) (.inl rfl) cx (q * 5) (Mod.refl _ _)))
            have HE := Lib.hid (And.intro hs2 hm2)
            clear hs2 hm2
            go_wp2
            go_roundg (i - (t + 1))
            case measure => have h1 := HT.out; have h2 := HR.out; omega
            case rel =>
              obtain ⟨t1, t2, t3, t4⟩ := HT.out
              obtain ⟨r1, r2, r3, r4⟩ := HR.out
              refine ⟨t + 1, ?_, by omega, Nat.le_refl _, ?_, HE.out.2⟩
              · congr 1; omega
              · rw [← r1]; exact HE.out.1
          · rw [if_pos (by rfl)]
            refine wp_load_mid 39 (.tmp 73) rfl g (p * 5) rfl cx _ (by rw [← HX.out.1]; exact OwnS.range rowC_len HD.out HL.out.1) Try.underlying39 rfl (by rw [HX.out.2.2.1]; exact infoR) ?_
            simp only [Act.put, List.setIfInBounds_toArray, List.set_cons_zero, List.set_cons_succ]
            refine hK.out _ _ trivial (fun hS => ?_)
            clear hK K
            refine wpAnyH_ready (rs := [9]) (by kernel_rfl) (by simp) ?_
            refine consD (i := 9) rfl (fun K hK => ?_) AllReadyH.nil
            rw [if_pos (by rfl)]
            refine wp_load_mid 39 (.tmp 69) rfl g (q * 5) rfl cy _ (by rw [← HX.out.2.1]; exact OwnS.range rowC_len HD.out HL.out.2.1) Try.underlying39 rfl (by rw [HX.out.2.2.2.1]; exact infoR) ?_
            simp only [Act.put, List.setIfInBounds_toArray, List.set_cons_zero, List.set_cons_succ]
            refine hK.out _ _ trivial (fun hS => ?_)
            clear hK K
            refine takeD (i := 14) rfl (by kernel_rfl) (by kernel_rfl) (by kernel_rfl) (fun _ _ _ h => h) hS (Or.inl ⟨by rfl, fun w hSw => by go_simp; rfl⟩) ?_
            simp only [Act.put, List.setIfInBounds_toArray, List.set_cons_zero, List.set_cons_succ]
            refine wpAnyH_ready (rs := [15]) (by kernel_rfl) (by simp) ?_
            refine consD (i := 15) rfl (fun K hK => ?_) AllReadyH.nil
            rw [if_pos (by rfl)]
            refine wp_store_mid 39 (.tmp 75) (.tmp 70) rfl g (p * 5) cy.toArray rfl rfl (by rw [List.size_toArray, HX.out.2.2.2.1]; exact OwnS.there HD.out HL.out.2.2.1) (by rw [List.size_toArray, HX.out.2.2.2.1]; exact infoR) HX.out.2.2.2.2.2 ?_
            simp only [Act.put, List.setIfInBounds_toArray, List.set_cons_zero, List.set_cons_succ]
            refine hK.out _ _ trivial (fun hS => ?_)
            clear hK K
            refine takeD (i := 16) rfl (by kernel_rfl) (by kernel_rfl) (by kernel_rfl) (fun _ _ _ h => h) hS (Or.inl ⟨by rfl, fun w hSw => by go_simp; rfl⟩) ?_
            simp only [Act.put, List.setIfInBounds_toArray, List.set_cons_zero, List.set_cons_succ]
            refine wpAnyH_ready (rs := [17]) (by kernel_rfl) (by simp) ?_
            refine consD (i := 17) rfl (fun K hK => ?_) AllReadyH.nil
            rw [if_pos (by rfl)]
            refine wp_store_mid 39 (.tmp 76) (.tmp 74) rfl g (q * 5) cx.toArray rfl rfl (by rw [List.size_toArray, HX.out.2.2.1, ← HX.out.2.1]; exact OwnS.there (OwnS.store rowC_len HD.out HL.out.2.2.1 y) (by rw [List.length_set]; exact HL.out.2.2.2)) (by rw [List.size_toArray, HX.out.2.2.1]; exact infoR) HX.out.2.2.2.2.1 ?_
            simp only [Act.put, List.setIfInBounds_toArray, List.set_cons_zero, List.set_cons_succ]
            refine hK.out _ _ trivial (fun hS => ?_)
            clear hK K
            refine wpAnyH_done (by kernel_rfl) ?_ _
            have hs2 := OwnS.store rowC_len (OwnS.store rowC_len HD.out HL.out.2.2.1 y) (i := q) (by rw [List.length_set]; exact HL.out.2.2.2) x
            rw [HX.out.1, HX.out.2.1] at hs2
            have hm2 := ((HDm.out.trans' (Mod.setCells (S := fun x => x = g) (.inl rfl) cy (p * 5) (Mod.refl _ _))).trans' (Mod.setCells (S := fun x => x = g) (.inl rfl) cx (q * 5) (Mod.refl _ _)))
            have HE := Lib.hid (And.intro hs2 hm2)
            clear hs2 hm2
            go_wp2
            go_roundg (i - (t + 1))
            case measure => have h1 := HT.out; have h2 := HR.out; omega
            case rel =>
              obtain ⟨t1, t2, t3, t4⟩ := HT.out
              obtain ⟨r1, r2, r3, r4⟩ := HR.out
              refine ⟨t + 1, ?_, by omega, Nat.le_refl _, ?_, HE.out.2⟩
              · congr 1; omega
              · rw [← r1]; exact HE.out.1
        · have hUU := HU.out
          obtain ⟨p, hp⟩ : ∃ p, P.length + t = p := ⟨_, rfl⟩
          rw [hp]
          have k1 : ¬ (p : Int) < (u : Int) - 1 := by omega
          have HC := Lib.hid hc
          clear hti htg hown hmod hUU hp hc
          go_wp2
          (try simp only [Exit.inBlock, Exit.then])
          refine bodyPost_ret (results_none rfl _ _ _) rfl ?_
          obtain ⟨t1, t2, t3, t4⟩ := HT.out
          have hcc := HC.out
          obtain rfl : t = i := by omega
          have hz := Stab.one_left rowSwo HH.out.2.2.2.2.2.2 HI.out.2.1 HI.out.2.2.2.1 HI.out.2.2.2.2.1
          refine ⟨rfl, _, hz.1, hz.2, ?_, t4⟩
          simpa using t3
end Go.Proofs.Ytobcakjlfdejjaa.Watch
