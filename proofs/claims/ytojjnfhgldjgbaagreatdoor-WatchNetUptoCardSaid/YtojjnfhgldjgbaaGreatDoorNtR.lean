/- WatchNet, where what came in is of bulk at most 1048576: what leads from some tuples to others does so in a store, and n: part 18 of 32: what it leans on. -/
import Derived.Deep.DeepCutAuto
import Derived.Test.YtojjnfhgldjgbaaGreatDoorNtA
import Derived.Test.YtojjnfhgldjgbaaGreatDoorNtB
import Derived.Test.YtojjnfhgldjgbaaGreatDoorNtC
import Derived.Test.YtojjnfhgldjgbaaGreatDoorNtD
import Derived.Test.YtojjnfhgldjgbaaGreatDoorNtE
import Derived.Test.YtojjnfhgldjgbaaGreatDoorNtL
import Derived.Test.YtojjnfhgldjgbaaGreatDoorNtM
import Derived.Test.YtojjnfhgldjgbaaGreatDoorNtO
import Derived.Test.YtojjnfhgldjgbaaGreatDoorNtP
import Derived.Test.YtojjnfhgldjgbaaGreatDoorNtQ
section
set_option linter.unusedVariables false
set_option linter.unusedSimpArgs false
namespace Go.Proofs.YtojjnfhgldjgbaaGreatDoor.Watch
open Go.RowKit Go.Por Go.Sort

set_option maxRecDepth 100000 in
set_option maxHeartbeats 3200000 in
theorem symGen_row {w : World} {g cap L : Nat} {P X Y S : List RowT} (h : OwnS rowC 5 w 63 (.slice (some ⟨g, 0, none⟩) L cap) (P ++ (X ++ (Y ++ S)))) (hl : L < 2305843009213693952) (hL : L = P.length + X.length + Y.length + S.length) (hX : 2 ≤ X.length) (hY : 2 ≤ Y.length) (hsX : Stab.Sorted (ltOf rcmp) X) (hsY : Stab.Sorted (ltOf rcmp) Y) (a m b : Nat) (ha : a = P.length) (hm : m = P.length + X.length) (hb : b = P.length + X.length + Y.length)
    (IH : ∀ (w : World) (P X1 Y1 S : List RowT) (a m b : Nat), X1.length + Y1.length < X.length + Y.length → OwnS rowC 5 w 63 (.slice (some ⟨g, 0, none⟩) L cap) (P ++ (X1 ++ (Y1 ++ S))) → L = P.length + X1.length + Y1.length + S.length → 1 ≤ X1.length → 1 ≤ Y1.length → Stab.Sorted (ltOf rcmp) X1 → Stab.Sorted (ltOf rcmp) Y1 → a = P.length → m = P.length + X1.length → b = P.length + X1.length + Y1.length →
      Calls Tryz.prog 110 #[.slice (some ⟨g, 0, none⟩) L cap, .int .i64 (a : Int), .int .i64 (m : Int), .int .i64 (b : Int), .func (.func 42) #[] #[]] w fun e w' =>
        e = .returned (.tuple #[]) ∧ ∃ Z : List RowT, Stab.Sorted (ltOf rcmp) Z ∧ Stab.Stab (ltOf rcmp) (X1 ++ Y1) Z ∧ OwnS rowC 5 w' 63 (.slice (some ⟨g, 0, none⟩) L cap) (P ++ (Z ++ S)) ∧ Mod (fun x => x = g) w w')
    (M s0 r0 : Nat) (hM : M = (a + b) / 2) (hk : (M < m ∧ s0 + b = M + m ∧ r0 = M) ∨ (m ≤ M ∧ s0 = a ∧ r0 = m)) :
    Calls Tryz.prog 110 #[.slice (some ⟨g, 0, none⟩) L cap, .int .i64 (a : Int), .int .i64 (m : Int), .int .i64 (b : Int), .func (.func 42) #[] #[]] w fun e w' =>
      e = .returned (.tuple #[]) ∧ ∃ Z : List RowT, Stab.Sorted (ltOf rcmp) Z ∧ Stab.Stab (ltOf rcmp) (X ++ Y) Z ∧ OwnS rowC 5 w' 63 (.slice (some ⟨g, 0, none⟩) L cap) (P ++ (Z ++ S)) ∧ Mod (fun x => x = g) w w' := by
  have q : ((m : Int) - (a : Int) == (1 : Int)) = false := by rw [beq_eq_false_iff_ne]; omega
  have q2 : ((b : Int) - (m : Int) == (1 : Int)) = false := by rw [beq_eq_false_iff_ne]; omega
  have hm1 : (m : Int) < 2305843009213693952 := by omega
  have ha1 : (a : Int) < 2305843009213693952 := by omega
  have hb1 : (b : Int) < 2305843009213693952 := by omega
  have hM1 : (M : Int) < 2305843009213693952 := by omega
  have hd : ((a : Int) + (b : Int)) / 2 = (M : Int) := by omega
  have hn : (M : Int) + (m : Int) = ((M + m : Nat) : Int) := by omega
  obtain ⟨N, hN⟩ : ∃ N, M + m = N := ⟨_, rfl⟩
  rw [hN] at hn
  have hN1 : (N : Int) < 4611686018427387904 := by omega
  have hS0 : (N : Int) - (b : Int) = (s0 : Int) ∨ m ≤ M := by omega
  have HH := Lib.hid (And.intro h (And.intro hL (And.intro ha (And.intro hm (And.intro hb (And.intro hX (And.intro hY (And.intro hsX (And.intro hsY (And.intro hM hN))))))))))
  have HIH := Lib.hid IH
  clear h hL ha hm hb hX hY hsX hsY hM IH
  go_enter Tryz.func110, Tryz.ntmps110
  have HW := Lib.hid hk
  clear hk hN
  go_upto_if 140 with fail
  go_cut [20, 21] (fun vs vr wx => vs = .int .i64 (s0 : Int) ∧ vr = .int .i64 (r0 : Int) ∧ w = wx)
  case first =>
    rcases HW.out with ⟨hk1, hk2, hk3⟩ | ⟨hk1, hk2, hk3⟩
    · have kk : (M : Int) < (m : Int) := by omega
      have hS0' : (N : Int) - (b : Int) = (s0 : Int) := by have := HH.out; omega
      subst hk3
      have hdec : decide (r0 < m) = true := decide_eq_true (by omega)
      rw [hdec]
      clear hS0 hk1 hk2 hdec kk
      go_wp2
      go_meet
      case rel => exact ⟨rfl, rfl, rfl⟩
    · have kk : ¬ (M : Int) < (m : Int) := by omega
      subst hk2 hk3
      have hdec : decide (M < r0) = false := decide_eq_false (by omega)
      rw [hdec]
      clear hS0 hk1 hdec kk
      go_wp2
      go_meet
      case rel => exact ⟨rfl, rfl, rfl⟩
  case rest =>
    obtain ⟨rfl, rfl, rfl⟩ := hcut
    clear hS0
    go_wp2_with fail
    go_loopg [20, 21] r0 (fun gg vi vj wx => ∃ s r : Nat, vi = .int .i64 (s : Int) ∧ vj = .int .i64 (r : Int) ∧ s0 ≤ s ∧ s ≤ r ∧ r ≤ r0 ∧ r - s ≤ gg ∧ (s = s0 ∨ ∃ x y, a + 1 ≤ s ∧ X[s - a - 1]? = some x ∧ Y[M - s]? = some y ∧ ltOf rcmp y x = false) ∧ (r = r0 ∨ ∃ x y, r + 1 ≤ M ∧ X[r - a]? = some x ∧ Y[M - r - 1]? = some y ∧ ltOf rcmp y x = true) ∧ Gr w wx)
    case atStart => exact ⟨s0, r0, by first | rfl | (congr 1; have := HW.out; omega), by first | rfl | (congr 1; have := HW.out; omega), Nat.le_refl _, by have := HW.out; have := HH.out; omega, Nat.le_refl _, by omega, .inl rfl, .inl rfl, Gr.refl w⟩
    case round =>
      obtain ⟨s, r, rfl, rfl, hs0, hsr, hr0, hrg, hlo, hup, hgr⟩ := hrel
      have HI := Lib.hid (And.intro hs0 (And.intro hsr (And.intro hr0 (And.intro hrg (And.intro hlo (And.intro hup hgr))))))
      by_cases hc : s < r
      · obtain ⟨k, hkk⟩ : ∃ k, (s + r) / 2 = k := ⟨_, rfl⟩
        obtain ⟨hh1, hh2, hh3, hh4, hh5, hh6, hh7, hh8, hh9, hh10, hh11⟩ := HH.out
        have hW := HW.out
        have hki : s ≤ k := by omega
        have hkj : k < r := by omega
        have hak : a ≤ k := by omega
        have hkm : k < m := by omega
        have hkM : k < M := by omega
        have hkY : M - k - 1 < Y.length := by omega
        have huv : (s : Int) < (r : Int) := by omega
        have u1 : (s : Int) < 4611686018427387904 := by omega
        have v1 : (r : Int) < 4611686018427387904 := by omega
        have hd : ((s : Int) + (r : Int)) / 2 = (k : Int) := by omega
        obtain ⟨p, hp⟩ : ∃ p, N - 1 - k = p := ⟨_, rfl⟩
        have hpp : (N : Int) - 1 - (k : Int) = (p : Int) := by omega
        have h0 : (0 : Int) ≤ (k : Int) := by omega
        have h1 : (k : Int) < (L : Int) := by omega
        have h2 : (0 : Int) ≤ (p : Int) := by omega
        have h3 : (p : Int) < (L : Int) := by omega
        have h4 : IntKind.i64.wrap (p : Int) = (p : Int) := by simp [IntKind.wrap, IntKind.bits, IntKind.signed]; omega
        obtain ⟨x, hx⟩ : ∃ x, X[k - a]? = some x := ⟨_, List.getElem?_eq_getElem (by omega)⟩
        obtain ⟨y, hy⟩ : ∃ y, Y[M - k - 1]? = some y := ⟨_, List.getElem?_eq_getElem (by omega)⟩
        have hxL : (P ++ (X ++ (Y ++ S)))[k]? = some x := by
          rw [List.getElem?_append_right (by omega), List.getElem?_append_left (by omega), ← hh3, hx]
        have hyL : (P ++ (X ++ (Y ++ S)))[p]? = some y := by
          rw [List.getElem?_append_right (by omega), List.getElem?_append_right (by omega), List.getElem?_append_left (by omega), show p - P.length - X.length = M - k - 1 by omega, hy]
        obtain ⟨cx, hcx⟩ : ∃ cx, rowC x = cx := ⟨_, rfl⟩
        obtain ⟨cy, hcy⟩ : ∃ cy, rowC y = cy := ⟨_, rfl⟩
        have ho := fun w => row_order y x w
        obtain ⟨n, hn⟩ : ∃ n, rcmp y x = n := ⟨_, rfl⟩
        have HN := Lib.hid hn
        rw [hcx, hcy, hn] at ho
        clear hn
        have HO := Lib.hid ho
        have HC := Lib.hid (And.intro hki (And.intro hkj (And.intro hak (And.intro hkm (And.intro hkM (And.intro hkk (And.intro hx (And.intro hxL (And.intro hyL (And.intro hcx (And.intro hcy hy)))))))))))
        have HD := Lib.hid (show OwnS rowC 5 wr.drew 63 (.slice (some ⟨g, 0, none⟩) L cap) (P ++ (X ++ (Y ++ S))) from OwnS.gr hh1 hgr.drew)
        clear hki hkj hak hkm hkM hkY hkk hs0 hsr hr0 hrg hlo hup hgr hc hx hy hyL hxL hcx hcy ho hh1 hh2 hh3 hh4 hh5 hh6 hh7 hh8 hh9 hh10 hh11 hW hp
        go_wp2_with fail
        clear hd
        refine wp_region_held_drew (S := fun w' => Gr wr.drew w') (by kernel_rfl) (Gr.refl _) (fun hS => ?_)
        refine takeD (i := 0) rfl (by kernel_rfl) (by kernel_rfl) (by kernel_rfl) (fun _ _ _ h => h) hS (Or.inl ⟨by rfl, fun w hSw => by go_simp; rfl⟩) ?_
        simp only [Act.put, List.setIfInBounds_toArray, List.set_cons_zero, List.set_cons_succ]
        refine takeD (i := 1) rfl (by kernel_rfl) (by kernel_rfl) (by kernel_rfl) (fun _ _ _ h => h) hS (Or.inl ⟨by rfl, fun w hSw => by go_simp; rfl⟩) ?_
        simp only [Act.put, List.setIfInBounds_toArray, List.set_cons_zero, List.set_cons_succ]
        refine takeD (i := 2) rfl (by kernel_rfl) (by kernel_rfl) (by kernel_rfl) (fun _ _ _ h => h) hS (Or.inl ⟨by rfl, fun w hSw => by go_simp; rfl⟩) ?_
        simp only [Act.put, List.setIfInBounds_toArray, List.set_cons_zero, List.set_cons_succ]
        refine takeD (i := 3) rfl (by kernel_rfl) (by kernel_rfl) (by kernel_rfl) (fun _ _ _ h => h) hS (Or.inl ⟨by rfl, fun w hSw => by go_simp; rfl⟩) ?_
        simp only [Act.put, List.setIfInBounds_toArray, List.set_cons_zero, List.set_cons_succ]
        refine takeD (i := 4) rfl (by kernel_rfl) (by kernel_rfl) (by kernel_rfl) (fun _ _ _ h => h) hS (Or.inl ⟨by rfl, fun w hSw => by go_simp; rfl⟩) ?_
        simp only [Act.put, List.setIfInBounds_toArray, List.set_cons_zero, List.set_cons_succ]
        refine takeD (i := 5) rfl (by kernel_rfl) (by kernel_rfl) (by kernel_rfl) (fun _ _ _ h => h) hS (Or.inl ⟨by rfl, fun w hSw => by go_simp; rfl⟩) ?_
        simp only [Act.put, List.setIfInBounds_toArray, List.set_cons_zero, List.set_cons_succ]
        refine takeD (i := 6) rfl (by kernel_rfl) (by kernel_rfl) (by kernel_rfl) (fun _ _ _ h => h) hS (yieldsIf_load_mid (by rfl) 63 (.tmp 163) rfl g (p * 5) rfl cy _ (fun w hSw => by rw [← HC.out.2.2.2.2.2.2.2.2.2.2.1]; exact OwnS.range rowC_len (OwnS.gr HD.out hSw) HC.out.2.2.2.2.2.2.2.2.1) Tryz.underlying63 rfl (by rw [← HC.out.2.2.2.2.2.2.2.2.2.2.1]; exact infoR)) ?_
        simp only [Act.put, List.setIfInBounds_toArray, List.set_cons_zero, List.set_cons_succ]
        refine takeD (i := 7) rfl (by kernel_rfl) (by kernel_rfl) (by kernel_rfl) (fun _ _ _ h => h) hS (Or.inl ⟨by rfl, fun w hSw => by go_simp; rfl⟩) ?_
        simp only [Act.put, List.setIfInBounds_toArray, List.set_cons_zero, List.set_cons_succ]
        refine takeD (i := 8) rfl (by kernel_rfl) (by kernel_rfl) (by kernel_rfl) (fun _ _ _ h => h) hS (Or.inl ⟨by rfl, fun w hSw => by go_simp; rfl⟩) ?_
        simp only [Act.put, List.setIfInBounds_toArray, List.set_cons_zero, List.set_cons_succ]
        refine takeD (i := 9) rfl (by kernel_rfl) (by kernel_rfl) (by kernel_rfl) (fun _ _ _ h => h) hS (Or.inl ⟨by rfl, fun w hSw => by go_simp; rfl⟩) ?_
        simp only [Act.put, List.setIfInBounds_toArray, List.set_cons_zero, List.set_cons_succ]
        refine takeD (i := 10) rfl (by kernel_rfl) (by kernel_rfl) (by kernel_rfl) (fun _ _ _ h => h) hS (yieldsIf_load_mid (by rfl) 63 (.tmp 167) rfl g (k * 5) rfl cx _ (fun w hSw => by rw [← HC.out.2.2.2.2.2.2.2.2.2.1]; exact OwnS.range rowC_len (OwnS.gr HD.out hSw) HC.out.2.2.2.2.2.2.2.1) Tryz.underlying63 rfl (by rw [← HC.out.2.2.2.2.2.2.2.2.2.1]; exact infoR)) ?_
        simp only [Act.put, List.setIfInBounds_toArray, List.set_cons_zero, List.set_cons_succ]
        refine wpAnyH_ready (rs := [11]) (by kernel_rfl) (by simp) ?_
        refine consD (i := 11) rfl (fun K hK => ?_) AllReadyH.nil
        rw [if_pos (by rfl)]
        go_simp
        ((with_reducible refine (HO.out _).mono ?_); rintro e w2 ⟨rfl, hg2⟩)
        dsimp only
        refine hK.out _ _ (hS.trans hg2) (fun hS => ?_)
        clear hK K
        refine takeD (i := 12) rfl (by kernel_rfl) (by kernel_rfl) (by kernel_rfl) (fun _ _ _ h => h) hS (Or.inl ⟨by rfl, fun w hSw => by go_simp; rfl⟩) ?_
        simp only [Act.put, List.setIfInBounds_toArray, List.set_cons_zero, List.set_cons_succ]
        refine takeD (i := 13) rfl (by kernel_rfl) (by kernel_rfl) (by kernel_rfl) (fun _ _ _ h => h) hS (Or.inl ⟨by rfl, fun w hSw => by go_simp; rfl⟩) ?_
        simp only [Act.put, List.setIfInBounds_toArray, List.set_cons_zero, List.set_cons_succ]
        refine wpAnyH_done (by kernel_rfl) ?_ _
        by_cases hq : n < 0
        · have hlt : ltOf rcmp y x = true := by rw [← HN.out] at hq; simp [ltOf, hq]
          have HQ := Lib.hid (And.intro hlt hS)
          have hdec : decide (n < 0) = true := by simp [hq]
          rw [hdec]
          clear hlt hg2 hS hdec hq
          simp only [Bool.not_true]
          go_wp2
          go_roundg (k - s)
          case measure => have h1 := HI.out; have h2 := HC.out; omega
          case rel =>
            obtain ⟨i1, i2, i3, i4, i5, i6, i7⟩ := HI.out
            obtain ⟨c1, c2, c3, c4, c5, c6, c7, c8, c9, c10, c11, c12⟩ := HC.out
            exact ⟨s, k, rfl, rfl, i1, c1, by omega, Nat.le_refl _, i5, .inr ⟨x, y, by omega, c7, c12, HQ.out.1⟩, (i7.drew).trans HQ.out.2⟩
        · have hlt : ltOf rcmp y x = false := by rw [← HN.out] at hq; simp [ltOf, hq]
          have HQ := Lib.hid (And.intro hlt hS)
          have hdec : decide (n < 0) = false := by simp [hq]
          rw [hdec]
          clear hlt hg2 hS hdec hq
          simp only [Bool.not_false]
          go_wp2
          go_roundg (r - (k + 1))
          case measure => have h1 := HI.out; have h2 := HC.out; omega
          case rel =>
            obtain ⟨i1, i2, i3, i4, i5, i6, i7⟩ := HI.out
            obtain ⟨c1, c2, c3, c4, c5, c6, c7, c8, c9, c10, c11, c12⟩ := HC.out
            refine ⟨k + 1, r, by congr 1, rfl, by omega, by omega, i3, Nat.le_refl _, .inr ⟨x, y, by omega, ?_, ?_, HQ.out.1⟩, i6, (i7.drew).trans HQ.out.2⟩
            · rw [show k + 1 - a - 1 = k - a by omega]; exact c7
            · rw [show M - (k + 1) = M - k - 1 by omega]; exact c12
      · obtain rfl : s = r := by omega
        obtain ⟨hh1, hh2, hh3, hh4, hh5, hh6, hh7, hh8, hh9, hh10, hh11⟩ := HH.out
        have hW := HW.out
        have hcut0 := Stab.cut_ok rowSwo hh8 hh9 (s - a) (M - s) (by
          rcases hlo with hlo | hlo
          · rcases hW with hW | hW
            · exact .inr (.inl (by omega))
            · exact .inl (by omega)
          · obtain ⟨x, y, h1, h2, h3, h4⟩ := hlo
            exact .inr (.inr ⟨x, y, by omega, h2, h3, h4⟩)) (by
          rcases hup with hup | hup
          · rcases hW with hW | hW
            · exact .inr (.inl (by omega))
            · exact .inl (by omega)
          · obtain ⟨x, y, h1, h2, h3, h4⟩ := hup
            exact .inr (.inr ⟨x, y, by omega, h2, h3, h4⟩))
        obtain ⟨X1, hX1⟩ : ∃ X1, X.take (s - a) = X1 := ⟨_, rfl⟩
        obtain ⟨X2, hX2⟩ : ∃ X2, X.drop (s - a) = X2 := ⟨_, rfl⟩
        obtain ⟨Y1, hY1⟩ : ∃ Y1, Y.take (M - s) = Y1 := ⟨_, rfl⟩
        obtain ⟨Y2, hY2⟩ : ∃ Y2, Y.drop (M - s) = Y2 := ⟨_, rfl⟩
        have eX : X = X1 ++ X2 := by rw [← hX1, ← hX2, List.take_append_drop]
        have eY : Y = Y1 ++ Y2 := by rw [← hY1, ← hY2, List.take_append_drop]
        have l1 : X1.length = s - a := by rw [← hX1, List.length_take]; omega
        have l2 : X2.length = X.length - (s - a) := by rw [← hX2, List.length_drop]
        have l3 : Y1.length = M - s := by rw [← hY1, List.length_take]; omega
        have l4 : Y2.length = Y.length - (M - s) := by rw [← hY2, List.length_drop]
        rw [hX1, hX2, hY1, hY2] at hcut0
        obtain ⟨e, he⟩ : ∃ e, N - s = e := ⟨_, rfl⟩
        have he1 : (N : Int) - (s : Int) = (e : Int) := by omega
        have p1 : s = P.length + X1.length := by omega
        have p2 : m = s + X2.length := by omega
        have p3 : M = s + Y1.length := by omega
        have p4 : e = m + Y1.length := by omega
        have p5 : e = M + X2.length := by omega
        have p6 : b = e + Y2.length := by omega
        have pw : X1.length + X2.length = X.length ∧ Y1.length + Y2.length = Y.length := by omega
        have hown : OwnS rowC 5 wr 63 (.slice (some ⟨g, 0, none⟩) L cap) (P ++ ((X1 ++ X2) ++ ((Y1 ++ Y2) ++ S))) := by
          rw [← eX, ← eY]
          exact OwnS.gr hh1 hgr
        have HT := Lib.hid (And.intro p1 (And.intro p2 (And.intro p3 (And.intro p4 (And.intro p5 (And.intro p6 pw))))))
        have HS := Lib.hid (And.intro hcut0 (And.intro eX eY))
        have HU := Lib.hid (And.intro hown (hgr.mod (S := fun x => x = g)))
        have huu : ¬ (s : Int) < (s : Int) := by omega
        have e1 : (e : Int) < 4611686018427387904 := by omega
        have s1 : (s : Int) < 4611686018427387904 := by omega
        clear hs0 hsr hr0 hrg hlo hup hgr hc hW hcut0 hX1 hX2 hY1 hY2 eX eY l1 l2 l3 l4 he p1 p2 p3 p4 p5 p6 pw hown hh1 hh2 hh3 hh4 hh5 hh6 hh7 hh8 hh9 hh10 hh11 HI
        go_upto_region 39 with fail
        go_cut [185] (fun v wx => ∃ bb : Bool, v = .bool bb ∧ (bb = true ↔ (1 ≤ X2.length ∧ 1 ≤ Y1.length)) ∧ wx = wr)
        case first =>
          have ht := HT.out
          by_cases c1 : 1 ≤ X2.length
          · have d1 : (s : Int) < (m : Int) := by omega
            by_cases c2 : 1 ≤ Y1.length
            · have d2 : (m : Int) < (e : Int) := by omega
              have HC := Lib.hid (And.intro c1 c2)
              clear ht c1 c2
              go_wp2
              go_meet
              case rel => exact ⟨_, rfl, by have := HC.out; simp only [true_iff, decide_eq_true_eq]; omega, rfl⟩
            · have d2 : ¬ (m : Int) < (e : Int) := by omega
              have HC := Lib.hid (And.intro c1 c2)
              clear ht c1 c2
              go_wp2
              go_meet
              case rel => exact ⟨_, rfl, by have := HC.out; simp only [Bool.false_eq_true, false_iff, decide_eq_true_eq]; omega, rfl⟩
          · have d1 : ¬ (s : Int) < (m : Int) := by omega
            have HC := Lib.hid c1
            clear ht c1
            go_wp2
            go_meet
            case rel => exact ⟨_, rfl, by have := HC.out; simp only [Bool.false_eq_true, false_iff, decide_eq_true_eq]; omega, rfl⟩
        case rest =>
          obtain ⟨bb, rfl, hbb, rfl⟩ := hcut
          have HB := Lib.hid hbb
          clear hbb
          go_upto_if 185 with fail
          go_cut [] (fun wx => OwnS rowC 5 wx 63 (.slice (some ⟨g, 0, none⟩) L cap) (P ++ (X1 ++ (Y1 ++ (X2 ++ (Y2 ++ S))))) ∧ Mod (fun x => x = g) w wx)
          case first =>
            cases bb with
            | false =>
              go_wp2
              go_meet
              case rel =>
                have hb := HB.out
                have hown := HU.out.1
                refine ⟨?_, HU.out.2⟩
                simp only [Bool.false_eq_true, false_iff] at hb
                rcases (show X2.length = 0 ∨ Y1.length = 0 by omega) with h0 | h0
                · rw [List.length_eq_zero_iff.1 h0] at hown ⊢; simpa using hown
                · rw [List.length_eq_zero_iff.1 h0] at hown ⊢; simpa using hown
            | true =>
              have hb := HB.out.1 rfl
              go_wp2_with fail
              obtain ⟨t1, t2, t3, t4, t5, t6, t7, t8⟩ := HT.out
              have hh := HH.out.2
              refine (rotate_row (w := wc) (g := g) (cap := cap) (L := L) (P := P ++ X1) (X := X2) (Y := Y1) (S := Y2 ++ S) (by have := HU.out.1; simpa using this) (by omega) (by simp only [List.length_append]; omega) hb.1 hb.2 _ _ _ _ (by rw [List.length_append]; omega) (by rw [List.length_append]; omega) (by rw [List.length_append]; omega)).mono ?_
              rintro e w2 ⟨rfl, hown2, hm2⟩
              have H2 := Lib.hid (And.intro hown2 hm2)
              clear hown2 hm2 hh t1 t2 t3 t4 t5 t6 t7 t8
              go_wp2
              go_meet
              case rel => exact ⟨by have := H2.out.1; simpa using this, HU.out.2.trans' H2.out.2⟩
          case rest =>
            obtain ⟨hown1, hmod1⟩ := hcut
            have HV := Lib.hid (And.intro hown1 hmod1)
            clear hown1 hmod1 HU HB
            as_aux_lemma =>
            go_upto_region 41 with fail
            go_cut [199] (fun v wx => ∃ bb : Bool, v = .bool bb ∧ (bb = true ↔ (1 ≤ X1.length ∧ 1 ≤ Y1.length)) ∧ wx = wc)
            case first =>
              have ht := HT.out
              have hh := HH.out.2.2.1
              by_cases c1 : 1 ≤ X1.length
              · have d1 : (a : Int) < (s : Int) := by omega
                by_cases c2 : 1 ≤ Y1.length
                · have d2 : (s : Int) < (M : Int) := by omega
                  have HC := Lib.hid (And.intro c1 c2)
                  clear ht c1 c2 hh
                  go_wp2
                  go_meet
                  case rel => exact ⟨_, rfl, by have := HC.out; simp only [true_iff, decide_eq_true_eq]; omega, rfl⟩
                · have d2 : ¬ (s : Int) < (M : Int) := by omega
                  have HC := Lib.hid (And.intro c1 c2)
                  clear ht c1 c2 hh
                  go_wp2
                  go_meet
                  case rel => exact ⟨_, rfl, by have := HC.out; simp only [Bool.false_eq_true, false_iff, decide_eq_true_eq]; omega, rfl⟩
              · have d1 : ¬ (a : Int) < (s : Int) := by omega
                have HC := Lib.hid c1
                clear ht c1 hh
                go_wp2
                go_meet
                case rel => exact ⟨_, rfl, by have := HC.out; simp only [Bool.false_eq_true, false_iff, decide_eq_true_eq]; omega, rfl⟩
            case rest =>
              obtain ⟨bb, rfl, hbb, rfl⟩ := hcut
              have HB := Lib.hid hbb
              clear hbb
              go_upto_if 199 with fail
              go_cut [] (fun wx => ∃ Z1 : List RowT, Stab.Sorted (ltOf rcmp) Z1 ∧ Stab.Stab (ltOf rcmp) (X1 ++ Y1) Z1 ∧ OwnS rowC 5 wx 63 (.slice (some ⟨g, 0, none⟩) L cap) (P ++ (Z1 ++ (X2 ++ (Y2 ++ S)))) ∧ Mod (fun x => x = g) w wx)
              case first =>
                have hsX := HH.out.2.2.2.2.2.2.2.1
                have hsY := HH.out.2.2.2.2.2.2.2.2.1
                rw [HS.out.2.1] at hsX
                rw [HS.out.2.2] at hsY
                have HZ := Lib.hid (And.intro hsX hsY)
                clear hsX hsY
                cases bb with
                | false =>
                  go_wp2
                  go_meet
                  case rel =>
                    have hb := HB.out
                    have hown := HV.out.1
                    simp only [Bool.false_eq_true, false_iff] at hb
                    rcases (show X1.length = 0 ∨ Y1.length = 0 by omega) with h0 | h0
                    · have h0' := List.length_eq_zero_iff.1 h0
                      refine ⟨Y1, HZ.out.2.left, by rw [h0']; exact Stab.Stab.refl _, ?_, HV.out.2⟩
                      rw [h0'] at hown; simpa using hown
                    · have h0' := List.length_eq_zero_iff.1 h0
                      refine ⟨X1, HZ.out.1.left, by rw [h0', List.append_nil]; exact Stab.Stab.refl _, ?_, HV.out.2⟩
                      rw [h0'] at hown; simpa using hown
                | true =>
                  have hb := HB.out.1 rfl
                  go_wp2_with fail
                  obtain ⟨t1, t2, t3, t4, t5, t6, t7, t8⟩ := HT.out
                  have hh := HH.out.2
                  refine (HIH.out wc P X1 Y1 (X2 ++ (Y2 ++ S)) a s M (by omega) HV.out.1 (by simp only [List.length_append]; omega) hb.1 hb.2 HZ.out.1.left HZ.out.2.left (by omega) (by omega) (by omega)).mono ?_
                  rintro e w2 ⟨rfl, Z1, hz1, hz2, hown2, hm2⟩
                  have H2 := Lib.hid (And.intro hz1 (And.intro hz2 (And.intro hown2 hm2)))
                  clear hown2 hm2 hh t1 t2 t3 t4 t5 t6 t7 t8 hz1 hz2
                  go_wp2
                  go_meet
                  case rel => exact ⟨Z1, H2.out.1, H2.out.2.1, H2.out.2.2.1, HV.out.2.trans' H2.out.2.2.2⟩
              case rest =>
                obtain ⟨Z1, hz1, hz2, hown1, hmod1⟩ := hcut
                have HW2 := Lib.hid (And.intro hz1 (And.intro hz2 (And.intro hown1 hmod1)))
                clear hown1 hmod1 hz1 hz2 HV HB
                go_upto_region 43 with fail
                go_cut [213] (fun v wx => ∃ bb : Bool, v = .bool bb ∧ (bb = true ↔ (1 ≤ X2.length ∧ 1 ≤ Y2.length)) ∧ wx = wc)
                case first =>
                  have ht := HT.out
                  have hh := HH.out.2.2.1
                  by_cases c1 : 1 ≤ X2.length
                  · have d1 : (M : Int) < (e : Int) := by omega
                    by_cases c2 : 1 ≤ Y2.length
                    · have d2 : (e : Int) < (b : Int) := by omega
                      have HC := Lib.hid (And.intro c1 c2)
                      clear ht c1 c2 hh
                      go_wp2
                      go_meet
                      case rel => exact ⟨_, rfl, by have := HC.out; simp only [true_iff, decide_eq_true_eq]; omega, rfl⟩
                    · have d2 : ¬ (e : Int) < (b : Int) := by omega
                      have HC := Lib.hid (And.intro c1 c2)
                      clear ht c1 c2 hh
                      go_wp2
                      go_meet
                      case rel => exact ⟨_, rfl, by have := HC.out; simp only [Bool.false_eq_true, false_iff, decide_eq_true_eq]; omega, rfl⟩
                  · have d1 : ¬ (M : Int) < (e : Int) := by omega
                    have HC := Lib.hid c1
                    clear ht c1 hh
                    go_wp2
                    go_meet
                    case rel => exact ⟨_, rfl, by have := HC.out; simp only [Bool.false_eq_true, false_iff, decide_eq_true_eq]; omega, rfl⟩
                case rest =>
                  obtain ⟨bb, rfl, hbb, rfl⟩ := hcut
                  have HB := Lib.hid hbb
                  clear hbb
                  go_upto_if 213 with fail
                  have hsX := HH.out.2.2.2.2.2.2.2.1
                  have hsY := HH.out.2.2.2.2.2.2.2.2.1
                  rw [HS.out.2.1] at hsX
                  rw [HS.out.2.2] at hsY
                  have HZ := Lib.hid (And.intro hsX hsY)
                  clear hsX hsY
                  cases bb with
                  | false =>
                    go_wp2
                    (try simp only [Exit.inBlock, Exit.then])
                    refine bodyPost_end (results_none rfl _ _ _) rfl ?_
                    have hb := HB.out
                    obtain ⟨z1, z2, hown, hmod⟩ := HW2.out
                    simp only [Bool.false_eq_true, false_iff] at hb
                    have h4 : ∃ Z2 : List RowT, X2 ++ Y2 = Z2 ∧ Stab.Sorted (ltOf rcmp) Z2 := by
                      refine ⟨_, rfl, ?_⟩
                      rcases (show X2.length = 0 ∨ Y2.length = 0 by omega) with h0 | h0
                      · rw [List.length_eq_zero_iff.1 h0, List.nil_append]; exact HZ.out.2.right
                      · rw [List.length_eq_zero_iff.1 h0, List.append_nil]; exact HZ.out.1.right
                    obtain ⟨Z2, hZ2, hs2⟩ := h4
                    have hf := Stab.four rowSwo HZ.out.1 HZ.out.2 HS.out.1.1 HS.out.1.2 z1 z2 hs2 (by rw [hZ2]; exact Stab.Stab.refl _)
                    rw [← HS.out.2.1, ← HS.out.2.2] at hf
                    refine ⟨rfl, _, hf.1, hf.2, ?_, hmod⟩
                    rw [← hZ2]
                    simpa using hown
                  | true =>
                    have hb := HB.out.1 rfl
                    go_wp2_with fail
                    obtain ⟨z1, z2, hown, hmod⟩ := HW2.out
                    obtain ⟨cur, _, _, _, hlen, _⟩ := hown.block
                    simp only [List.length_append] at hlen
                    obtain ⟨t1, t2, t3, t4, t5, t6, t7, t8⟩ := HT.out
                    have hh := HH.out.2
                    have hZ1 : Z1.length = X1.length + Y1.length := by omega
                    refine (HIH.out wc (P ++ Z1) X2 Y2 S M e b (by omega) (by simpa using hown) (by simp only [List.length_append]; omega) hb.1 hb.2 HZ.out.1.right HZ.out.2.right (by rw [List.length_append]; omega) (by rw [List.length_append]; omega) (by rw [List.length_append]; omega)).mono ?_
                    rintro e w2 ⟨rfl, Z2, hz1, hz2, hown2, hm2⟩
                    have H2 := Lib.hid (And.intro hz1 (And.intro hz2 (And.intro hown2 hm2)))
                    clear hown2 hm2 hh t1 t2 t3 t4 t5 t6 t7 t8 hz1 hz2 hown hmod hlen hZ1 z1 z2
                    go_wp2
                    (try simp only [Exit.inBlock, Exit.then])
                    refine bodyPost_end (results_none rfl _ _ _) rfl ?_
                    obtain ⟨z1, z2, hown, hmod⟩ := HW2.out
                    obtain ⟨y1, y2, y3, y4⟩ := H2.out
                    have hf := Stab.four rowSwo HZ.out.1 HZ.out.2 HS.out.1.1 HS.out.1.2 z1 z2 y1 y2
                    rw [← HS.out.2.1, ← HS.out.2.2] at hf
                    refine ⟨rfl, _, hf.1, hf.2, ?_, hmod.trans' y4⟩
                    simpa using y3
end Go.Proofs.YtojjnfhgldjgbaaGreatDoor.Watch
end
section
set_option linter.unusedVariables false
set_option linter.unusedSimpArgs false
namespace Go.Proofs.YtojjnfhgldjgbaaGreatDoor.Watch
open Go.RowKit Go.Por Go.Sort

/-- Two sorted parts, side by side, become one. -/
theorem symMerge_row {g cap L : Nat} (hl : L < 2305843009213693952) : ∀ (N : Nat) (w : World) (P X Y S : List RowT) (a m b : Nat), X.length + Y.length < N → OwnS rowC 5 w 63 (.slice (some ⟨g, 0, none⟩) L cap) (P ++ (X ++ (Y ++ S))) → L = P.length + X.length + Y.length + S.length → 1 ≤ X.length → 1 ≤ Y.length → Stab.Sorted (ltOf rcmp) X → Stab.Sorted (ltOf rcmp) Y → a = P.length → m = P.length + X.length → b = P.length + X.length + Y.length →
      Calls Tryz.prog 110 #[.slice (some ⟨g, 0, none⟩) L cap, .int .i64 (a : Int), .int .i64 (m : Int), .int .i64 (b : Int), .func (.func 42) #[] #[]] w fun e w' =>
        e = .returned (.tuple #[]) ∧ ∃ Z : List RowT, Stab.Sorted (ltOf rcmp) Z ∧ Stab.Stab (ltOf rcmp) (X ++ Y) Z ∧ OwnS rowC 5 w' 63 (.slice (some ⟨g, 0, none⟩) L cap) (P ++ (Z ++ S)) ∧ Mod (fun x => x = g) w w'
  | 0, _, _, _, _, _, _, _, _, hN, _, _, _, _, _, _, _, _, _ => absurd hN (Nat.not_lt_zero _)
  | N + 1, w, P, X, Y, S, a, m, b, hN, h, hL, hX, hY, hsX, hsY, ha, hm, hb => by
    rcases (show X.length = 1 ∨ (2 ≤ X.length ∧ Y.length = 1) ∨ (2 ≤ X.length ∧ 2 ≤ Y.length) by omega) with h1 | ⟨h1, h2⟩ | ⟨h1, h2⟩
    · obtain ⟨x, rfl⟩ := List.length_eq_one_iff.1 h1
      exact symOneL_row (P := P) (Y := Y) (S := S) (x := x) h (by omega) hL hY hsY a m b ha hm hb
    · obtain ⟨y, rfl⟩ := List.length_eq_one_iff.1 h2
      exact symOneR_row (P := P) (X := X) (S := S) (y := y) h (by omega) hL h1 hsX a m b ha hm hb
    · rcases (show (a + b) / 2 < m ∨ m ≤ (a + b) / 2 by omega) with hk | hk
      · exact symGen_row h hl hL h1 h2 hsX hsY a m b ha hm hb (fun w P X1 Y1 S a m b hlt => symMerge_row (g := g) (cap := cap) hl N w P X1 Y1 S a m b (by omega)) ((a + b) / 2) ((a + b) / 2 + m - b) _ rfl (.inl ⟨hk, by omega, rfl⟩)
      · exact symGen_row h hl hL h1 h2 hsX hsY a m b ha hm hb (fun w P X1 Y1 S a m b hlt => symMerge_row (g := g) (cap := cap) hl N w P X1 Y1 S a m b (by omega)) ((a + b) / 2) a m rfl (.inr ⟨hk, rfl, rfl⟩)

theorem agg_row : ∀ w, (isAgg 63).run Tryz.prog w = .ok true w := fun w => by kernel_rfl
theorem size_row : ∀ w, (Go.sizeOf 63).run Tryz.prog w = .ok 5 w := fun w => by kernel_rfl
theorem cells_row (x : RowT) : ∀ v ∈ rowC x, v.oneCell' = true := by
  intro v hv
  simp only [rowC, List.mem_cons, List.not_mem_nil, or_false] at hv
  rcases hv with rfl | rfl | rfl | rfl | rfl <;> rfl
/-- slices.insertionSortCmpFunc: a part is sorted, stably. -/
theorem ins_row {w : World} {g cap L : Nat} {P X S : List RowT} (h : OwnS rowC 5 w 63 (.slice (some ⟨g, 0, none⟩) L cap) (P ++ (X ++ S))) (hl : L < 2305843009213693952) (a b : Nat) (ha : a = P.length) (hb : b = P.length + X.length) :
    Calls Tryz.prog 109 #[.slice (some ⟨g, 0, none⟩) L cap, .int .i64 (a : Int), .int .i64 (b : Int), .func (.func 42) #[] #[]] w fun e w' =>
      e = .returned (.tuple #[]) ∧ ∃ Z : List RowT, Z.length = X.length ∧ Stab.Sorted (ltOf rcmp) Z ∧ Stab.Stab (ltOf rcmp) X Z ∧ OwnS rowC 5 w' 63 (.slice (some ⟨g, 0, none⟩) L cap) (P ++ (Z ++ S)) ∧ Mod (fun x => x = g) w w' := by
  subst ha hb
  have hL : L = (P ++ (X ++ S)).length := by obtain ⟨cur, _, _, _, e, _⟩ := h.block; exact e
  subst hL
  have eg : ∀ args w, (callFunc 42 args).run Tryz.prog w = .ok (.enter 42 args) w := enters_of Tryz.func42 (by kernel_rfl) rfl
  have hcon := AnyQ.insertionSortCmpFunc Tryz.laysInsRow 5 agg_row size_row rowC rowC_len cells_row rcmp 42 #[] g 0 cap P.length (P.length + X.length) (P ++ (X ++ S)).toArray w eg (fun _ _ _ _ x y => row_order x y _) (h.holds rowC_len) h.lt (by omega) (by simp only [List.size_toArray, List.length_append]; omega) (by rw [List.size_toArray]; omega)
  rw [List.size_toArray] at hcon
  refine hcon.mono ?_
  rintro e w' ⟨he, n, os, rfl⟩
  obtain ⟨Z, hZ, hn, hs, hst⟩ := Stab.ins_law rowSwo P X S
  have hlen : (P ++ (Z ++ S)).length = (P ++ (X ++ S)).length := by simp only [List.length_append, hn]
  have := h.sorted rowC_len (l' := P ++ (Z ++ S)) hlen n os
  have e2 : insertionSort (ltOf rcmp) (P ++ (X ++ S)).toArray P.length (P.length + X.length) = (P ++ (Z ++ S)).toArray := by rw [← hZ, Array.toArray_toList]
  rw [e2]
  exact ⟨he, Z, hn, hs, hst, this.1, this.2⟩

set_option maxRecDepth 100000 in
set_option maxHeartbeats 3200000 in
theorem stable_row {w : World} {g cap L : Nat} {l0 : List RowT} (h : OwnS rowC 5 w 63 (.slice (some ⟨g, 0, none⟩) L cap) l0) (hl : L < 576460752303423488) :
    Calls Tryz.prog 78 #[.slice (some ⟨g, 0, none⟩) L cap, .int .i64 (L : Int), .func (.func 42) #[] #[]] w fun e w' =>
      e = .returned (.tuple #[]) ∧ ∃ l : List RowT, Stab.Sorted (ltOf rcmp) l ∧ Stab.Stab (ltOf rcmp) l0 l ∧ OwnS rowC 5 w' 63 (.slice (some ⟨g, 0, none⟩) L cap) l ∧ Mod (fun x => x = g) w w' := by
  have hL : L = l0.length := by obtain ⟨cur, _, _, _, e, _⟩ := h.block; exact e
  have hLi : (L : Int) < 576460752303423488 := by omega
  have HH := Lib.hid (And.intro h (And.intro hL hl))
  clear h hL
  go_enter Tryz.func78, Tryz.ntmps78
  go_wp2
  go_loopg [7, 8] L (fun gg va vb wx => ∃ (k : Nat) (A B : List RowT), va = .int .i64 ((A.length : Nat) : Int) ∧ vb = .int .i64 ((A.length + 20 : Nat) : Int) ∧ A.length = k * 20 ∧ A.length + B.length = L ∧ L - A.length ≤ gg ∧ Stab.Blk (ltOf rcmp) 20 A ∧ Stab.Stab (ltOf rcmp) l0 (A ++ B) ∧ OwnS rowC 5 wx 63 (.slice (some ⟨g, 0, none⟩) L cap) (A ++ B) ∧ Mod (fun x => x = g) w wx)
  case atStart => exact ⟨0, [], l0, rfl, rfl, rfl, by simp [HH.out.2.1], by simp, Stab.Blk.nil _, Stab.Stab.refl _, HH.out.1, Mod.refl _ _⟩
  case round =>
    obtain ⟨k, A, B, rfl, rfl, hk, hAB, hgk, hblk, hst, hown, hmod⟩ := hrel
    obtain ⟨u, hu⟩ : ∃ u, A.length = u := ⟨_, rfl⟩
    obtain ⟨v, hv⟩ : ∃ v, A.length + 20 = v := ⟨_, rfl⟩
    rw [hv, hu]
    have HI := Lib.hid (And.intro hk (And.intro hAB (And.intro hgk (And.intro hblk (And.intro hst (And.intro hown (And.intro hmod (And.intro hu hv))))))))
    by_cases hc : v ≤ L
    · have hc' : (v : Int) ≤ (L : Int) := by omega
      have hv1 : (v : Int) < 576460752303423488 := by omega
      have hcc := Lib.hid hc
      clear hk hAB hgk hblk hst hown hmod hu hv hc
      go_wp2_with fail
      obtain ⟨i1, i2, i3, i4, i5, i6, i7, i8, i9⟩ := HI.out
      have hc := hcc.out
      refine (ins_row (w := wr) (P := A) (X := B.take 20) (S := B.drop 20) (by rw [List.take_append_drop]; exact i6) (by omega) u v i8.symm (by rw [List.length_take]; omega)).mono ?_
      rintro e w2 ⟨rfl, Z, hn, hs, hst2, hown2, hm2⟩
      have H2 := Lib.hid (And.intro hn (And.intro hs (And.intro hst2 (And.intro hown2 hm2))))
      clear hn hs hst2 hown2 hm2 i1 i2 i3 i4 i5 i6 i7 i8 i9 hc
      go_wp2
      go_roundg (L - v)
      case measure => have h1 := HI.out; have h2 := hcc.out; omega
      case rel =>
        obtain ⟨i1, i2, i3, i4, i5, i6, i7, i8, i9⟩ := HI.out
        obtain ⟨k1, k2, k3, k4, k5⟩ := H2.out
        have hc := hcc.out
        rw [List.length_take] at k1
        have hZ : Z.length = 20 := by omega
        refine ⟨k + 1, A ++ Z, B.drop 20, ?_, ?_, ?_, ?_, ?_, Stab.Blk.append (k := k) i1 i4 (Stab.Blk.single (by omega) (by omega) k2), ?_, ?_, i7.trans' k5⟩
        · congr 1; rw [List.length_append]; omega
        · congr 1; rw [List.length_append]; omega
        · rw [List.length_append]; omega
        · rw [List.length_append, List.length_drop]; omega
        · rw [List.length_append]; omega
        · refine i5.trans ?_
          have e : A ++ B = A ++ (B.take 20 ++ B.drop 20) := by rw [List.take_append_drop]
          rw [e, List.append_assoc]
          exact Stab.Stab.append (Stab.Stab.refl _) (Stab.Stab.append k3 (Stab.Stab.refl _))
        · rw [List.append_assoc]; exact k4
    · have hc' : ¬ (v : Int) ≤ (L : Int) := by omega
      have hu1 : (u : Int) < 576460752303423488 := by omega
      have hcc := Lib.hid hc
      clear hk hAB hgk hblk hst hown hmod hu hv hc
      go_wp2_with fail
      obtain ⟨i1, i2, i3, i4, i5, i6, i7, i8, i9⟩ := HI.out
      refine (ins_row (w := wr) (P := A) (X := B) (S := []) (by rw [List.append_nil]; exact i6) (by omega) u L i8.symm (by omega)).mono ?_
      rintro e w2 ⟨rfl, Z, hn, hs, hst2, hown2, hm2⟩
      have hb : Stab.Blk (ltOf rcmp) 20 (A ++ Z) := Stab.Blk.append (k := k) i1 i4 (Stab.Blk.single (by omega) (by have := hcc.out; omega) hs)
      have hs3 : Stab.Stab (ltOf rcmp) l0 (A ++ Z) := i5.trans (Stab.Stab.append (Stab.Stab.refl _) hst2)
      rw [List.append_nil] at hown2
      have hm3 := i7.trans' hm2
      obtain ⟨l1, hl1⟩ : ∃ l1, A ++ Z = l1 := ⟨_, rfl⟩
      rw [hl1] at hb hs3 hown2
      have H2 := Lib.hid (And.intro hb (And.intro hs3 (And.intro hown2 hm3)))
      clear hn hs hst2 hown2 hm2 i1 i2 i3 i4 i5 i6 i7 i8 i9 hb hs3 hm3 hl1 HI hcc
      go_wp2
      go_loopg [6] L (fun gg vs wx => ∃ (bs : Nat) (l : List RowT), vs = .int .i64 (bs : Int) ∧ 20 ≤ bs ∧ L - bs ≤ gg ∧ Stab.Blk (ltOf rcmp) bs l ∧ Stab.Stab (ltOf rcmp) l0 l ∧ OwnS rowC 5 wx 63 (.slice (some ⟨g, 0, none⟩) L cap) l ∧ Mod (fun x => x = g) w wx)
      case atStart => exact ⟨20, l1, rfl, Nat.le_refl _, by omega, H2.out.1, H2.out.2.1, H2.out.2.2.1, H2.out.2.2.2⟩
      case round =>
        clear H2
        obtain ⟨bs, l, rfl, hbs, hgk, hblk, hst, hown, hmod⟩ := hrel
        have hlen : L = l.length := by obtain ⟨cur, _, _, _, e, _⟩ := hown.block; exact e
        by_cases hc : bs < L
        · have hci : (bs : Int) < (L : Int) := by omega
          obtain ⟨d2, hd2⟩ : ∃ d2, 2 * bs = d2 := ⟨_, rfl⟩
          have hd2i : 2 * (bs : Int) = (d2 : Int) := by omega
          have hd2j : (bs : Int) * 2 = (d2 : Int) := by omega
          have hbi : (bs : Int) < 576460752303423488 := by omega
          have hdi : (d2 : Int) < 1152921504606846976 := by omega
          have HO := Lib.hid (And.intro hbs (And.intro hgk (And.intro hblk (And.intro hst (And.intro hown (And.intro hmod (And.intro hlen (And.intro hc hd2))))))))
          clear hbs hgk hblk hst hown hmod hlen hc hd2
          go_wp2
          go_loopg [7, 8] L (fun gg va vb wx => ∃ (k : Nat) (A B : List RowT), va = .int .i64 ((A.length : Nat) : Int) ∧ vb = .int .i64 ((A.length + d2 : Nat) : Int) ∧ A.length = k * d2 ∧ A.length + B.length = L ∧ L - A.length ≤ gg ∧ Stab.Blk (ltOf rcmp) d2 A ∧ Stab.Blk (ltOf rcmp) bs B ∧ Stab.Stab (ltOf rcmp) l0 (A ++ B) ∧ OwnS rowC 5 wx 63 (.slice (some ⟨g, 0, none⟩) L cap) (A ++ B) ∧ Mod (fun x => x = g) w wx)
          case atStart =>
            obtain ⟨o1, o2, o3, o4, o5, o6, o7, o8, o9⟩ := HO.out
            exact ⟨0, [], l, rfl, by simp, by simp, by simp [o7], by simp, Stab.Blk.nil _, o3, o4, o5, o6⟩
          case round =>
            obtain ⟨k, A, B, rfl, rfl, hk, hAB, hgk, hblk, hblk2, hst, hown, hmod⟩ := hrel
            obtain ⟨u, hu⟩ : ∃ u, A.length = u := ⟨_, rfl⟩
            obtain ⟨v, hv⟩ : ∃ v, A.length + d2 = v := ⟨_, rfl⟩
            rw [hv, hu]
            have HI := Lib.hid (And.intro hk (And.intro hAB (And.intro hgk (And.intro hblk (And.intro hblk2 (And.intro hst (And.intro hown (And.intro hmod (And.intro hu hv)))))))))
            have hu1 : (u : Int) < 576460752303423489 := by omega
            have hv1 : (v : Int) < 1729382256910270464 := by omega
            by_cases hc : v ≤ L
            · have hc' : (v : Int) ≤ (L : Int) := by omega
              have hcc := Lib.hid hc
              clear hk hAB hgk hblk hblk2 hst hown hmod hu hv hc
              go_wp2_with fail
              obtain ⟨i1, i2, i3, i4, i5, i6, i7, i8, i9, i10⟩ := HI.out
              obtain ⟨o1, o2, o3, o4, o5, o6, o7, o8, o9⟩ := HO.out
              have hc := hcc.out
              have eB : B = B.take bs ++ ((B.drop bs).take bs ++ B.drop d2) := by
                conv => lhs; rw [← List.take_append_drop bs B, ← List.take_append_drop bs (B.drop bs), List.drop_drop]
                rw [show bs + bs = d2 by omega]
              have n1 : (B.take bs).length = bs := by rw [List.length_take]; omega
              have n2 : ((B.drop bs).take bs).length = bs := by rw [List.length_take, List.length_drop]; omega
              have n3 : (B.drop d2).length = B.length - d2 := by rw [List.length_drop]
              have hcall := symMerge_row (g := g) (cap := cap) (L := L) (by omega) (d2 + 1) wr A (B.take bs) ((B.drop bs).take bs) (B.drop d2) u (u + bs) v (by omega) (by rw [← eB]; exact i7) (by omega) (by omega) (by omega) i5.head i5.tail.head (by omega) (by omega) (by omega)
              rw [Int.natCast_add] at hcall
              refine hcall.mono ?_
              rintro e w2 ⟨rfl, Z, hs, hst2, hown2, hm2⟩
              have hZl : Z.length = d2 := by
                obtain ⟨cur, _, _, _, e, _⟩ := hown2.block
                simp only [List.length_append] at e
                omega
              have hst3 : Stab.Stab (ltOf rcmp) l0 ((A ++ Z) ++ B.drop d2) := by
                refine i6.trans ?_
                conv => lhs; rw [eB]
                rw [List.append_assoc, ← List.append_assoc (B.take bs)]
                exact Stab.Stab.append (Stab.Stab.refl _) (Stab.Stab.append hst2 (Stab.Stab.refl _))
              have hb3 : Stab.Blk (ltOf rcmp) d2 (A ++ Z) := Stab.Blk.append (k := k) i1 i4 (Stab.Blk.single (by omega) (by omega) hs)
              have hb4 : Stab.Blk (ltOf rcmp) bs (B.drop d2) := by
                have := i5.tail.tail
                rwa [List.drop_drop, show bs + bs = d2 by omega] at this
              have H2 := Lib.hid (And.intro hb3 (And.intro hb4 (And.intro hst3 (And.intro hown2 (And.intro (i8.trans' hm2) (And.intro hZl n3))))))
              clear hs hst2 hown2 hm2 hst3 hb3 hb4 hZl eB n1 n2 n3 i1 i2 i3 i4 i5 i6 i7 i8 i9 i10 o1 o2 o3 o4 o5 o6 o7 o8 o9 hc hcall
              go_wp2
              go_roundg (L - v)
              case measure => have h1 := HI.out; have h2 := hcc.out; have h3 := HO.out; omega
              case rel =>
                obtain ⟨i1, i2, i3, i4, i5, i6, i7, i8, i9, i10⟩ := HI.out
                obtain ⟨k1, k2, k3, k4, k5, k6, k7⟩ := H2.out
                obtain ⟨o1, o2, o3, o4, o5, o6, o7, o8, o9⟩ := HO.out
                have hc := hcc.out
                refine ⟨k + 1, A ++ Z, B.drop d2, ?_, ?_, ?_, ?_, ?_, k1, k2, k3, ?_, k5⟩
                · congr 1; rw [List.length_append]; omega
                · congr 1; rw [List.length_append]; omega
                · rw [List.length_append, Nat.add_mul, Nat.one_mul]; omega
                · rw [List.length_append]; omega
                · rw [List.length_append]; omega
                · rw [List.append_assoc]; exact k4
            · have hc' : ¬ (v : Int) ≤ (L : Int) := by omega
              have hcc := Lib.hid hc
              obtain ⟨m, hm⟩ : ∃ m, u + bs = m := ⟨_, rfl⟩
              have hmi : (u : Int) + (bs : Int) = (m : Int) := by omega
              by_cases hcm : m < L
              · have hcm' : (m : Int) < (L : Int) := by omega
                have HM := Lib.hid (And.intro hm hcm)
                clear hk hAB hgk hblk hblk2 hst hown hmod hu hv hc hm hcm
                go_wp2_with fail
                obtain ⟨i1, i2, i3, i4, i5, i6, i7, i8, i9, i10⟩ := HI.out
                obtain ⟨o1, o2, o3, o4, o5, o6, o7, o8, o9⟩ := HO.out
                have hc := hcc.out
                have hmm := HM.out
                have eB : B = B.take bs ++ (B.drop bs ++ []) := by rw [List.append_nil, List.take_append_drop]
                have n1 : (B.take bs).length = bs := by rw [List.length_take]; omega
                have n2 : (B.drop bs).length = B.length - bs := by rw [List.length_drop]
                refine (symMerge_row (g := g) (cap := cap) (L := L) (by omega) (B.length + 1) wr A (B.take bs) (B.drop bs) [] u m L (by omega) (by rw [← eB]; exact i7) (by simp only [List.length_nil]; omega) (by omega) (by omega) i5.head (i5.tail.one (by omega)) (by omega) (by omega) (by omega)).mono ?_
                rintro e w2 ⟨rfl, Z, hs, hst2, hown2, hm2⟩
                rw [List.append_nil] at hown2
                have hZl : Z.length = B.length := by
                  obtain ⟨cur, _, _, _, e, _⟩ := hown2.block
                  simp only [List.length_append] at e
                  omega
                have hst3 : Stab.Stab (ltOf rcmp) l0 (A ++ Z) := by
                  refine i6.trans ?_
                  conv => lhs; rw [eB, List.append_nil]
                  exact Stab.Stab.append (Stab.Stab.refl _) hst2
                have hb3 : Stab.Blk (ltOf rcmp) d2 (A ++ Z) := Stab.Blk.append (k := k) i1 i4 (Stab.Blk.single (by omega) (by omega) hs)
                have H2 := Lib.hid (And.intro hb3 (And.intro hst3 (And.intro hown2 (i8.trans' hm2))))
                clear hs hst2 hown2 hm2 hst3 hb3 hZl eB n1 n2 i1 i2 i3 i4 i5 i6 i7 i8 i9 i10 o1 o2 o3 o4 o5 o6 o7 o8 o9 hc hmm
                go_wp2
                go_roundg (L - d2)
                case measure => have h3 := HO.out; omega
                case rel =>
                  obtain ⟨o1, o2, o3, o4, o5, o6, o7, o8, o9⟩ := HO.out
                  exact ⟨d2, A ++ Z, by first | rfl | (congr 1; omega), by omega, Nat.le_refl _, H2.out.1, H2.out.2.1, H2.out.2.2.1, H2.out.2.2.2⟩
              · have hcm' : ¬ (m : Int) < (L : Int) := by omega
                have HM := Lib.hid (And.intro hm hcm)
                clear hk hAB hgk hblk hblk2 hst hown hmod hu hv hc hm hcm
                go_wp2
                go_roundg (L - d2)
                case measure => have h3 := HO.out; omega
                case rel =>
                  obtain ⟨i1, i2, i3, i4, i5, i6, i7, i8, i9, i10⟩ := HI.out
                  obtain ⟨o1, o2, o3, o4, o5, o6, o7, o8, o9⟩ := HO.out
                  have hmm := HM.out
                  exact ⟨d2, A ++ B, by first | rfl | (congr 1; omega), by omega, Nat.le_refl _, Stab.Blk.append (k := k) i1 i4 (Stab.Blk.single (by omega) (by omega) (i5.one (by omega))), i6, i7, i8⟩
        · have hci : ¬ (bs : Int) < (L : Int) := by omega
          have HO := Lib.hid (And.intro hbs (And.intro hgk (And.intro hblk (And.intro hst (And.intro hown (And.intro hmod (And.intro hlen hc)))))))
          clear hbs hgk hblk hst hown hmod hlen hc
          go_wp2
          (try simp only [Exit.inBlock, Exit.then])
          refine bodyPost_end (results_none rfl _ _ _) rfl ?_
          obtain ⟨o1, o2, o3, o4, o5, o6, o7, o8⟩ := HO.out
          exact ⟨rfl, l, o3.one (by omega), o4, o5, o6⟩

set_option maxRecDepth 100000 in
set_option maxHeartbeats 800000 in
theorem stableNil_row (w : World) : Calls Tryz.prog 78 #[.slice none 0 0, .int .i64 0, .func (.func 42) #[] #[]] w fun e w' => e = .returned (.tuple #[]) ∧ w' = w := by
  have hi := fun W => AnyF.insertionSortCmpFunc_none Tryz.laysInsRow none 0 (.func (.func 42) #[] #[]) W
  go_enter Tryz.func78, Tryz.ntmps78
  go_wp2
  go_loopg [7, 8] 1 (fun gg va vb wx => va = .int .i64 0 ∧ vb = .int .i64 20 ∧ wx = w)
  case atStart => exact ⟨rfl, rfl, rfl⟩
  case round =>
    obtain ⟨rfl, rfl, rfl⟩ := hrel
    go_wp2_with fail
    refine (hi _).mono ?_
    rintro e w2 ⟨rfl, rfl⟩
    go_wp2
    go_loopg [6] 1 (fun gg vs wx => vs = .int .i64 20 ∧ wx = w2)
    case atStart => exact ⟨rfl, rfl⟩
    case round =>
      obtain ⟨rfl, rfl⟩ := hrel
      go_wp2
      (try simp only [Exit.inBlock, Exit.then])
      refine bodyPost_end (results_none rfl _ _ _) rfl ?_
      exact ⟨rfl, rfl⟩
/-- slices.SortStableFunc. -/
theorem sortStable_row {w : World} {v : Value} {l : List RowT} (h : OwnS rowC 5 w 63 v l) (hl : l.length < 576460752303423488) :
    Calls Tryz.prog 41 #[v, .func (.func 42) #[] #[]] w fun e w' =>
      e = .returned (.tuple #[]) ∧ ∃ l' : List RowT, Stab.Sorted (ltOf rcmp) l' ∧ Stab.Stab (ltOf rcmp) l l' ∧ OwnS rowC 5 w' 63 v l' ∧ Mod (fun x => some x = v.ownBlock) w w' := by
  rcases h.form with ⟨rfl, rfl⟩ | ⟨g, cap, rfl, hc1, hc2⟩
  · have HH := Lib.hid h
    clear h hl
    go_enter Tryz.func41, Tryz.ntmps41
    go_wp2_with fail
    refine (stableNil_row w).mono ?_
    rintro e w2 ⟨rfl, rfl⟩
    go_wp2
    (try simp only [Exit.inBlock, Exit.then])
    refine bodyPost_end (results_none rfl _ _ _) rfl ?_
    exact ⟨rfl, [], List.Pairwise.nil, Stab.Stab.refl _, HH.out, Mod.refl _ _⟩
  · obtain ⟨L, hL⟩ : ∃ L, l.length = L := ⟨_, rfl⟩
    rw [hL] at h hl ⊢
    have HH := Lib.hid (And.intro h hl)
    clear h hl hc1 hc2 hL
    go_enter Tryz.func41, Tryz.ntmps41
    go_wp2_with fail
    refine (stable_row HH.out.1 HH.out.2).mono ?_
    rintro e w2 ⟨rfl, l', h1, h2, h3, h4⟩
    have H2 := Lib.hid (And.intro h1 (And.intro h2 (And.intro h3 h4)))
    clear h1 h2 h3 h4
    go_wp2
    (try simp only [Exit.inBlock, Exit.then])
    refine bodyPost_end (results_none rfl _ _ _) rfl ?_
    obtain ⟨h1, h2, h3, h4⟩ := H2.out
    exact ⟨rfl, l', h1, h2, h3, h4.mono (fun x _ hx => by rw [show x = g from hx]; rfl)⟩
end Go.Proofs.YtojjnfhgldjgbaaGreatDoor.Watch
end
