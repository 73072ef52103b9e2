/- WatchNet, where what came in is of bulk at most 1048576: what leads from some tuples to others does so in a store, and n: part 17 of 32: what it leans on. -/
import Derived.Deep.LoopGhost
import Derived.Test.YtojjnfhgldjgbaaGreatDoorNtA
import Derived.Test.YtojjnfhgldjgbaaGreatDoorNtB
import Derived.Test.YtojjnfhgldjgbaaGreatDoorNtC
import Derived.Test.YtojjnfhgldjgbaaGreatDoorNtD
import Derived.Test.YtojjnfhgldjgbaaGreatDoorNtE
import Derived.Test.YtojjnfhgldjgbaaGreatDoorNtL
import Derived.Test.YtojjnfhgldjgbaaGreatDoorNtM
import Derived.Test.YtojjnfhgldjgbaaGreatDoorNtP
section
set_option linter.unusedVariables false
set_option linter.unusedSimpArgs false
namespace Go.Proofs.YtojjnfhgldjgbaaGreatDoor.Watch
open Go.RowKit Go.Por Go.Sort

theorem swap_parts_row {w : World} {g cap L : Nat} {P X M Y S : List RowT} (h : OwnS rowC 5 w 63 (.slice (some ⟨g, 0, none⟩) L cap) (P ++ (X ++ (M ++ (Y ++ S))))) (hl : L < 4611686018427387904) (he : X.length = Y.length) (hL : L = P.length + X.length + M.length + Y.length + S.length) (fv : Value) (a b n : Int) (ha : a = (P.length : Int)) (hb : b = ((P.length + X.length + M.length : Nat) : Int)) (hn : n = (X.length : Int)) :
    Calls Tryz.prog 183 #[.slice (some ⟨g, 0, none⟩) L cap, .int .i64 a, .int .i64 b, .int .i64 n, fv] w fun e w' =>
      e = .returned (.tuple #[]) ∧ OwnS rowC 5 w' 63 (.slice (some ⟨g, 0, none⟩) L cap) (P ++ (Y ++ (M ++ (X ++ S)))) ∧ Mod (fun x => x = g) w w' := by
  subst ha hb hn
  have e : L = (P ++ (X ++ (M ++ (Y ++ S)))).length := by simp only [List.length_append]; omega
  rw [← swapR_parts P X M Y S he]
  rw [e] at h hl ⊢
  exact swapRange_row h hl P.length (P.length + X.length + M.length) X.length (by simp only [List.length_append]; omega) (by simp only [List.length_append]; omega) fv

set_option maxRecDepth 100000 in
set_option maxHeartbeats 1600000 in
theorem rotate_row {w : World} {g cap L : Nat} {P X Y S : List RowT} (h : OwnS rowC 5 w 63 (.slice (some ⟨g, 0, none⟩) L cap) (P ++ (X ++ (Y ++ S)))) (hl : L < 4611686018427387904) (hL : L = P.length + X.length + Y.length + S.length) (hX : 1 ≤ X.length) (hY : 1 ≤ Y.length) (fv : Value) (a m b : Int) (ha : a = (P.length : Int)) (hm : m = ((P.length + X.length : Nat) : Int)) (hb : b = ((P.length + X.length + Y.length : Nat) : Int)) :
    Calls Tryz.prog 155 #[.slice (some ⟨g, 0, none⟩) L cap, .int .i64 a, .int .i64 m, .int .i64 b, fv] w fun e w' =>
      e = .returned (.tuple #[]) ∧ OwnS rowC 5 w' 63 (.slice (some ⟨g, 0, none⟩) L cap) (P ++ (Y ++ (X ++ S))) ∧ Mod (fun x => x = g) w w' := by
  have e1 : m - a = (X.length : Int) := by omega
  have e2 : b - m = (Y.length : Int) := by omega
  have HH := Lib.hid (And.intro h (And.intro hL (And.intro hm (And.intro hX hY))))
  have hm0 : 0 ≤ m := by omega
  have hm1 : m < 4611686018427387904 := by omega
  have hX2 : (X.length : Int) < 4611686018427387904 := by omega
  have hY2 : (Y.length : Int) < 4611686018427387904 := by omega
  clear h hL hX hY ha hm hb
  go_enter Tryz.func155, Tryz.ntmps155
  go_wp2
  go_loopg [10, 11] (X.length + Y.length) (fun gg vi vj wx => ∃ A U V C : List RowT, 1 ≤ U.length ∧ 1 ≤ V.length ∧ U.length + V.length ≤ gg ∧ vi = .int .i64 (U.length : Int) ∧ vj = .int .i64 (V.length : Int) ∧ P.length + A.length + U.length = P.length + X.length ∧ A ++ (V ++ (U ++ C)) = Y ++ X ∧ OwnS rowC 5 wx 63 (.slice (some ⟨g, 0, none⟩) L cap) (P ++ (A ++ (U ++ (V ++ (C ++ S))))) ∧ Mod (fun x => x = g) w wx)
  case atStart => exact ⟨[], X, Y, [], HH.out.2.2.2.1, HH.out.2.2.2.2, Nat.le_refl _, rfl, rfl, by simp, by simp, by simpa using HH.out.1, Mod.refl _ _⟩
  case round =>
    obtain ⟨A, U, V, C, hU, hV, hle, rfl, rfl, hpos, heq, hown, hmod⟩ := hrel
    have hmm := HH.out.2.2.1
    have hLL := HH.out.2.1
    have hlen := congrArg List.length heq
    simp only [List.length_append] at hlen
    have f1 : m - (U.length : Int) = ((P.length + A.length : Nat) : Int) := by omega
    have HI := Lib.hid (And.intro hU (And.intro hV (And.intro hle (And.intro hpos (And.intro heq (And.intro hown (And.intro hmod hlen)))))))
    rcases Nat.lt_trichotomy U.length V.length with hc | hc | hc
    · have q : ((U.length : Int) != (V.length : Int)) = true := by rw [bne_iff_ne]; omega
      have q2 : ¬ (V.length : Int) < (U.length : Int) := by omega
      have z1 : (U.length : Int) < 4611686018427387904 := by omega
      have z2 : (V.length : Int) < 4611686018427387904 := by omega
      have z3 : (U.length : Int) ≤ (V.length : Int) := by omega
      have HC := Lib.hid hc
      clear hU hV hle hpos heq hown hmod hlen hc hmm hLL e1 e2
      go_wp2_with fail
      obtain ⟨V1, V2, hV, hV2⟩ : ∃ V1 V2 : List RowT, V = V1 ++ V2 ∧ V2.length = U.length := ⟨V.take (V.length - U.length), V.drop (V.length - U.length), (List.take_append_drop _ _).symm, by rw [List.length_drop]; have := HC.out; omega⟩
      have hv := congrArg List.length hV
      rw [List.length_append] at hv
      refine (swap_parts_row (w := wr) (g := g) (cap := cap) (L := L) (P := P ++ A) (X := U) (M := V1) (Y := V2) (S := C ++ S) (by have h1 := HI.out.2.2.2.2.2.1; rw [hV] at h1; simpa using h1) hl hV2.symm (by have h1 := HI.out.2.2.2.2.2.2.2; have h2 := HH.out.2.1; simp only [List.length_append]; omega) fv _ _ _ (by rw [List.length_append]; omega) (by have h1 := HH.out.2.2.1; have h2 := HI.out.2.2.2.1; simp only [List.length_append]; omega) rfl).mono ?_
      rintro e w2 ⟨rfl, hown2, hm2⟩
      have H2 := Lib.hid (And.intro hown2 (And.intro hm2 (And.intro hV (And.intro hV2 hv))))
      clear hown2 hm2 hV hV2 hv
      go_wp2
      go_roundg (V2.length + V1.length)
      case measure => have h1 := HI.out; have h2 := H2.out.2.2; omega
      case rel =>
        have h0 := HC.out
        obtain ⟨i1, i2, i3, i4, i5, i6, i7, i8⟩ := HI.out
        obtain ⟨k1, k2, k3, k4, k5⟩ := H2.out
        refine ⟨A, V2, V1, U ++ C, by omega, by omega, by omega, ?_, ?_, by omega, ?_, ?_, i7.trans' k2⟩
        · rw [k4]
        · congr 1; omega
        · rw [← i5, k3]; simp
        · simpa using k1
    · have q : ((U.length : Int) != (V.length : Int)) = false := by simp [hc]
      have HC := Lib.hid hc
      clear hU hV hle hpos heq hown hmod hlen hc hmm hLL e1 e2
      go_wp2_with fail
      refine (swap_parts_row (w := wr) (g := g) (cap := cap) (L := L) (P := P ++ A) (X := U) (M := []) (Y := V) (S := C ++ S) (by have := HI.out.2.2.2.2.2.1; simpa using this) hl HC.out (by have h1 := HI.out.2.2.2.2.2.2.2; have h2 := HH.out.2.1; simp only [List.length_append, List.length_nil]; omega) fv _ _ _ (by rw [List.length_append]; omega) (by have h1 := HH.out.2.2.1; have h2 := HI.out.2.2.2.1; simp only [List.length_append, List.length_nil]; omega) rfl).mono ?_
      rintro e w2 ⟨rfl, hown2, hm2⟩
      have H2 := Lib.hid (And.intro hown2 hm2)
      clear hown2 hm2
      go_wp2
      go_end0
      refine ⟨rfl, ?_, HI.out.2.2.2.2.2.2.1.trans' H2.out.2⟩
      have h1 := H2.out.1
      have h2 := HI.out.2.2.2.2.1
      rw [show (P ++ A) ++ (V ++ ([] ++ (U ++ (C ++ S)))) = P ++ ((A ++ (V ++ (U ++ C))) ++ S) by simp, h2, List.append_assoc] at h1
      exact h1
    · have q : ((U.length : Int) != (V.length : Int)) = true := by rw [bne_iff_ne]; omega
      have q2 : (V.length : Int) < (U.length : Int) := by omega
      have z1 : (U.length : Int) < 4611686018427387904 := by omega
      have z2 : (V.length : Int) < 4611686018427387904 := by omega
      have HC := Lib.hid hc
      clear hU hV hle hpos heq hown hmod hlen hc hmm hLL e1 e2
      go_wp2_with fail
      obtain ⟨U1, U2, hU, hU1⟩ : ∃ U1 U2 : List RowT, U = U1 ++ U2 ∧ U1.length = V.length := ⟨U.take V.length, U.drop V.length, (List.take_append_drop _ _).symm, by rw [List.length_take]; have := HC.out; omega⟩
      have hv := congrArg List.length hU
      rw [List.length_append] at hv
      refine (swap_parts_row (w := wr) (g := g) (cap := cap) (L := L) (P := P ++ A) (X := U1) (M := U2) (Y := V) (S := C ++ S) (by have h1 := HI.out.2.2.2.2.2.1; rw [hU] at h1; simpa using h1) hl hU1 (by have h1 := HI.out.2.2.2.2.2.2.2; have h2 := HH.out.2.1; simp only [List.length_append]; omega) fv _ _ _ (by rw [List.length_append]; omega) (by have h1 := HH.out.2.2.1; have h2 := HI.out.2.2.2.1; simp only [List.length_append]; omega) (by rw [hU1])).mono ?_
      rintro e w2 ⟨rfl, hown2, hm2⟩
      have H2 := Lib.hid (And.intro hown2 (And.intro hm2 (And.intro hU (And.intro hU1 hv))))
      clear hown2 hm2 hU hU1 hv
      go_wp2
      go_roundg (U2.length + U1.length)
      case measure => have h1 := HI.out; have h2 := H2.out.2.2; omega
      case rel =>
        have h0 := HC.out
        obtain ⟨i1, i2, i3, i4, i5, i6, i7, i8⟩ := HI.out
        obtain ⟨k1, k2, k3, k4, k5⟩ := H2.out
        refine ⟨A ++ V, U2, U1, C, by omega, by omega, by omega, ?_, ?_, ?_, ?_, ?_, i7.trans' k2⟩
        · congr 1; omega
        · rw [k4]
        · rw [List.length_append]; omega
        · rw [← i5, k3]; simp
        · simpa using k1
end Go.Proofs.YtojjnfhgldjgbaaGreatDoor.Watch
end
section
set_option linter.unusedVariables false
set_option linter.unusedSimpArgs false
namespace Go.Proofs.YtojjnfhgldjgbaaGreatDoor.Watch
open Go.RowKit Go.Por Go.Sort

set_option maxRecDepth 100000 in
set_option maxHeartbeats 1600000 in
theorem symOneL_row {w : World} {g cap L : Nat} {P Y S : List RowT} {x : RowT} (h : OwnS rowC 5 w 63 (.slice (some ⟨g, 0, none⟩) L cap) (P ++ (x :: (Y ++ S)))) (hl : L < 4611686018427387904) (hL : L = P.length + 1 + Y.length + S.length) (hY : 1 ≤ Y.length) (hs : Stab.Sorted (ltOf rcmp) Y) (a m b : Nat) (ha : a = P.length) (hm : m = P.length + 1) (hb : b = P.length + 1 + Y.length) :
    Calls Tryz.prog 110 #[.slice (some ⟨g, 0, none⟩) L cap, .int .i64 (a : Int), .int .i64 (m : Int), .int .i64 (b : Int), .func (.func 42) #[] #[]] w fun e w' =>
      e = .returned (.tuple #[]) ∧ ∃ Z : List RowT, Stab.Sorted (ltOf rcmp) Z ∧ Stab.Stab (ltOf rcmp) (x :: Y) Z ∧ OwnS rowC 5 w' 63 (.slice (some ⟨g, 0, none⟩) L cap) (P ++ (Z ++ S)) ∧ Mod (fun x => x = g) w w' := by
  have q : ((m : Int) - (a : Int) == (1 : Int)) = true := by rw [beq_iff_eq]; omega
  have hm1 : (m : Int) < 4611686018427387904 := by omega
  have ha1 : (a : Int) < 4611686018427387904 := by omega
  have haL : (a : Int) < (L : Int) := by omega
  have HH := Lib.hid (And.intro h (And.intro hL (And.intro ha (And.intro hm (And.intro hb (And.intro hY hs))))))
  clear h hL ha hm hb hY hs
  go_enter Tryz.func110, Tryz.ntmps110
  go_wp2
  go_loopg [10, 11] Y.length (fun gg vi vj wx => ∃ i j : Nat, vi = .int .i64 ((P.length + 1 + i : Nat) : Int) ∧ vj = .int .i64 ((P.length + 1 + j : Nat) : Int) ∧ i ≤ j ∧ j ≤ Y.length ∧ j - i ≤ gg ∧ (∀ t y, t < i → Y[t]? = some y → ltOf rcmp y x = true) ∧ (∀ t y, j ≤ t → Y[t]? = some y → ltOf rcmp y x = false) ∧ Gr w wx)
  case atStart => exact ⟨0, Y.length, by rw [HH.out.2.2.2.1], by rw [HH.out.2.2.2.2.1], Nat.zero_le _, Nat.le_refl _, Nat.le_refl _, fun t y h => by omega, fun t y h hy => by have := (List.getElem?_eq_some_iff.1 hy).1; omega, Gr.refl w⟩
  case round =>
    obtain ⟨i, j, rfl, rfl, hij, hjY, hjg, hlo, hhi, hgr⟩ := hrel
    have HI := Lib.hid (And.intro hij (And.intro hjY (And.intro hjg (And.intro hlo (And.intro hhi hgr)))))
    by_cases hc : i < j
    · obtain ⟨k, hk⟩ : ∃ k, (i + j) / 2 = k := ⟨_, rfl⟩
      have hki : i ≤ k := by omega
      have hkj : k < j := by omega
      obtain ⟨u, hu⟩ : ∃ u, P.length + 1 + i = u := ⟨_, rfl⟩
      obtain ⟨v, hv⟩ : ∃ v, P.length + 1 + j = v := ⟨_, rfl⟩
      obtain ⟨h, hh⟩ : ∃ h, P.length + 1 + k = h := ⟨_, rfl⟩
      have huv : (u : Int) < (v : Int) := by omega
      have hLL := HH.out.2.1
      have hv1 : v ≤ L := by omega
      have u1 : (u : Int) < 4611686018427387904 := by omega
      have v1 : (v : Int) < 4611686018427387904 := by omega
      have hd : ((u : Int) + (v : Int)) / 2 = (h : Int) := by omega
      have h0 : (0 : Int) ≤ (h : Int) := by omega
      have h1 : (h : Int) < (L : Int) := by omega
      obtain ⟨y, hy⟩ : ∃ y, Y[k]? = some y := ⟨_, List.getElem?_eq_getElem (by omega)⟩
      have hyL : (P ++ (x :: (Y ++ S)))[h]? = some y := by
        rw [List.getElem?_append_right (by omega), show h - P.length = k + 1 by omega, List.getElem?_cons_succ, List.getElem?_append_left (by omega), hy]
      have hxL : (P ++ (x :: (Y ++ S)))[a]? = some x := by
        rw [HH.out.2.2.1, List.getElem?_append_right (Nat.le_refl _), Nat.sub_self]
        rfl
      rw [hu, hv]
      obtain ⟨cx, hcx⟩ : ∃ cx, rowC x = cx := ⟨_, rfl⟩
      obtain ⟨cy, hcy⟩ : ∃ cy, rowC y = cy := ⟨_, rfl⟩
      have ho := fun w => row_order y x w
      obtain ⟨n, hn⟩ : ∃ n, rcmp y x = n := ⟨_, rfl⟩
      have HN := Lib.hid hn
      rw [hcx, hcy, hn] at ho
      clear hn
      have HO := Lib.hid ho
      have HC := Lib.hid (And.intro hki (And.intro hkj (And.intro hu (And.intro hv (And.intro hh (And.intro hk (And.intro hy (And.intro hyL (And.intro hxL (And.intro hcx hcy))))))))))
      have HD := Lib.hid (show OwnS rowC 5 wr.drew 63 (.slice (some ⟨g, 0, none⟩) L cap) (P ++ (x :: (Y ++ S))) from OwnS.gr HH.out.1 hgr.drew)
      clear hki hkj hu hv hh hk hij hjY hjg hlo hhi hgr hc hLL hv1 hy hyL hxL hcx hcy ho
      go_wp2_with fail

      clear hd
      refine wp_region_held_drew (S := fun w' => Gr wr.drew w') (by kernel_rfl) (Gr.refl _) (fun hS => ?_)
      refine takeD (i := 0) rfl (by kernel_rfl) (by kernel_rfl) (by kernel_rfl) (fun _ _ _ h => h) hS (Or.inl ⟨by rfl, fun w hSw => by go_simp; rfl⟩) ?_
      simp only [Act.put, List.setIfInBounds_toArray, List.set_cons_zero, List.set_cons_succ]
      refine takeD (i := 1) rfl (by kernel_rfl) (by kernel_rfl) (by kernel_rfl) (fun _ _ _ h => h) hS (Or.inl ⟨by rfl, fun w hSw => by go_simp; rfl⟩) ?_
      simp only [Act.put, List.setIfInBounds_toArray, List.set_cons_zero, List.set_cons_succ]
      refine takeD (i := 2) rfl (by kernel_rfl) (by kernel_rfl) (by kernel_rfl) (fun _ _ _ h => h) hS (Or.inl ⟨by rfl, fun w hSw => by go_simp; rfl⟩) ?_
      simp only [Act.put, List.setIfInBounds_toArray, List.set_cons_zero, List.set_cons_succ]
      refine takeD (i := 3) rfl (by kernel_rfl) (by kernel_rfl) (by kernel_rfl) (fun _ _ _ h => h) hS (Or.inl ⟨by rfl, fun w hSw => by go_simp; rfl⟩) ?_
      simp only [Act.put, List.setIfInBounds_toArray, List.set_cons_zero, List.set_cons_succ]
      refine takeD (i := 4) rfl (by kernel_rfl) (by kernel_rfl) (by kernel_rfl) (fun _ _ _ h => h) hS (yieldsIf_load_mid (by rfl) 63 (.tmp 43) rfl g (h * 5) rfl cy _ (fun w hSw => by rw [← HC.out.2.2.2.2.2.2.2.2.2.2]; exact OwnS.range rowC_len (OwnS.gr HD.out hSw) HC.out.2.2.2.2.2.2.2.1) Tryz.underlying63 rfl (by rw [← HC.out.2.2.2.2.2.2.2.2.2.2]; exact infoR)) ?_
      simp only [Act.put, List.setIfInBounds_toArray, List.set_cons_zero, List.set_cons_succ]
      refine takeD (i := 5) rfl (by kernel_rfl) (by kernel_rfl) (by kernel_rfl) (fun _ _ _ h => h) hS (Or.inl ⟨by rfl, fun w hSw => by go_simp; rfl⟩) ?_
      simp only [Act.put, List.setIfInBounds_toArray, List.set_cons_zero, List.set_cons_succ]
      refine takeD (i := 6) rfl (by kernel_rfl) (by kernel_rfl) (by kernel_rfl) (fun _ _ _ h => h) hS (Or.inl ⟨by rfl, fun w hSw => by go_simp; rfl⟩) ?_
      simp only [Act.put, List.setIfInBounds_toArray, List.set_cons_zero, List.set_cons_succ]
      refine takeD (i := 7) rfl (by kernel_rfl) (by kernel_rfl) (by kernel_rfl) (fun _ _ _ h => h) hS (Or.inl ⟨by rfl, fun w hSw => by go_simp; rfl⟩) ?_
      simp only [Act.put, List.setIfInBounds_toArray, List.set_cons_zero, List.set_cons_succ]
      refine takeD (i := 8) rfl (by kernel_rfl) (by kernel_rfl) (by kernel_rfl) (fun _ _ _ h => h) hS (yieldsIf_load_mid (by rfl) 63 (.tmp 47) rfl g (a * 5) rfl cx _ (fun w hSw => by rw [← HC.out.2.2.2.2.2.2.2.2.2.1]; exact OwnS.range rowC_len (OwnS.gr HD.out hSw) HC.out.2.2.2.2.2.2.2.2.1) Tryz.underlying63 rfl (by rw [← HC.out.2.2.2.2.2.2.2.2.2.1]; exact infoR)) ?_
      simp only [Act.put, List.setIfInBounds_toArray, List.set_cons_zero, List.set_cons_succ]
      refine wpAnyH_ready (rs := [9]) (by kernel_rfl) (by simp) ?_
      refine consD (i := 9) rfl (fun K hK => ?_) AllReadyH.nil
      rw [if_pos (by rfl)]
      go_simp
      ((with_reducible refine (HO.out _).mono ?_); rintro e w2 ⟨rfl, hg2⟩)
      dsimp only
      refine hK.out _ _ (hS.trans hg2) (fun hS => ?_)
      clear hK K
      refine takeD (i := 10) rfl (by kernel_rfl) (by kernel_rfl) (by kernel_rfl) (fun _ _ _ h => h) hS (Or.inl ⟨by rfl, fun w hSw => by go_simp; rfl⟩) ?_
      simp only [Act.put, List.setIfInBounds_toArray, List.set_cons_zero, List.set_cons_succ]
      refine wpAnyH_done (by kernel_rfl) ?_ _
      by_cases hq : n < 0
      · have hlt : ltOf rcmp y x = true := by rw [← HN.out] at hq; simp [ltOf, hq]
        have HQ := Lib.hid (And.intro hlt hS)
        have hdec : decide (n < 0) = true := by simp [hq]
        rw [hdec]
        clear hlt hg2 hS hdec hq
        go_wp2
        go_roundg (j - (k + 1))
        case measure => have h1 := HI.out; have h2 := HC.out; omega
        case rel =>
          obtain ⟨i1, i2, i3, i4, i5, i6⟩ := HI.out
          obtain ⟨c1, c2, c3, c4, c5, c6, c7, _⟩ := HC.out
          refine ⟨k + 1, j, ?_, ?_, by omega, i2, Nat.le_refl _, fun t z ht hz => ?_, i5, (i6.drew).trans HQ.out.2⟩
          · congr 1; omega
          · congr 1; omega
          · exact Stab.Sorted.low rowSwo HH.out.2.2.2.2.2.2 c7 HQ.out.1 hz (by omega)
      · have hlt : ltOf rcmp y x = false := by rw [← HN.out] at hq; simp [ltOf, hq]
        have HQ := Lib.hid (And.intro hlt hS)
        have hdec : decide (n < 0) = false := by simp [hq]
        rw [hdec]
        clear hlt hg2 hS hdec hq
        go_wp2
        go_roundg (k - i)
        case measure => have h1 := HI.out; have h2 := HC.out; omega
        case rel =>
          obtain ⟨i1, i2, i3, i4, i5, i6⟩ := HI.out
          obtain ⟨c1, c2, c3, c4, c5, c6, c7, _⟩ := HC.out
          refine ⟨i, k, ?_, ?_, by omega, by omega, Nat.le_refl _, i4, fun t z ht hz => ?_, (i6.drew).trans HQ.out.2⟩
          · congr 1; omega
          · congr 1; omega
          · exact Stab.Sorted.high rowSwo HH.out.2.2.2.2.2.2 c7 HQ.out.1 hz (by omega)
    · obtain rfl : i = j := by omega
      obtain ⟨u, hu⟩ : ∃ u, P.length + 1 + i = u := ⟨_, rfl⟩
      have HU := Lib.hid hu
      rw [hu]
      have huu : ¬ (u : Int) < (u : Int) := by omega
      have hLL := HH.out.2.1
      have hu1 : (u : Int) < 4611686018427387904 := by omega
      have hu0 : (0 : Int) ≤ (u : Int) - 1 := by omega
      clear hij hjY hjg hlo hhi hgr hc hLL hu
      go_wp2
      go_loopg [13] i (fun gg vk wx => ∃ t : Nat, vk = .int .i64 ((P.length + t : Nat) : Int) ∧ t ≤ i ∧ i - t ≤ gg ∧ OwnS rowC 5 wx 63 (.slice (some ⟨g, 0, none⟩) L cap) (P ++ (Y.take t ++ (x :: (Y.drop t ++ S)))) ∧ Mod (fun x => x = g) w wx)
      case atStart => exact ⟨0, by rw [HH.out.2.2.1]; rfl, Nat.zero_le _, by omega, by have := OwnS.gr HH.out.1 HI.out.2.2.2.2.2; simpa using this, HI.out.2.2.2.2.2.mod⟩
      case round =>
        obtain ⟨t, rfl, hti, htg, hown, hmod⟩ := hrel
        have HT := Lib.hid (And.intro hti (And.intro htg (And.intro hown hmod)))
        by_cases hc : t < i
        · obtain ⟨p, hp⟩ : ∃ p, P.length + t = p := ⟨_, rfl⟩
          obtain ⟨q, hq⟩ : ∃ q, P.length + t + 1 = q := ⟨_, rfl⟩
          have hLL := HH.out.2.1
          have hYi := HI.out.2.1
          have hUU := HU.out
          have k1 : (p : Int) < (u : Int) - 1 := by omega
          have k2 : (p : Int) + 1 = (q : Int) := by omega
          have k3 : (p : Int) < (L : Int) := by omega
          have k4 : (q : Int) < (L : Int) := by omega
          have k5 : (p : Int) < 4611686018427387904 := by omega
          have k6 : IntKind.i64.wrap (p : Int) = (p : Int) := by simp [IntKind.wrap, IntKind.bits, IntKind.signed]; omega
          have k7 : IntKind.i64.wrap (q : Int) = (q : Int) := by simp [IntKind.wrap, IntKind.bits, IntKind.signed]; omega
          have k8 : (0 : Int) ≤ (p : Int) := by omega
          have k9 : (0 : Int) ≤ (q : Int) := by omega
          obtain ⟨y, hy⟩ : ∃ y, Y[t]? = some y := ⟨_, List.getElem?_eq_getElem (by omega)⟩
          have hsh := shift_right P Y S x y t hy
          rw [hp] at hsh ⊢
          rw [show p + 1 = q by omega] at hsh
          obtain ⟨l1, hl1⟩ : ∃ l1, P ++ (Y.take t ++ (x :: (Y.drop t ++ S))) = l1 := ⟨_, rfl⟩
          rw [hl1] at hsh hown
          obtain ⟨cx, hcx⟩ : ∃ cx, rowC x = cx := ⟨_, rfl⟩
          obtain ⟨cy, hcy⟩ : ∃ cy, rowC y = cy := ⟨_, rfl⟩
          have hx5 : cx.length = 5 := by rw [← hcx]; rfl
          have hy5 : cy.length = 5 := by rw [← hcy]; rfl
          have hx1 : cx.toArray.all (·.oneCell') = true := by rw [← hcx]; exact rowC_one x
          have hy1 : cy.toArray.all (·.oneCell') = true := by rw [← hcy]; exact rowC_one y
          have HX := Lib.hid (And.intro hcx (And.intro hcy (And.intro hx5 (And.intro hy5 (And.intro hx1 hy1)))))
          clear hcx hcy hx5 hy5 hx1 hy1
          have HL := Lib.hid (And.intro hsh.1 (And.intro hsh.2.1 (And.intro (List.getElem?_eq_some_iff.1 hsh.1).1 (List.getElem?_eq_some_iff.1 hsh.2.1).1)))
          have HR := Lib.hid (And.intro hsh.2.2 (And.intro hp (And.intro hq hc)))
          have HD := Lib.hid (show OwnS rowC 5 wr.drew 63 (.slice (some ⟨g, 0, none⟩) L cap) l1 from hown)
          have HDm := Lib.hid (show Mod (fun x => x = g) w wr.drew from hmod.drew)
          clear hti htg hown hmod hc hp hq hLL hYi hUU hy hsh hl1
          go_wp2_with fail
          refine wp_region_held_drew (S := fun _ => True) (by kernel_rfl) trivial (fun hS => ?_)
          refine takeD (i := 0) rfl (by kernel_rfl) (by kernel_rfl) (by kernel_rfl) (fun _ _ _ h => h) hS (Or.inl ⟨by rfl, fun w hSw => by go_simp; rfl⟩) ?_
          simp only [Act.put, List.setIfInBounds_toArray, List.set_cons_zero, List.set_cons_succ]
          refine takeD (i := 1) rfl (by kernel_rfl) (by kernel_rfl) (by kernel_rfl) (fun _ _ _ h => h) hS (Or.inl ⟨by rfl, fun w hSw => by go_simp; rfl⟩) ?_
          simp only [Act.put, List.setIfInBounds_toArray, List.set_cons_zero, List.set_cons_succ]
          refine takeD (i := 2) rfl (by kernel_rfl) (by kernel_rfl) (by kernel_rfl) (fun _ _ _ h => h) hS (Or.inl ⟨by rfl, fun w hSw => by go_simp; rfl⟩) ?_
          simp only [Act.put, List.setIfInBounds_toArray, List.set_cons_zero, List.set_cons_succ]
          refine takeD (i := 3) rfl (by kernel_rfl) (by kernel_rfl) (by kernel_rfl) (fun _ _ _ h => h) hS (Or.inl ⟨by rfl, fun w hSw => by go_simp; rfl⟩) ?_
          simp only [Act.put, List.setIfInBounds_toArray, List.set_cons_zero, List.set_cons_succ]
          refine takeD (i := 4) rfl (by kernel_rfl) (by kernel_rfl) (by kernel_rfl) (fun _ _ _ h => h) hS (Or.inl ⟨by rfl, fun w hSw => by go_simp; rfl⟩) ?_
          simp only [Act.put, List.setIfInBounds_toArray, List.set_cons_zero, List.set_cons_succ]
          refine takeD (i := 5) rfl (by kernel_rfl) (by kernel_rfl) (by kernel_rfl) (fun _ _ _ h => h) hS (Or.inl ⟨by rfl, fun w hSw => by go_simp; rfl⟩) ?_
          simp only [Act.put, List.setIfInBounds_toArray, List.set_cons_zero, List.set_cons_succ]
          refine takeD (i := 6) rfl (by kernel_rfl) (by kernel_rfl) (by kernel_rfl) (fun _ _ _ h => h) hS (Or.inl ⟨by rfl, fun w hSw => by go_simp; rfl⟩) ?_
          simp only [Act.put, List.setIfInBounds_toArray, List.set_cons_zero, List.set_cons_succ]
          refine takeD (i := 7) rfl (by kernel_rfl) (by kernel_rfl) (by kernel_rfl) (fun _ _ _ h => h) hS (Or.inl ⟨by rfl, fun w hSw => by go_simp; rfl⟩) ?_
          simp only [Act.put, List.setIfInBounds_toArray, List.set_cons_zero, List.set_cons_succ]
          refine takeD (i := 8) rfl (by kernel_rfl) (by kernel_rfl) (by kernel_rfl) (fun _ _ _ h => h) hS (Or.inl ⟨by rfl, fun w hSw => by go_simp; rfl⟩) ?_
          simp only [Act.put, List.setIfInBounds_toArray, List.set_cons_zero, List.set_cons_succ]
          refine takeD (i := 10) rfl (by kernel_rfl) (by kernel_rfl) (by kernel_rfl) (fun _ _ _ h => h) hS (Or.inl ⟨by rfl, fun w hSw => by go_simp; rfl⟩) ?_
          simp only [Act.put, List.setIfInBounds_toArray, List.set_cons_zero, List.set_cons_succ]
          refine takeD (i := 11) rfl (by kernel_rfl) (by kernel_rfl) (by kernel_rfl) (fun _ _ _ h => h) hS (Or.inl ⟨by rfl, fun w hSw => by go_simp; rfl⟩) ?_
          simp only [Act.put, List.setIfInBounds_toArray, List.set_cons_zero, List.set_cons_succ]
          refine takeD (i := 12) rfl (by kernel_rfl) (by kernel_rfl) (by kernel_rfl) (fun _ _ _ h => h) hS (Or.inl ⟨by rfl, fun w hSw => by go_simp; rfl⟩) ?_
          simp only [Act.put, List.setIfInBounds_toArray, List.set_cons_zero, List.set_cons_succ]
          refine wpAnyH_ready (rs := [9, 13]) (by kernel_rfl) (by simp) ?_
          refine consD (i := 9) rfl (fun K hK => ?_) (consD (i := 13) rfl (fun K hK => ?_) AllReadyH.nil)
          · rw [if_pos (by rfl)]
            refine wp_load_mid 63 (.tmp 69) rfl g (q * 5) rfl cy _ (by rw [← HX.out.2.1]; exact OwnS.range rowC_len HD.out HL.out.2.1) Tryz.underlying63 rfl (by rw [HX.out.2.2.2.1]; exact infoR) ?_
            simp only [Act.put, List.setIfInBounds_toArray, List.set_cons_zero, List.set_cons_succ]
            refine hK.out _ _ trivial (fun hS => ?_)
            clear hK K
            refine wpAnyH_ready (rs := [13]) (by kernel_rfl) (by simp) ?_
            refine consD (i := 13) rfl (fun K hK => ?_) AllReadyH.nil
            rw [if_pos (by rfl)]
            refine wp_load_mid 63 (.tmp 73) rfl g (p * 5) rfl cx _ (by rw [← HX.out.1]; exact OwnS.range rowC_len HD.out HL.out.1) Tryz.underlying63 rfl (by rw [HX.out.2.2.1]; exact infoR) ?_
            simp only [Act.put, List.setIfInBounds_toArray, List.set_cons_zero, List.set_cons_succ]
            refine hK.out _ _ trivial (fun hS => ?_)
            clear hK K
            refine takeD (i := 14) rfl (by kernel_rfl) (by kernel_rfl) (by kernel_rfl) (fun _ _ _ h => h) hS (Or.inl ⟨by rfl, fun w hSw => by go_simp; rfl⟩) ?_
            simp only [Act.put, List.setIfInBounds_toArray, List.set_cons_zero, List.set_cons_succ]
            refine wpAnyH_ready (rs := [15]) (by kernel_rfl) (by simp) ?_
            refine consD (i := 15) rfl (fun K hK => ?_) AllReadyH.nil
            rw [if_pos (by rfl)]
            refine wp_store_mid 63 (.tmp 75) (.tmp 70) rfl g (p * 5) cy.toArray rfl rfl (by rw [List.size_toArray, HX.out.2.2.2.1]; exact OwnS.there HD.out HL.out.2.2.1) (by rw [List.size_toArray, HX.out.2.2.2.1]; exact infoR) HX.out.2.2.2.2.2 ?_
            simp only [Act.put, List.setIfInBounds_toArray, List.set_cons_zero, List.set_cons_succ]
            refine hK.out _ _ trivial (fun hS => ?_)
            clear hK K
            refine takeD (i := 16) rfl (by kernel_rfl) (by kernel_rfl) (by kernel_rfl) (fun _ _ _ h => h) hS (Or.inl ⟨by rfl, fun w hSw => by go_simp; rfl⟩) ?_
            simp only [Act.put, List.setIfInBounds_toArray, List.set_cons_zero, List.set_cons_succ]
            refine wpAnyH_ready (rs := [17]) (by kernel_rfl) (by simp) ?_
            refine consD (i := 17) rfl (fun K hK => ?_) AllReadyH.nil
            rw [if_pos (by rfl)]
            refine wp_store_mid 63 (.tmp 76) (.tmp 74) rfl g (q * 5) cx.toArray rfl rfl (by rw [List.size_toArray, HX.out.2.2.1, ← HX.out.2.1]; exact OwnS.there (OwnS.store rowC_len HD.out HL.out.2.2.1 y) (by rw [List.length_set]; exact HL.out.2.2.2)) (by rw [List.size_toArray, HX.out.2.2.1]; exact infoR) HX.out.2.2.2.2.1 ?_
            simp only [Act.put, List.setIfInBounds_toArray, List.set_cons_zero, List.set_cons_succ]
            refine hK.out _ _ trivial (fun hS => ?_)
            clear hK K
            refine wpAnyH_done (by kernel_rfl) ?_ _
            have hs2 := OwnS.store rowC_len (OwnS.store rowC_len HD.out HL.out.2.2.1 y) (i := q) (by rw [List.length_set]; exact HL.out.2.2.2) x
            rw [HX.out.1, HX.out.2.1] at hs2
            have hm2 := ((HDm.out.trans' (Mod.setCells (S := fun x => x = g) (.inl rfl) cy (p * 5) (Mod.refl _ _))).trans' (Mod.setCells (S := fun x => x = g) (.inl rfl) cx (q * 5) (Mod.refl _ _)))
            have HE := Lib.hid (And.intro hs2 hm2)
            clear hs2 hm2
            go_wp2
            go_roundg (i - (t + 1))
            case measure => have h1 := HT.out; have h2 := HR.out; omega
            case rel =>
              obtain ⟨t1, t2, t3, t4⟩ := HT.out
              obtain ⟨r1, r2, r3, r4⟩ := HR.out
              refine ⟨t + 1, ?_, by omega, Nat.le_refl _, ?_, HE.out.2⟩
              · congr 1; omega
              · rw [← r1]; exact HE.out.1
          · rw [if_pos (by rfl)]
            refine wp_load_mid 63 (.tmp 73) rfl g (p * 5) rfl cx _ (by rw [← HX.out.1]; exact OwnS.range rowC_len HD.out HL.out.1) Tryz.underlying63 rfl (by rw [HX.out.2.2.1]; exact infoR) ?_
            simp only [Act.put, List.setIfInBounds_toArray, List.set_cons_zero, List.set_cons_succ]
            refine hK.out _ _ trivial (fun hS => ?_)
            clear hK K
            refine wpAnyH_ready (rs := [9]) (by kernel_rfl) (by simp) ?_
            refine consD (i := 9) rfl (fun K hK => ?_) AllReadyH.nil
            rw [if_pos (by rfl)]
            refine wp_load_mid 63 (.tmp 69) rfl g (q * 5) rfl cy _ (by rw [← HX.out.2.1]; exact OwnS.range rowC_len HD.out HL.out.2.1) Tryz.underlying63 rfl (by rw [HX.out.2.2.2.1]; exact infoR) ?_
            simp only [Act.put, List.setIfInBounds_toArray, List.set_cons_zero, List.set_cons_succ]
            refine hK.out _ _ trivial (fun hS => ?_)
            clear hK K
            refine takeD (i := 14) rfl (by kernel_rfl) (by kernel_rfl) (by kernel_rfl) (fun _ _ _ h => h) hS (Or.inl ⟨by rfl, fun w hSw => by go_simp; rfl⟩) ?_
            simp only [Act.put, List.setIfInBounds_toArray, List.set_cons_zero, List.set_cons_succ]
            refine wpAnyH_ready (rs := [15]) (by kernel_rfl) (by simp) ?_
            refine consD (i := 15) rfl (fun K hK => ?_) AllReadyH.nil
            rw [if_pos (by rfl)]
            refine wp_store_mid 63 (.tmp 75) (.tmp 70) rfl g (p * 5) cy.toArray rfl rfl (by rw [List.size_toArray, HX.out.2.2.2.1]; exact OwnS.there HD.out HL.out.2.2.1) (by rw [List.size_toArray, HX.out.2.2.2.1]; exact infoR) HX.out.2.2.2.2.2 ?_
            simp only [Act.put, List.setIfInBounds_toArray, List.set_cons_zero, List.set_cons_succ]
            refine hK.out _ _ trivial (fun hS => ?_)
            clear hK K
            refine takeD (i := 16) rfl (by kernel_rfl) (by kernel_rfl) (by kernel_rfl) (fun _ _ _ h => h) hS (Or.inl ⟨by rfl, fun w hSw => by go_simp; rfl⟩) ?_
            simp only [Act.put, List.setIfInBounds_toArray, List.set_cons_zero, List.set_cons_succ]
            refine wpAnyH_ready (rs := [17]) (by kernel_rfl) (by simp) ?_
            refine consD (i := 17) rfl (fun K hK => ?_) AllReadyH.nil
            rw [if_pos (by rfl)]
            refine wp_store_mid 63 (.tmp 76) (.tmp 74) rfl g (q * 5) cx.toArray rfl rfl (by rw [List.size_toArray, HX.out.2.2.1, ← HX.out.2.1]; exact OwnS.there (OwnS.store rowC_len HD.out HL.out.2.2.1 y) (by rw [List.length_set]; exact HL.out.2.2.2)) (by rw [List.size_toArray, HX.out.2.2.1]; exact infoR) HX.out.2.2.2.2.1 ?_
            simp only [Act.put, List.setIfInBounds_toArray, List.set_cons_zero, List.set_cons_succ]
            refine hK.out _ _ trivial (fun hS => ?_)
            clear hK K
            refine wpAnyH_done (by kernel_rfl) ?_ _
            have hs2 := OwnS.store rowC_len (OwnS.store rowC_len HD.out HL.out.2.2.1 y) (i := q) (by rw [List.length_set]; exact HL.out.2.2.2) x
            rw [HX.out.1, HX.out.2.1] at hs2
            have hm2 := ((HDm.out.trans' (Mod.setCells (S := fun x => x = g) (.inl rfl) cy (p * 5) (Mod.refl _ _))).trans' (Mod.setCells (S := fun x => x = g) (.inl rfl) cx (q * 5) (Mod.refl _ _)))
            have HE := Lib.hid (And.intro hs2 hm2)
            clear hs2 hm2
            go_wp2
            go_roundg (i - (t + 1))
            case measure => have h1 := HT.out; have h2 := HR.out; omega
            case rel =>
              obtain ⟨t1, t2, t3, t4⟩ := HT.out
              obtain ⟨r1, r2, r3, r4⟩ := HR.out
              refine ⟨t + 1, ?_, by omega, Nat.le_refl _, ?_, HE.out.2⟩
              · congr 1; omega
              · rw [← r1]; exact HE.out.1
        · have hUU := HU.out
          obtain ⟨p, hp⟩ : ∃ p, P.length + t = p := ⟨_, rfl⟩
          rw [hp]
          have k1 : ¬ (p : Int) < (u : Int) - 1 := by omega
          have HC := Lib.hid hc
          clear hti htg hown hmod hUU hp hc
          go_wp2
          (try simp only [Exit.inBlock, Exit.then])
          refine bodyPost_ret (results_none rfl _ _ _) rfl ?_
          obtain ⟨t1, t2, t3, t4⟩ := HT.out
          have hcc := HC.out
          obtain rfl : t = i := by omega
          have hz := Stab.one_left rowSwo HH.out.2.2.2.2.2.2 HI.out.2.1 HI.out.2.2.2.1 HI.out.2.2.2.2.1
          refine ⟨rfl, _, hz.1, hz.2, ?_, t4⟩
          simpa using t3
end Go.Proofs.YtojjnfhgldjgbaaGreatDoor.Watch
end
section
set_option linter.unusedVariables false
set_option linter.unusedSimpArgs false
namespace Go.Proofs.YtojjnfhgldjgbaaGreatDoor.Watch
open Go.RowKit Go.Por Go.Sort

set_option maxRecDepth 100000 in
set_option maxHeartbeats 1600000 in
theorem symOneR_row {w : World} {g cap L : Nat} {P X S : List RowT} {y : RowT} (h : OwnS rowC 5 w 63 (.slice (some ⟨g, 0, none⟩) L cap) (P ++ (X ++ (y :: S)))) (hl : L < 4611686018427387904) (hL : L = P.length + X.length + 1 + S.length) (hX : 2 ≤ X.length) (hs : Stab.Sorted (ltOf rcmp) X) (a m b : Nat) (ha : a = P.length) (hm : m = P.length + X.length) (hb : b = P.length + X.length + 1) :
    Calls Tryz.prog 110 #[.slice (some ⟨g, 0, none⟩) L cap, .int .i64 (a : Int), .int .i64 (m : Int), .int .i64 (b : Int), .func (.func 42) #[] #[]] w fun e w' =>
      e = .returned (.tuple #[]) ∧ ∃ Z : List RowT, Stab.Sorted (ltOf rcmp) Z ∧ Stab.Stab (ltOf rcmp) (X ++ [y]) Z ∧ OwnS rowC 5 w' 63 (.slice (some ⟨g, 0, none⟩) L cap) (P ++ (Z ++ S)) ∧ Mod (fun x => x = g) w w' := by
  have q : ((m : Int) - (a : Int) == (1 : Int)) = false := by rw [beq_eq_false_iff_ne]; omega
  have q2 : ((b : Int) - (m : Int) == (1 : Int)) = true := by rw [beq_iff_eq]; omega
  have hm1 : (m : Int) < 4611686018427387904 := by omega
  have ha1 : (a : Int) < 4611686018427387904 := by omega
  have hb1 : (b : Int) < 4611686018427387904 := by omega
  have hmL : (m : Int) < (L : Int) := by omega
  have HH := Lib.hid (And.intro h (And.intro hL (And.intro ha (And.intro hm (And.intro hb (And.intro hX hs))))))
  clear h hL ha hm hb hX hs
  go_enter Tryz.func110, Tryz.ntmps110
  go_wp2
  go_loopg [14, 15] X.length (fun gg vi vj wx => ∃ i j : Nat, vi = .int .i64 ((P.length + i : Nat) : Int) ∧ vj = .int .i64 ((P.length + j : Nat) : Int) ∧ i ≤ j ∧ j ≤ X.length ∧ j - i ≤ gg ∧ (∀ t x, t < i → X[t]? = some x → ltOf rcmp y x = false) ∧ (∀ t x, j ≤ t → X[t]? = some x → ltOf rcmp y x = true) ∧ Gr w wx)
  case atStart => exact ⟨0, X.length, by rw [HH.out.2.2.1]; rfl, by rw [HH.out.2.2.2.1], Nat.zero_le _, Nat.le_refl _, Nat.le_refl _, fun t y h => by omega, fun t y h hy => by have := (List.getElem?_eq_some_iff.1 hy).1; omega, Gr.refl w⟩
  case round =>
    obtain ⟨i, j, rfl, rfl, hij, hjX, hjg, hlo, hhi, hgr⟩ := hrel
    have HI := Lib.hid (And.intro hij (And.intro hjX (And.intro hjg (And.intro hlo (And.intro hhi hgr)))))
    by_cases hc : i < j
    · obtain ⟨k, hk⟩ : ∃ k, (i + j) / 2 = k := ⟨_, rfl⟩
      have hki : i ≤ k := by omega
      have hkj : k < j := by omega
      obtain ⟨u, hu⟩ : ∃ u, P.length + i = u := ⟨_, rfl⟩
      obtain ⟨v, hv⟩ : ∃ v, P.length + j = v := ⟨_, rfl⟩
      obtain ⟨h, hh⟩ : ∃ h, P.length + k = h := ⟨_, rfl⟩
      have huv : (u : Int) < (v : Int) := by omega
      have hLL := HH.out.2.1
      have hv1 : v ≤ L := by omega
      have u1 : (u : Int) < 4611686018427387904 := by omega
      have v1 : (v : Int) < 4611686018427387904 := by omega
      have hd : ((u : Int) + (v : Int)) / 2 = (h : Int) := by omega
      have h0 : (0 : Int) ≤ (h : Int) := by omega
      have h1 : (h : Int) < (L : Int) := by omega
      obtain ⟨x, hx⟩ : ∃ x, X[k]? = some x := ⟨_, List.getElem?_eq_getElem (by omega)⟩
      have hxL : (P ++ (X ++ (y :: S)))[h]? = some x := by
        rw [List.getElem?_append_right (by omega), show h - P.length = k by omega, List.getElem?_append_left (by omega), hx]
      have hyL : (P ++ (X ++ (y :: S)))[m]? = some y := by
        rw [HH.out.2.2.2.1, List.getElem?_append_right (by omega), Nat.add_sub_cancel_left, List.getElem?_append_right (Nat.le_refl _), Nat.sub_self]
        rfl
      rw [hu, hv]
      obtain ⟨cx, hcx⟩ : ∃ cx, rowC x = cx := ⟨_, rfl⟩
      obtain ⟨cy, hcy⟩ : ∃ cy, rowC y = cy := ⟨_, rfl⟩
      have ho := fun w => row_order y x w
      obtain ⟨n, hn⟩ : ∃ n, rcmp y x = n := ⟨_, rfl⟩
      have HN := Lib.hid hn
      rw [hcx, hcy, hn] at ho
      clear hn
      have HO := Lib.hid ho
      have HC := Lib.hid (And.intro hki (And.intro hkj (And.intro hu (And.intro hv (And.intro hh (And.intro hk (And.intro hx (And.intro hxL (And.intro hyL (And.intro hcx hcy))))))))))
      have HD := Lib.hid (show OwnS rowC 5 wr.drew 63 (.slice (some ⟨g, 0, none⟩) L cap) (P ++ (X ++ (y :: S))) from OwnS.gr HH.out.1 hgr.drew)
      clear hki hkj hu hv hh hk hij hjX hjg hlo hhi hgr hc hLL hv1 hx hyL hxL hcx hcy ho
      go_wp2_with fail
      clear hd
      refine wp_region_held_drew (S := fun w' => Gr wr.drew w') (by kernel_rfl) (Gr.refl _) (fun hS => ?_)
      refine takeD (i := 0) rfl (by kernel_rfl) (by kernel_rfl) (by kernel_rfl) (fun _ _ _ h => h) hS (Or.inl ⟨by rfl, fun w hSw => by go_simp; rfl⟩) ?_
      simp only [Act.put, List.setIfInBounds_toArray, List.set_cons_zero, List.set_cons_succ]
      refine takeD (i := 1) rfl (by kernel_rfl) (by kernel_rfl) (by kernel_rfl) (fun _ _ _ h => h) hS (Or.inl ⟨by rfl, fun w hSw => by go_simp; rfl⟩) ?_
      simp only [Act.put, List.setIfInBounds_toArray, List.set_cons_zero, List.set_cons_succ]
      refine takeD (i := 2) rfl (by kernel_rfl) (by kernel_rfl) (by kernel_rfl) (fun _ _ _ h => h) hS (Or.inl ⟨by rfl, fun w hSw => by go_simp; rfl⟩) ?_
      simp only [Act.put, List.setIfInBounds_toArray, List.set_cons_zero, List.set_cons_succ]
      refine takeD (i := 3) rfl (by kernel_rfl) (by kernel_rfl) (by kernel_rfl) (fun _ _ _ h => h) hS (Or.inl ⟨by rfl, fun w hSw => by go_simp; rfl⟩) ?_
      simp only [Act.put, List.setIfInBounds_toArray, List.set_cons_zero, List.set_cons_succ]
      refine takeD (i := 4) rfl (by kernel_rfl) (by kernel_rfl) (by kernel_rfl) (fun _ _ _ h => h) hS (yieldsIf_load_mid (by rfl) 63 (.tmp 95) rfl g (m * 5) rfl cy _ (fun w hSw => by rw [← HC.out.2.2.2.2.2.2.2.2.2.2]; exact OwnS.range rowC_len (OwnS.gr HD.out hSw) HC.out.2.2.2.2.2.2.2.2.1) Tryz.underlying63 rfl (by rw [← HC.out.2.2.2.2.2.2.2.2.2.2]; exact infoR)) ?_
      simp only [Act.put, List.setIfInBounds_toArray, List.set_cons_zero, List.set_cons_succ]
      refine takeD (i := 5) rfl (by kernel_rfl) (by kernel_rfl) (by kernel_rfl) (fun _ _ _ h => h) hS (Or.inl ⟨by rfl, fun w hSw => by go_simp; rfl⟩) ?_
      simp only [Act.put, List.setIfInBounds_toArray, List.set_cons_zero, List.set_cons_succ]
      refine takeD (i := 6) rfl (by kernel_rfl) (by kernel_rfl) (by kernel_rfl) (fun _ _ _ h => h) hS (Or.inl ⟨by rfl, fun w hSw => by go_simp; rfl⟩) ?_
      simp only [Act.put, List.setIfInBounds_toArray, List.set_cons_zero, List.set_cons_succ]
      refine takeD (i := 7) rfl (by kernel_rfl) (by kernel_rfl) (by kernel_rfl) (fun _ _ _ h => h) hS (Or.inl ⟨by rfl, fun w hSw => by go_simp; rfl⟩) ?_
      simp only [Act.put, List.setIfInBounds_toArray, List.set_cons_zero, List.set_cons_succ]
      refine takeD (i := 8) rfl (by kernel_rfl) (by kernel_rfl) (by kernel_rfl) (fun _ _ _ h => h) hS (yieldsIf_load_mid (by rfl) 63 (.tmp 99) rfl g (h * 5) rfl cx _ (fun w hSw => by rw [← HC.out.2.2.2.2.2.2.2.2.2.1]; exact OwnS.range rowC_len (OwnS.gr HD.out hSw) HC.out.2.2.2.2.2.2.2.1) Tryz.underlying63 rfl (by rw [← HC.out.2.2.2.2.2.2.2.2.2.1]; exact infoR)) ?_
      simp only [Act.put, List.setIfInBounds_toArray, List.set_cons_zero, List.set_cons_succ]
      refine wpAnyH_ready (rs := [9]) (by kernel_rfl) (by simp) ?_
      refine consD (i := 9) rfl (fun K hK => ?_) AllReadyH.nil
      rw [if_pos (by rfl)]
      go_simp
      ((with_reducible refine (HO.out _).mono ?_); rintro e w2 ⟨rfl, hg2⟩)
      dsimp only
      refine hK.out _ _ (hS.trans hg2) (fun hS => ?_)
      clear hK K
      refine takeD (i := 10) rfl (by kernel_rfl) (by kernel_rfl) (by kernel_rfl) (fun _ _ _ h => h) hS (Or.inl ⟨by rfl, fun w hSw => by go_simp; rfl⟩) ?_
      simp only [Act.put, List.setIfInBounds_toArray, List.set_cons_zero, List.set_cons_succ]
      refine takeD (i := 11) rfl (by kernel_rfl) (by kernel_rfl) (by kernel_rfl) (fun _ _ _ h => h) hS (Or.inl ⟨by rfl, fun w hSw => by go_simp; rfl⟩) ?_
      simp only [Act.put, List.setIfInBounds_toArray, List.set_cons_zero, List.set_cons_succ]
      refine wpAnyH_done (by kernel_rfl) ?_ _
      by_cases hq : n < 0
      · have hlt : ltOf rcmp y x = true := by rw [← HN.out] at hq; simp [ltOf, hq]
        have HQ := Lib.hid (And.intro hlt hS)
        have hdec : decide (n < 0) = true := by simp [hq]
        rw [hdec]
        clear hlt hg2 hS hdec hq
        simp only [Bool.not_true]
        go_wp2
        go_roundg (k - i)
        case measure => have h1 := HI.out; have h2 := HC.out; omega
        case rel =>
          obtain ⟨i1, i2, i3, i4, i5, i6⟩ := HI.out
          obtain ⟨c1, c2, c3, c4, c5, c6, c7, _⟩ := HC.out
          refine ⟨i, k, ?_, ?_, by omega, by omega, Nat.le_refl _, i4, fun t z ht hz => ?_, (i6.drew).trans HQ.out.2⟩
          · congr 1; omega
          · congr 1; omega
          · exact Stab.Sorted.above rowSwo HH.out.2.2.2.2.2.2 c7 HQ.out.1 hz (by omega)
      · have hlt : ltOf rcmp y x = false := by rw [← HN.out] at hq; simp [ltOf, hq]
        have HQ := Lib.hid (And.intro hlt hS)
        have hdec : decide (n < 0) = false := by simp [hq]
        rw [hdec]
        clear hlt hg2 hS hdec hq
        simp only [Bool.not_false]
        go_wp2
        go_roundg (j - (k + 1))
        case measure => have h1 := HI.out; have h2 := HC.out; omega
        case rel =>
          obtain ⟨i1, i2, i3, i4, i5, i6⟩ := HI.out
          obtain ⟨c1, c2, c3, c4, c5, c6, c7, _⟩ := HC.out
          refine ⟨k + 1, j, ?_, ?_, by omega, i2, Nat.le_refl _, fun t z ht hz => ?_, i5, (i6.drew).trans HQ.out.2⟩
          · congr 1; omega
          · congr 1; omega
          · exact Stab.Sorted.beneath rowSwo HH.out.2.2.2.2.2.2 c7 HQ.out.1 hz (by omega)
    · obtain rfl : i = j := by omega
      obtain ⟨u, hu⟩ : ∃ u, P.length + i = u := ⟨_, rfl⟩
      have HU := Lib.hid hu
      rw [hu]
      have huu : ¬ (u : Int) < (u : Int) := by omega
      have hLL := HH.out.2.1
      have hu1 : (u : Int) < 4611686018427387904 := by omega
      clear hij hjX hjg hlo hhi hgr hc hLL hu
      go_wp2
      go_loopg [17] X.length (fun gg vk wx => ∃ t : Nat, vk = .int .i64 ((P.length + t : Nat) : Int) ∧ i ≤ t ∧ t ≤ X.length ∧ t - i ≤ gg ∧ OwnS rowC 5 wx 63 (.slice (some ⟨g, 0, none⟩) L cap) (P ++ (X.take t ++ (y :: (X.drop t ++ S)))) ∧ Mod (fun x => x = g) w wx)
      case atStart => exact ⟨X.length, by rw [HH.out.2.2.2.1], HI.out.2.1, Nat.le_refl _, by omega, by have := OwnS.gr HH.out.1 HI.out.2.2.2.2.2; simpa using this, HI.out.2.2.2.2.2.mod⟩
      case round =>
        obtain ⟨t', rfl, hti, htX, htg, hown, hmod⟩ := hrel
        by_cases hc : i < t'
        · obtain ⟨t, rfl⟩ : ∃ t, t' = t + 1 := ⟨t' - 1, by omega⟩
          have HT := Lib.hid (And.intro hti (And.intro htX (And.intro htg (And.intro hown hmod))))
          obtain ⟨p, hp⟩ : ∃ p, P.length + t + 1 = p := ⟨_, rfl⟩
          obtain ⟨q, hq⟩ : ∃ q, P.length + t = q := ⟨_, rfl⟩
          have hLL := HH.out.2.1
          have hUU := HU.out
          have k1 : (u : Int) < (p : Int) := by omega
          have k2 : (p : Int) - 1 = (q : Int) := by omega
          have k3 : (p : Int) < (L : Int) := by omega
          have k4 : (q : Int) < (L : Int) := by omega
          have k5 : (p : Int) < 4611686018427387904 := by omega
          have k6 : IntKind.i64.wrap (p : Int) = (p : Int) := by simp [IntKind.wrap, IntKind.bits, IntKind.signed]; omega
          have k7 : IntKind.i64.wrap (q : Int) = (q : Int) := by simp [IntKind.wrap, IntKind.bits, IntKind.signed]; omega
          have k8 : (0 : Int) ≤ (p : Int) := by omega
          have k9 : (0 : Int) ≤ (q : Int) := by omega
          obtain ⟨x, hx⟩ : ∃ x, X[t]? = some x := ⟨_, List.getElem?_eq_getElem (by omega)⟩
          have hsh := shift_left P X S x y t hx
          rw [hp, hq] at hsh
          rw [show P.length + (t + 1) = p by omega]
          obtain ⟨l1, hl1⟩ : ∃ l1, P ++ (X.take (t + 1) ++ (y :: (X.drop (t + 1) ++ S))) = l1 := ⟨_, rfl⟩
          rw [hl1] at hsh hown
          obtain ⟨cx, hcx⟩ : ∃ cx, rowC y = cx := ⟨_, rfl⟩
          obtain ⟨cy, hcy⟩ : ∃ cy, rowC x = cy := ⟨_, rfl⟩
          have hx5 : cx.length = 5 := by rw [← hcx]; rfl
          have hy5 : cy.length = 5 := by rw [← hcy]; rfl
          have hx1 : cx.toArray.all (·.oneCell') = true := by rw [← hcx]; exact rowC_one y
          have hy1 : cy.toArray.all (·.oneCell') = true := by rw [← hcy]; exact rowC_one x
          have HX := Lib.hid (And.intro hcx (And.intro hcy (And.intro hx5 (And.intro hy5 (And.intro hx1 hy1)))))
          clear hcx hcy hx5 hy5 hx1 hy1
          have HL := Lib.hid (And.intro hsh.1 (And.intro hsh.2.1 (And.intro (List.getElem?_eq_some_iff.1 hsh.1).1 (List.getElem?_eq_some_iff.1 hsh.2.1).1)))
          have HR := Lib.hid (And.intro hsh.2.2 (And.intro hp (And.intro hq hc)))
          have HD := Lib.hid (show OwnS rowC 5 wr.drew 63 (.slice (some ⟨g, 0, none⟩) L cap) l1 from hown)
          have HDm := Lib.hid (show Mod (fun x => x = g) w wr.drew from hmod.drew)
          clear hti htX htg hown hmod hc hp hq hLL hUU hx hsh hl1
          go_wp2_with fail
          refine wp_region_held_drew (S := fun _ => True) (by kernel_rfl) trivial (fun hS => ?_)
          refine takeD (i := 0) rfl (by kernel_rfl) (by kernel_rfl) (by kernel_rfl) (fun _ _ _ h => h) hS (Or.inl ⟨by rfl, fun w hSw => by go_simp; rfl⟩) ?_
          simp only [Act.put, List.setIfInBounds_toArray, List.set_cons_zero, List.set_cons_succ]
          refine takeD (i := 1) rfl (by kernel_rfl) (by kernel_rfl) (by kernel_rfl) (fun _ _ _ h => h) hS (Or.inl ⟨by rfl, fun w hSw => by go_simp; rfl⟩) ?_
          simp only [Act.put, List.setIfInBounds_toArray, List.set_cons_zero, List.set_cons_succ]
          refine takeD (i := 2) rfl (by kernel_rfl) (by kernel_rfl) (by kernel_rfl) (fun _ _ _ h => h) hS (Or.inl ⟨by rfl, fun w hSw => by go_simp; rfl⟩) ?_
          simp only [Act.put, List.setIfInBounds_toArray, List.set_cons_zero, List.set_cons_succ]
          refine takeD (i := 3) rfl (by kernel_rfl) (by kernel_rfl) (by kernel_rfl) (fun _ _ _ h => h) hS (Or.inl ⟨by rfl, fun w hSw => by go_simp; rfl⟩) ?_
          simp only [Act.put, List.setIfInBounds_toArray, List.set_cons_zero, List.set_cons_succ]
          refine takeD (i := 4) rfl (by kernel_rfl) (by kernel_rfl) (by kernel_rfl) (fun _ _ _ h => h) hS (Or.inl ⟨by rfl, fun w hSw => by go_simp; rfl⟩) ?_
          simp only [Act.put, List.setIfInBounds_toArray, List.set_cons_zero, List.set_cons_succ]
          refine takeD (i := 5) rfl (by kernel_rfl) (by kernel_rfl) (by kernel_rfl) (fun _ _ _ h => h) hS (Or.inl ⟨by rfl, fun w hSw => by go_simp; rfl⟩) ?_
          simp only [Act.put, List.setIfInBounds_toArray, List.set_cons_zero, List.set_cons_succ]
          refine takeD (i := 6) rfl (by kernel_rfl) (by kernel_rfl) (by kernel_rfl) (fun _ _ _ h => h) hS (Or.inl ⟨by rfl, fun w hSw => by go_simp; rfl⟩) ?_
          simp only [Act.put, List.setIfInBounds_toArray, List.set_cons_zero, List.set_cons_succ]
          refine takeD (i := 7) rfl (by kernel_rfl) (by kernel_rfl) (by kernel_rfl) (fun _ _ _ h => h) hS (Or.inl ⟨by rfl, fun w hSw => by go_simp; rfl⟩) ?_
          simp only [Act.put, List.setIfInBounds_toArray, List.set_cons_zero, List.set_cons_succ]
          refine takeD (i := 8) rfl (by kernel_rfl) (by kernel_rfl) (by kernel_rfl) (fun _ _ _ h => h) hS (Or.inl ⟨by rfl, fun w hSw => by go_simp; rfl⟩) ?_
          simp only [Act.put, List.setIfInBounds_toArray, List.set_cons_zero, List.set_cons_succ]
          refine takeD (i := 10) rfl (by kernel_rfl) (by kernel_rfl) (by kernel_rfl) (fun _ _ _ h => h) hS (Or.inl ⟨by rfl, fun w hSw => by go_simp; rfl⟩) ?_
          simp only [Act.put, List.setIfInBounds_toArray, List.set_cons_zero, List.set_cons_succ]
          refine takeD (i := 11) rfl (by kernel_rfl) (by kernel_rfl) (by kernel_rfl) (fun _ _ _ h => h) hS (Or.inl ⟨by rfl, fun w hSw => by go_simp; rfl⟩) ?_
          simp only [Act.put, List.setIfInBounds_toArray, List.set_cons_zero, List.set_cons_succ]
          refine takeD (i := 12) rfl (by kernel_rfl) (by kernel_rfl) (by kernel_rfl) (fun _ _ _ h => h) hS (Or.inl ⟨by rfl, fun w hSw => by go_simp; rfl⟩) ?_
          simp only [Act.put, List.setIfInBounds_toArray, List.set_cons_zero, List.set_cons_succ]
          refine wpAnyH_ready (rs := [9, 13]) (by kernel_rfl) (by simp) ?_
          refine consD (i := 9) rfl (fun K hK => ?_) (consD (i := 13) rfl (fun K hK => ?_) AllReadyH.nil)
          · rw [if_pos (by rfl)]
            refine wp_load_mid 63 (.tmp 121) rfl g (q * 5) rfl cy _ (by rw [← HX.out.2.1]; exact OwnS.range rowC_len HD.out HL.out.2.1) Tryz.underlying63 rfl (by rw [HX.out.2.2.2.1]; exact infoR) ?_
            simp only [Act.put, List.setIfInBounds_toArray, List.set_cons_zero, List.set_cons_succ]
            refine hK.out _ _ trivial (fun hS => ?_)
            clear hK K
            refine wpAnyH_ready (rs := [13]) (by kernel_rfl) (by simp) ?_
            refine consD (i := 13) rfl (fun K hK => ?_) AllReadyH.nil
            rw [if_pos (by rfl)]
            refine wp_load_mid 63 (.tmp 125) rfl g (p * 5) rfl cx _ (by rw [← HX.out.1]; exact OwnS.range rowC_len HD.out HL.out.1) Tryz.underlying63 rfl (by rw [HX.out.2.2.1]; exact infoR) ?_
            simp only [Act.put, List.setIfInBounds_toArray, List.set_cons_zero, List.set_cons_succ]
            refine hK.out _ _ trivial (fun hS => ?_)
            clear hK K
            refine takeD (i := 14) rfl (by kernel_rfl) (by kernel_rfl) (by kernel_rfl) (fun _ _ _ h => h) hS (Or.inl ⟨by rfl, fun w hSw => by go_simp; rfl⟩) ?_
            simp only [Act.put, List.setIfInBounds_toArray, List.set_cons_zero, List.set_cons_succ]
            refine wpAnyH_ready (rs := [15]) (by kernel_rfl) (by simp) ?_
            refine consD (i := 15) rfl (fun K hK => ?_) AllReadyH.nil
            rw [if_pos (by rfl)]
            refine wp_store_mid 63 (.tmp 127) (.tmp 122) rfl g (p * 5) cy.toArray rfl rfl (by rw [List.size_toArray, HX.out.2.2.2.1]; exact OwnS.there HD.out HL.out.2.2.1) (by rw [List.size_toArray, HX.out.2.2.2.1]; exact infoR) HX.out.2.2.2.2.2 ?_
            simp only [Act.put, List.setIfInBounds_toArray, List.set_cons_zero, List.set_cons_succ]
            refine hK.out _ _ trivial (fun hS => ?_)
            clear hK K
            refine takeD (i := 16) rfl (by kernel_rfl) (by kernel_rfl) (by kernel_rfl) (fun _ _ _ h => h) hS (Or.inl ⟨by rfl, fun w hSw => by go_simp; rfl⟩) ?_
            simp only [Act.put, List.setIfInBounds_toArray, List.set_cons_zero, List.set_cons_succ]
            refine wpAnyH_ready (rs := [17]) (by kernel_rfl) (by simp) ?_
            refine consD (i := 17) rfl (fun K hK => ?_) AllReadyH.nil
            rw [if_pos (by rfl)]
            refine wp_store_mid 63 (.tmp 128) (.tmp 126) rfl g (q * 5) cx.toArray rfl rfl (by rw [List.size_toArray, HX.out.2.2.1, ← HX.out.2.1]; exact OwnS.there (OwnS.store rowC_len HD.out HL.out.2.2.1 x) (by rw [List.length_set]; exact HL.out.2.2.2)) (by rw [List.size_toArray, HX.out.2.2.1]; exact infoR) HX.out.2.2.2.2.1 ?_
            simp only [Act.put, List.setIfInBounds_toArray, List.set_cons_zero, List.set_cons_succ]
            refine hK.out _ _ trivial (fun hS => ?_)
            clear hK K
            refine wpAnyH_done (by kernel_rfl) ?_ _
            have hs2 := OwnS.store rowC_len (OwnS.store rowC_len HD.out HL.out.2.2.1 x) (i := q) (by rw [List.length_set]; exact HL.out.2.2.2) y
            rw [HX.out.1, HX.out.2.1] at hs2
            have hm2 := ((HDm.out.trans' (Mod.setCells (S := fun x => x = g) (.inl rfl) cy (p * 5) (Mod.refl _ _))).trans' (Mod.setCells (S := fun x => x = g) (.inl rfl) cx (q * 5) (Mod.refl _ _)))
            have HE := Lib.hid (And.intro hs2 hm2)
            clear hs2 hm2
            go_wp2
            go_roundg (t - i)
            case measure => have h1 := HT.out; have h2 := HR.out; omega
            case rel =>
              obtain ⟨t1, t2, t3, t4, t5⟩ := HT.out
              obtain ⟨r1, r2, r3, r4⟩ := HR.out
              refine ⟨t, ?_, by omega, by omega, Nat.le_refl _, ?_, HE.out.2⟩
              · congr 1; omega
              · rw [← r1]; exact HE.out.1
          · rw [if_pos (by rfl)]
            refine wp_load_mid 63 (.tmp 125) rfl g (p * 5) rfl cx _ (by rw [← HX.out.1]; exact OwnS.range rowC_len HD.out HL.out.1) Tryz.underlying63 rfl (by rw [HX.out.2.2.1]; exact infoR) ?_
            simp only [Act.put, List.setIfInBounds_toArray, List.set_cons_zero, List.set_cons_succ]
            refine hK.out _ _ trivial (fun hS => ?_)
            clear hK K
            refine wpAnyH_ready (rs := [9]) (by kernel_rfl) (by simp) ?_
            refine consD (i := 9) rfl (fun K hK => ?_) AllReadyH.nil
            rw [if_pos (by rfl)]
            refine wp_load_mid 63 (.tmp 121) rfl g (q * 5) rfl cy _ (by rw [← HX.out.2.1]; exact OwnS.range rowC_len HD.out HL.out.2.1) Tryz.underlying63 rfl (by rw [HX.out.2.2.2.1]; exact infoR) ?_
            simp only [Act.put, List.setIfInBounds_toArray, List.set_cons_zero, List.set_cons_succ]
            refine hK.out _ _ trivial (fun hS => ?_)
            clear hK K
            refine takeD (i := 14) rfl (by kernel_rfl) (by kernel_rfl) (by kernel_rfl) (fun _ _ _ h => h) hS (Or.inl ⟨by rfl, fun w hSw => by go_simp; rfl⟩) ?_
            simp only [Act.put, List.setIfInBounds_toArray, List.set_cons_zero, List.set_cons_succ]
            refine wpAnyH_ready (rs := [15]) (by kernel_rfl) (by simp) ?_
            refine consD (i := 15) rfl (fun K hK => ?_) AllReadyH.nil
            rw [if_pos (by rfl)]
            refine wp_store_mid 63 (.tmp 127) (.tmp 122) rfl g (p * 5) cy.toArray rfl rfl (by rw [List.size_toArray, HX.out.2.2.2.1]; exact OwnS.there HD.out HL.out.2.2.1) (by rw [List.size_toArray, HX.out.2.2.2.1]; exact infoR) HX.out.2.2.2.2.2 ?_
            simp only [Act.put, List.setIfInBounds_toArray, List.set_cons_zero, List.set_cons_succ]
            refine hK.out _ _ trivial (fun hS => ?_)
            clear hK K
            refine takeD (i := 16) rfl (by kernel_rfl) (by kernel_rfl) (by kernel_rfl) (fun _ _ _ h => h) hS (Or.inl ⟨by rfl, fun w hSw => by go_simp; rfl⟩) ?_
            simp only [Act.put, List.setIfInBounds_toArray, List.set_cons_zero, List.set_cons_succ]
            refine wpAnyH_ready (rs := [17]) (by kernel_rfl) (by simp) ?_
            refine consD (i := 17) rfl (fun K hK => ?_) AllReadyH.nil
            rw [if_pos (by rfl)]
            refine wp_store_mid 63 (.tmp 128) (.tmp 126) rfl g (q * 5) cx.toArray rfl rfl (by rw [List.size_toArray, HX.out.2.2.1, ← HX.out.2.1]; exact OwnS.there (OwnS.store rowC_len HD.out HL.out.2.2.1 x) (by rw [List.length_set]; exact HL.out.2.2.2)) (by rw [List.size_toArray, HX.out.2.2.1]; exact infoR) HX.out.2.2.2.2.1 ?_
            simp only [Act.put, List.setIfInBounds_toArray, List.set_cons_zero, List.set_cons_succ]
            refine hK.out _ _ trivial (fun hS => ?_)
            clear hK K
            refine wpAnyH_done (by kernel_rfl) ?_ _
            have hs2 := OwnS.store rowC_len (OwnS.store rowC_len HD.out HL.out.2.2.1 x) (i := q) (by rw [List.length_set]; exact HL.out.2.2.2) y
            rw [HX.out.1, HX.out.2.1] at hs2
            have hm2 := ((HDm.out.trans' (Mod.setCells (S := fun x => x = g) (.inl rfl) cy (p * 5) (Mod.refl _ _))).trans' (Mod.setCells (S := fun x => x = g) (.inl rfl) cx (q * 5) (Mod.refl _ _)))
            have HE := Lib.hid (And.intro hs2 hm2)
            clear hs2 hm2
            go_wp2
            go_roundg (t - i)
            case measure => have h1 := HT.out; have h2 := HR.out; omega
            case rel =>
              obtain ⟨t1, t2, t3, t4, t5⟩ := HT.out
              obtain ⟨r1, r2, r3, r4⟩ := HR.out
              refine ⟨t, ?_, by omega, by omega, Nat.le_refl _, ?_, HE.out.2⟩
              · congr 1; omega
              · rw [← r1]; exact HE.out.1
        · have hUU := HU.out
          have HT := Lib.hid (And.intro hti (And.intro htX (And.intro htg (And.intro hown hmod))))
          obtain ⟨p, hp⟩ : ∃ p, P.length + t' = p := ⟨_, rfl⟩
          rw [hp]
          have k1 : ¬ (u : Int) < (p : Int) := by omega
          have HC := Lib.hid hc
          clear hti htX htg hown hmod hUU hp hc
          go_wp2
          (try simp only [Exit.inBlock, Exit.then])
          refine bodyPost_ret (results_none rfl _ _ _) rfl ?_
          obtain ⟨t1, t2, t3, t4, t5⟩ := HT.out
          have hcc := HC.out
          obtain rfl : t' = i := by omega
          have hz := Stab.one_right rowSwo HH.out.2.2.2.2.2.2 HI.out.2.1 HI.out.2.2.2.1 HI.out.2.2.2.2.1
          refine ⟨rfl, _, hz.1, hz.2, ?_, t5⟩
          simpa using t4
end Go.Proofs.YtojjnfhgldjgbaaGreatDoor.Watch
end
