/- slices.rotateCmpFunc at changes. -/
import Derived.Test.YtobcakjlfdejjaaSwap
import Derived.Deep.LoopGhost
set_option linter.unusedVariables false
set_option linter.unusedSimpArgs false
namespace Go.Proofs.Ytobcakjlfdejjaa.Watch
open Go.RowKit Go.Por Go.Sort

theorem swap_parts_chg {w : World} {g cap L : Nat} {P X M Y S : List Chg} (h : OwnS chgC 5 w 43 (.slice (some ⟨g, 0, none⟩) L cap) (P ++ (X ++ (M ++ (Y ++ S))))) (hl : L < 4611686018427387904) (he : X.length = Y.length) (hL : L = P.length + X.length + M.length + Y.length + S.length) (fv : Value) (a b n : Int) (ha : a = (P.length : Int)) (hb : b = ((P.length + X.length + M.length : Nat) : Int)) (hn : n = (X.length : Int)) :
    Calls Try.prog 90 #[.slice (some ⟨g, 0, none⟩) L cap, .int .i64 a, .int .i64 b, .int .i64 n, fv] w fun e w' =>
      e = .returned (.tuple #[]) ∧ OwnS chgC 5 w' 43 (.slice (some ⟨g, 0, none⟩) L cap) (P ++ (Y ++ (M ++ (X ++ S)))) ∧ Mod (fun x => x = g) w w' := by
  subst ha hb hn
  have e : L = (P ++ (X ++ (M ++ (Y ++ S)))).length := by simp only [List.length_append]; omega
  rw [← swapR_parts P X M Y S he]
  rw [e] at h hl ⊢
  exact swapRange_chg h hl P.length (P.length + X.length + M.length) X.length (by simp only [List.length_append]; omega) (by simp only [List.length_append]; omega) fv

set_option maxRecDepth 100000 in
set_option maxHeartbeats 1600000 in
theorem rotate_chg {w : World} {g cap L : Nat} {P X Y S : List Chg} (h : OwnS chgC 5 w 43 (.slice (some ⟨g, 0, none⟩) L cap) (P ++ (X ++ (Y ++ S)))) (hl : L < 4611686018427387904) (hL : L = P.length + X.length + Y.length + S.length) (hX : 1 ≤ X.length) (hY : 1 ≤ Y.length) (fv : Value) (a m b : Int) (ha : a = (P.length : Int)) (hm : m = ((P.length + X.length : Nat) : Int)) (hb : b = ((P.length + X.length + Y.length : Nat) : Int)) :
    Calls Try.prog 79 #[.slice (some ⟨g, 0, none⟩) L cap, .int .i64 a, .int .i64 m, .int .i64 b, fv] w fun e w' =>
      e = .returned (.tuple #[]) ∧ OwnS chgC 5 w' 43 (.slice (some ⟨g, 0, none⟩) L cap) (P ++ (Y ++ (X ++ S))) ∧ Mod (fun x => x = g) w w' := by
  have e1 : m - a = (X.length : Int) := by omega
  have e2 : b - m = (Y.length : Int) := by omega
  have HH := Lib.hid (And.intro h (And.intro hL (And.intro hm (And.intro hX hY))))
  have hm0 : 0 ≤ m := by omega
  have hm1 : m < 4611686018427387904 := by omega
  have hX2 : (X.length : Int) < 4611686018427387904 := by omega
  have hY2 : (Y.length : Int) < 4611686018427387904 := by omega
  clear h hL hX hY ha hm hb
  go_enter Try.func79, Try.ntmps79
  go_wp2
  go_loopg [10, 11] (X.length + Y.length) (fun gg vi vj wx => ∃ A U V C : List Chg, 1 ≤ U.length ∧ 1 ≤ V.length ∧ U.length + V.length ≤ gg ∧ vi = .int .i64 (U.length : Int) ∧ vj = .int .i64 (V.length : Int) ∧ P.length + A.length + U.length = P.length + X.length ∧ A ++ (V ++ (U ++ C)) = Y ++ X ∧ OwnS chgC 5 wx 43 (.slice (some ⟨g, 0, none⟩) L cap) (P ++ (A ++ (U ++ (V ++ (C ++ S))))) ∧ Mod (fun x => x = g) w wx)
  case atStart => exact ⟨[], X, Y, [], HH.out.2.2.2.1, HH.out.2.2.2.2, Nat.le_refl _, rfl, rfl, by simp, by simp, by simpa using HH.out.1, Mod.refl _ _⟩
  case round =>
    obtain ⟨A, U, V, C, hU, hV, hle, rfl, rfl, hpos, heq, hown, hmod⟩ := hrel
    have hmm := HH.out.2.2.1
    have hLL := HH.out.2.1
    have hlen := congrArg List.length heq
    simp only [List.length_append] at hlen
    have f1 : m - (U.length : Int) = ((P.length + A.length : Nat) : Int) := by omega
    have HI := Lib.hid (And.intro hU (And.intro hV (And.intro hle (And.intro hpos (And.intro heq (And.intro hown (And.intro hmod hlen)))))))
    rcases Nat.lt_trichotomy U.length V.length with hc | hc | hc
    · have q : ((U.length : Int) != (V.length : Int)) = true := by rw [bne_iff_ne]; omega
      have q2 : ¬ (V.length : Int) < (U.length : Int) := by omega
      have z1 : (U.length : Int) < 4611686018427387904 := by omega
      have z2 : (V.length : Int) < 4611686018427387904 := by omega
      have z3 : (U.length : Int) ≤ (V.length : Int) := by omega
      have HC := Lib.hid hc
      clear hU hV hle hpos heq hown hmod hlen hc hmm hLL e1 e2
      go_wp2_with fail
      obtain ⟨V1, V2, hV, hV2⟩ : ∃ V1 V2 : List Chg, V = V1 ++ V2 ∧ V2.length = U.length := ⟨V.take (V.length - U.length), V.drop (V.length - U.length), (List.take_append_drop _ _).symm, by rw [List.length_drop]; have := HC.out; omega⟩
      have hv := congrArg List.length hV
      rw [List.length_append] at hv
      refine (swap_parts_chg (w := wr) (g := g) (cap := cap) (L := L) (P := P ++ A) (X := U) (M := V1) (Y := V2) (S := C ++ S) (by have h1 := HI.out.2.2.2.2.2.1; rw [hV] at h1; simpa using h1) hl hV2.symm (by have h1 := HI.out.2.2.2.2.2.2.2; have h2 := HH.out.2.1; simp only [List.length_append]; omega) fv _ _ _ (by rw [List.length_append]; omega) (by have h1 := HH.out.2.2.1; have h2 := HI.out.2.2.2.1; simp only [List.length_append]; omega) rfl).mono ?_
      rintro e w2 ⟨rfl, hown2, hm2⟩
      have H2 := Lib.hid (And.intro hown2 (And.intro hm2 (And.intro hV (And.intro hV2 hv))))
      clear hown2 hm2 hV hV2 hv
      go_wp2
      go_roundg (V2.length + V1.length)
      case measure => have h1 := HI.out; have h2 := H2.out.2.2; omega
      case rel =>
        have h0 := HC.out
        obtain ⟨i1, i2, i3, i4, i5, i6, i7, i8⟩ := HI.out
        obtain ⟨k1, k2, k3, k4, k5⟩ := H2.out
        refine ⟨A, V2, V1, U ++ C, by omega, by omega, by omega, ?_, ?_, by omega, ?_, ?_, i7.trans' k2⟩
        · rw [k4]
        · congr 1; omega
        · rw [← i5, k3]; simp
        · simpa using k1
    · have q : ((U.length : Int) != (V.length : Int)) = false := by simp [hc]
      have HC := Lib.hid hc
      clear hU hV hle hpos heq hown hmod hlen hc hmm hLL e1 e2
      go_wp2_with fail
      refine (swap_parts_chg (w := wr) (g := g) (cap := cap) (L := L) (P := P ++ A) (X := U) (M := []) (Y := V) (S := C ++ S) (by have := HI.out.2.2.2.2.2.1; simpa using this) hl HC.out (by have h1 := HI.out.2.2.2.2.2.2.2; have h2 := HH.out.2.1; simp only [List.length_append, List.length_nil]; omega) fv _ _ _ (by rw [List.length_append]; omega) (by have h1 := HH.out.2.2.1; have h2 := HI.out.2.2.2.1; simp only [List.length_append, List.length_nil]; omega) rfl).mono ?_
      rintro e w2 ⟨rfl, hown2, hm2⟩
      have H2 := Lib.hid (And.intro hown2 hm2)
      clear hown2 hm2
      go_wp2
      go_end0
      refine ⟨rfl, ?_, HI.out.2.2.2.2.2.2.1.trans' H2.out.2⟩
      have h1 := H2.out.1
      have h2 := HI.out.2.2.2.2.1
      rw [show (P ++ A) ++ (V ++ ([] ++ (U ++ (C ++ S)))) = P ++ ((A ++ (V ++ (U ++ C))) ++ S) by simp, h2, List.append_assoc] at h1
      exact h1
    · have q : ((U.length : Int) != (V.length : Int)) = true := by rw [bne_iff_ne]; omega
      have q2 : (V.length : Int) < (U.length : Int) := by omega
      have z1 : (U.length : Int) < 4611686018427387904 := by omega
      have z2 : (V.length : Int) < 4611686018427387904 := by omega
      have HC := Lib.hid hc
      clear hU hV hle hpos heq hown hmod hlen hc hmm hLL e1 e2
      go_wp2_with fail
      obtain ⟨U1, U2, hU, hU1⟩ : ∃ U1 U2 : List Chg, U = U1 ++ U2 ∧ U1.length = V.length := ⟨U.take V.length, U.drop V.length, (List.take_append_drop _ _).symm, by rw [List.length_take]; have := HC.out; omega⟩
      have hv := congrArg List.length hU
      rw [List.length_append] at hv
      refine (swap_parts_chg (w := wr) (g := g) (cap := cap) (L := L) (P := P ++ A) (X := U1) (M := U2) (Y := V) (S := C ++ S) (by have h1 := HI.out.2.2.2.2.2.1; rw [hU] at h1; simpa using h1) hl hU1 (by have h1 := HI.out.2.2.2.2.2.2.2; have h2 := HH.out.2.1; simp only [List.length_append]; omega) fv _ _ _ (by rw [List.length_append]; omega) (by have h1 := HH.out.2.2.1; have h2 := HI.out.2.2.2.1; simp only [List.length_append]; omega) (by rw [hU1])).mono ?_
      rintro e w2 ⟨rfl, hown2, hm2⟩
      have H2 := Lib.hid (And.intro hown2 (And.intro hm2 (And.intro hU (And.intro hU1 hv))))
      clear hown2 hm2 hU hU1 hv
      go_wp2
      go_roundg (U2.length + U1.length)
      case measure => have h1 := HI.out; have h2 := H2.out.2.2; omega
      case rel =>
        have h0 := HC.out
        obtain ⟨i1, i2, i3, i4, i5, i6, i7, i8⟩ := HI.out
        obtain ⟨k1, k2, k3, k4, k5⟩ := H2.out
        refine ⟨A ++ V, U2, U1, C, by omega, by omega, by omega, ?_, ?_, ?_, ?_, ?_, i7.trans' k2⟩
        · congr 1; omega
        · rw [k4]
        · rw [List.length_append]; omega
        · rw [← i5, k3]; simp
        · simpa using k1
end Go.Proofs.Ytobcakjlfdejjaa.Watch
