/- WatchNet, where what came in is of bulk at most 1048576: what leads from some tuples to others does so in a store, and n: part 13 of 32: what it leans on. -/
import Derived.Deep.LoopGhost
import Derived.Sort.LotA
import Derived.Test.YtojjnfhgldjgbaaGreatDoorNtA
import Derived.Test.YtojjnfhgldjgbaaGreatDoorNtB
import Derived.Test.YtojjnfhgldjgbaaGreatDoorNtC
import Derived.Test.YtojjnfhgldjgbaaGreatDoorNtD
import Derived.Test.YtojjnfhgldjgbaaGreatDoorNtE
import Derived.Test.YtojjnfhgldjgbaaGreatDoorNtL
section
set_option linter.unusedVariables false
set_option linter.unusedSimpArgs false
namespace Go.Proofs.YtojjnfhgldjgbaaGreatDoor.Watch

theorem swapR_at {α : Type} (l : List α) (a b n : Nat) (hab : a + n ≤ b) (hb : b + n ≤ l.length) : ∀ k, k ≤ n → ∀ i, (swapR l a b k)[i]? = if a ≤ i ∧ i < a + k then l[i - a + b]? else if b ≤ i ∧ i < b + k then l[i - b + a]? else l[i]?
  | 0, _, i => by
    rw [if_neg (by omega), if_neg (by omega)]
    rfl
  | k + 1, hk, i => by
    have ih := swapR_at l a b n hab hb k (by omega)
    have h1 : (swapR l a b k)[a + k]? = l[a + k]? := by rw [ih, if_neg (by omega), if_neg (by omega)]
    have h2 : (swapR l a b k)[b + k]? = l[b + k]? := by rw [ih, if_neg (by omega), if_neg (by omega)]
    obtain ⟨x, hx⟩ : ∃ x, l[a + k]? = some x := ⟨_, List.getElem?_eq_getElem (by omega)⟩
    obtain ⟨y, hy⟩ : ∃ y, l[b + k]? = some y := ⟨_, List.getElem?_eq_getElem (by omega)⟩
    have hlen := swapR_length l a b k
    rw [swapR, h1, h2, hx, hy]
    simp only [List.getElem?_set, List.length_set, hlen, ih]
    by_cases e1 : b + k = i
    · subst e1
      rw [if_pos rfl, if_pos (by omega), if_neg (by omega), if_pos (by omega), ← hx]
      congr 1
      omega
    · rw [if_neg e1]
      by_cases e2 : a + k = i
      · subst e2
        rw [if_pos rfl, if_pos (by omega), if_pos (by omega), ← hy]
        congr 1
        omega
      · rw [if_neg e2]
        by_cases c1 : a ≤ i ∧ i < a + k
        · rw [if_pos c1, if_pos (by omega)]
        · rw [if_neg c1]
          by_cases c2 : b ≤ i ∧ i < b + k
          · rw [if_pos c2, if_neg (show ¬ (a ≤ i ∧ i < a + (k + 1)) by omega), if_pos (show b ≤ i ∧ i < b + (k + 1) by omega)]
          · rw [if_neg c2, if_neg (show ¬ (a ≤ i ∧ i < a + (k + 1)) by omega), if_neg (show ¬ (b ≤ i ∧ i < b + (k + 1)) by omega)]
theorem swapR_parts {α : Type} (P X M Y S : List α) (h : X.length = Y.length) :
    swapR (P ++ (X ++ (M ++ (Y ++ S)))) P.length (P.length + X.length + M.length) X.length = P ++ (Y ++ (M ++ (X ++ S))) := by
  apply List.ext_getElem?
  intro i
  rw [swapR_at _ _ _ X.length (by omega) (by simp only [List.length_append]; omega) _ (Nat.le_refl _)]
  simp only [List.getElem?_append]
  repeat' split
  all_goals first
    | rfl
    | (exfalso; omega)
    | (congr 1; omega)
end Go.Proofs.YtojjnfhgldjgbaaGreatDoor.Watch
end
section
set_option linter.unusedVariables false
set_option linter.unusedSimpArgs false
namespace Go.Proofs.YtojjnfhgldjgbaaGreatDoor.Watch
open Go.RowKit Go.Por Go.Sort

theorem swap_parts_chg {w : World} {g cap L : Nat} {P X M Y S : List Chg} (h : OwnS chgC 5 w 83 (.slice (some ⟨g, 0, none⟩) L cap) (P ++ (X ++ (M ++ (Y ++ S))))) (hl : L < 4611686018427387904) (he : X.length = Y.length) (hL : L = P.length + X.length + M.length + Y.length + S.length) (fv : Value) (a b n : Int) (ha : a = (P.length : Int)) (hb : b = ((P.length + X.length + M.length : Nat) : Int)) (hn : n = (X.length : Int)) :
    Calls Tryz.prog 182 #[.slice (some ⟨g, 0, none⟩) L cap, .int .i64 a, .int .i64 b, .int .i64 n, fv] w fun e w' =>
      e = .returned (.tuple #[]) ∧ OwnS chgC 5 w' 83 (.slice (some ⟨g, 0, none⟩) L cap) (P ++ (Y ++ (M ++ (X ++ S)))) ∧ Mod (fun x => x = g) w w' := by
  subst ha hb hn
  have e : L = (P ++ (X ++ (M ++ (Y ++ S)))).length := by simp only [List.length_append]; omega
  rw [← swapR_parts P X M Y S he]
  rw [e] at h hl ⊢
  exact swapRange_chg h hl P.length (P.length + X.length + M.length) X.length (by simp only [List.length_append]; omega) (by simp only [List.length_append]; omega) fv

set_option maxRecDepth 100000 in
set_option maxHeartbeats 1600000 in
theorem rotate_chg {w : World} {g cap L : Nat} {P X Y S : List Chg} (h : OwnS chgC 5 w 83 (.slice (some ⟨g, 0, none⟩) L cap) (P ++ (X ++ (Y ++ S)))) (hl : L < 4611686018427387904) (hL : L = P.length + X.length + Y.length + S.length) (hX : 1 ≤ X.length) (hY : 1 ≤ Y.length) (fv : Value) (a m b : Int) (ha : a = (P.length : Int)) (hm : m = ((P.length + X.length : Nat) : Int)) (hb : b = ((P.length + X.length + Y.length : Nat) : Int)) :
    Calls Tryz.prog 154 #[.slice (some ⟨g, 0, none⟩) L cap, .int .i64 a, .int .i64 m, .int .i64 b, fv] w fun e w' =>
      e = .returned (.tuple #[]) ∧ OwnS chgC 5 w' 83 (.slice (some ⟨g, 0, none⟩) L cap) (P ++ (Y ++ (X ++ S))) ∧ Mod (fun x => x = g) w w' := by
  have e1 : m - a = (X.length : Int) := by omega
  have e2 : b - m = (Y.length : Int) := by omega
  have HH := Lib.hid (And.intro h (And.intro hL (And.intro hm (And.intro hX hY))))
  have hm0 : 0 ≤ m := by omega
  have hm1 : m < 4611686018427387904 := by omega
  have hX2 : (X.length : Int) < 4611686018427387904 := by omega
  have hY2 : (Y.length : Int) < 4611686018427387904 := by omega
  clear h hL hX hY ha hm hb
  go_enter Tryz.func154, Tryz.ntmps154
  go_wp2
  go_loopg [10, 11] (X.length + Y.length) (fun gg vi vj wx => ∃ A U V C : List Chg, 1 ≤ U.length ∧ 1 ≤ V.length ∧ U.length + V.length ≤ gg ∧ vi = .int .i64 (U.length : Int) ∧ vj = .int .i64 (V.length : Int) ∧ P.length + A.length + U.length = P.length + X.length ∧ A ++ (V ++ (U ++ C)) = Y ++ X ∧ OwnS chgC 5 wx 83 (.slice (some ⟨g, 0, none⟩) L cap) (P ++ (A ++ (U ++ (V ++ (C ++ S))))) ∧ Mod (fun x => x = g) w wx)
  case atStart => exact ⟨[], X, Y, [], HH.out.2.2.2.1, HH.out.2.2.2.2, Nat.le_refl _, rfl, rfl, by simp, by simp, by simpa using HH.out.1, Mod.refl _ _⟩
  case round =>
    obtain ⟨A, U, V, C, hU, hV, hle, rfl, rfl, hpos, heq, hown, hmod⟩ := hrel
    have hmm := HH.out.2.2.1
    have hLL := HH.out.2.1
    have hlen := congrArg List.length heq
    simp only [List.length_append] at hlen
    have f1 : m - (U.length : Int) = ((P.length + A.length : Nat) : Int) := by omega
    have HI := Lib.hid (And.intro hU (And.intro hV (And.intro hle (And.intro hpos (And.intro heq (And.intro hown (And.intro hmod hlen)))))))
    rcases Nat.lt_trichotomy U.length V.length with hc | hc | hc
    · have q : ((U.length : Int) != (V.length : Int)) = true := by rw [bne_iff_ne]; omega
      have q2 : ¬ (V.length : Int) < (U.length : Int) := by omega
      have z1 : (U.length : Int) < 4611686018427387904 := by omega
      have z2 : (V.length : Int) < 4611686018427387904 := by omega
      have z3 : (U.length : Int) ≤ (V.length : Int) := by omega
      have HC := Lib.hid hc
      clear hU hV hle hpos heq hown hmod hlen hc hmm hLL e1 e2
      go_wp2_with fail
      obtain ⟨V1, V2, hV, hV2⟩ : ∃ V1 V2 : List Chg, V = V1 ++ V2 ∧ V2.length = U.length := ⟨V.take (V.length - U.length), V.drop (V.length - U.length), (List.take_append_drop _ _).symm, by rw [List.length_drop]; have := HC.out; omega⟩
      have hv := congrArg List.length hV
      rw [List.length_append] at hv
      refine (swap_parts_chg (w := wr) (g := g) (cap := cap) (L := L) (P := P ++ A) (X := U) (M := V1) (Y := V2) (S := C ++ S) (by have h1 := HI.out.2.2.2.2.2.1; rw [hV] at h1; simpa using h1) hl hV2.symm (by have h1 := HI.out.2.2.2.2.2.2.2; have h2 := HH.out.2.1; simp only [List.length_append]; omega) fv _ _ _ (by rw [List.length_append]; omega) (by have h1 := HH.out.2.2.1; have h2 := HI.out.2.2.2.1; simp only [List.length_append]; omega) rfl).mono ?_
      rintro e w2 ⟨rfl, hown2, hm2⟩
      have H2 := Lib.hid (And.intro hown2 (And.intro hm2 (And.intro hV (And.intro hV2 hv))))
      clear hown2 hm2 hV hV2 hv
      go_wp2
      go_roundg (V2.length + V1.length)
      case measure => have h1 := HI.out; have h2 := H2.out.2.2; omega
      case rel =>
        have h0 := HC.out
        obtain ⟨i1, i2, i3, i4, i5, i6, i7, i8⟩ := HI.out
        obtain ⟨k1, k2, k3, k4, k5⟩ := H2.out
        refine ⟨A, V2, V1, U ++ C, by omega, by omega, by omega, ?_, ?_, by omega, ?_, ?_, i7.trans' k2⟩
        · rw [k4]
        · congr 1; omega
        · rw [← i5, k3]; simp
        · simpa using k1
    · have q : ((U.length : Int) != (V.length : Int)) = false := by simp [hc]
      have HC := Lib.hid hc
      clear hU hV hle hpos heq hown hmod hlen hc hmm hLL e1 e2
      go_wp2_with fail
      refine (swap_parts_chg (w := wr) (g := g) (cap := cap) (L := L) (P := P ++ A) (X := U) (M := []) (Y := V) (S := C ++ S) (by have := HI.out.2.2.2.2.2.1; simpa using this) hl HC.out (by have h1 := HI.out.2.2.2.2.2.2.2; have h2 := HH.out.2.1; simp only [List.length_append, List.length_nil]; omega) fv _ _ _ (by rw [List.length_append]; omega) (by have h1 := HH.out.2.2.1; have h2 := HI.out.2.2.2.1; simp only [List.length_append, List.length_nil]; omega) rfl).mono ?_
      rintro e w2 ⟨rfl, hown2, hm2⟩
      have H2 := Lib.hid (And.intro hown2 hm2)
      clear hown2 hm2
      go_wp2
      go_end0
      refine ⟨rfl, ?_, HI.out.2.2.2.2.2.2.1.trans' H2.out.2⟩
      have h1 := H2.out.1
      have h2 := HI.out.2.2.2.2.1
      rw [show (P ++ A) ++ (V ++ ([] ++ (U ++ (C ++ S)))) = P ++ ((A ++ (V ++ (U ++ C))) ++ S) by simp, h2, List.append_assoc] at h1
      exact h1
    · have q : ((U.length : Int) != (V.length : Int)) = true := by rw [bne_iff_ne]; omega
      have q2 : (V.length : Int) < (U.length : Int) := by omega
      have z1 : (U.length : Int) < 4611686018427387904 := by omega
      have z2 : (V.length : Int) < 4611686018427387904 := by omega
      have HC := Lib.hid hc
      clear hU hV hle hpos heq hown hmod hlen hc hmm hLL e1 e2
      go_wp2_with fail
      obtain ⟨U1, U2, hU, hU1⟩ : ∃ U1 U2 : List Chg, U = U1 ++ U2 ∧ U1.length = V.length := ⟨U.take V.length, U.drop V.length, (List.take_append_drop _ _).symm, by rw [List.length_take]; have := HC.out; omega⟩
      have hv := congrArg List.length hU
      rw [List.length_append] at hv
      refine (swap_parts_chg (w := wr) (g := g) (cap := cap) (L := L) (P := P ++ A) (X := U1) (M := U2) (Y := V) (S := C ++ S) (by have h1 := HI.out.2.2.2.2.2.1; rw [hU] at h1; simpa using h1) hl hU1 (by have h1 := HI.out.2.2.2.2.2.2.2; have h2 := HH.out.2.1; simp only [List.length_append]; omega) fv _ _ _ (by rw [List.length_append]; omega) (by have h1 := HH.out.2.2.1; have h2 := HI.out.2.2.2.1; simp only [List.length_append]; omega) (by rw [hU1])).mono ?_
      rintro e w2 ⟨rfl, hown2, hm2⟩
      have H2 := Lib.hid (And.intro hown2 (And.intro hm2 (And.intro hU (And.intro hU1 hv))))
      clear hown2 hm2 hU hU1 hv
      go_wp2
      go_roundg (U2.length + U1.length)
      case measure => have h1 := HI.out; have h2 := H2.out.2.2; omega
      case rel =>
        have h0 := HC.out
        obtain ⟨i1, i2, i3, i4, i5, i6, i7, i8⟩ := HI.out
        obtain ⟨k1, k2, k3, k4, k5⟩ := H2.out
        refine ⟨A ++ V, U2, U1, C, by omega, by omega, by omega, ?_, ?_, ?_, ?_, ?_, i7.trans' k2⟩
        · congr 1; omega
        · rw [k4]
        · rw [List.length_append]; omega
        · rw [← i5, k3]; simp
        · simpa using k1
end Go.Proofs.YtojjnfhgldjgbaaGreatDoor.Watch
end
section
set_option linter.unusedVariables false
set_option linter.unusedSimpArgs false
namespace Go.Por.Stab
open Go.Sort Go.Proofs
section
variable {α : Type} {lt : α → α → Bool}
theorem lt_of_le_lt (h : SWO lt) {x y z : α} (h1 : lt y x = false) (h2 : lt y z = true) : lt x z = true := by
  cases k : lt x z with
  | true => rfl
  | false => rw [h.ntrans y x z h1 k] at h2; cases h2
theorem lt_of_lt_le (h : SWO lt) {x y z : α} (h1 : lt x y = true) (h2 : lt z y = false) : lt x z = true := by
  cases k : lt x z with
  | true => rfl
  | false => rw [h.ntrans x z y k h2] at h1; cases h1
theorem Sorted.at (h : SWO lt) {l : List α} (hs : Sorted lt l) {i j : Nat} {x y : α} (hi : l[i]? = some x) (hj : l[j]? = some y) (hij : i ≤ j) : lt y x = false := by
  obtain ⟨i1, rfl⟩ := List.getElem?_eq_some_iff.1 hi
  obtain ⟨j1, rfl⟩ := List.getElem?_eq_some_iff.1 hj
  rcases Nat.lt_or_eq_of_le hij with k | rfl
  · exact List.pairwise_iff_getElem.1 hs i j i1 j1 k
  · exact h.irrefl _
/-- What stands at or ahead of one that is less is less. -/
theorem Sorted.low (h : SWO lt) {l : List α} (hs : Sorted lt l) {k t : Nat} {y z x : α} (hk : l[k]? = some y) (hl : lt y x = true) (ht : l[t]? = some z) (htk : t ≤ k) : lt z x = true :=
  lt_of_le_lt h (hs.at h ht hk htk) hl
theorem Sorted.high (h : SWO lt) {l : List α} (hs : Sorted lt l) {k t : Nat} {y z x : α} (hk : l[k]? = some y) (hl : lt y x = false) (ht : l[t]? = some z) (htk : k ≤ t) : lt z x = false :=
  h.ntrans _ _ _ (hs.at h hk ht htk) hl
/-- What stands at or behind one that is greater is greater. -/
theorem Sorted.above (h : SWO lt) {l : List α} (hs : Sorted lt l) {k t : Nat} {y z x : α} (hk : l[k]? = some y) (hl : lt x y = true) (ht : l[t]? = some z) (htk : k ≤ t) : lt x z = true :=
  lt_of_lt_le h hl (hs.at h hk ht htk)
theorem Sorted.beneath (h : SWO lt) {l : List α} (hs : Sorted lt l) {k t : Nat} {y z x : α} (hk : l[k]? = some y) (hl : lt x y = false) (ht : l[t]? = some z) (htk : t ≤ k) : lt x z = false :=
  h.ntrans _ _ _ hl (hs.at h ht hk htk)
theorem SWO.asymm' (h : SWO lt) {x y : α} (hxy : lt x y = true) : lt y x = false := by
  cases k : lt y x with
  | false => rfl
  | true => have := h.trans x y x hxy k; rw [h.irrefl] at this; cases this
theorem no_eqv (h : SWO lt) {x y : α} (hyx : lt y x = true) : eqv lt x y = false := by simp [eqv, hyx]
/-- One element goes behind those of a sorted part that are less. -/
theorem one_left (h : SWO lt) {x : α} {Y : List α} (hs : Sorted lt Y) {i : Nat} (hi : i ≤ Y.length) (hlo : ∀ t y, t < i → Y[t]? = some y → lt y x = true) (hhi : ∀ t y, i ≤ t → Y[t]? = some y → lt y x = false) :
    Sorted lt (Y.take i ++ (x :: Y.drop i)) ∧ Stab lt (x :: Y) (Y.take i ++ (x :: Y.drop i)) := by
  have hs2 : Sorted lt (Y.take i ++ Y.drop i) := by rw [List.take_append_drop]; exact hs
  have l1 : ∀ y ∈ Y.take i, lt y x = true := fun y hy => by
    obtain ⟨t, ht⟩ := List.getElem?_of_mem hy
    rw [List.getElem?_take] at ht
    split at ht
    · exact hlo t y (by assumption) ht
    · cases ht
  have l2 : ∀ y ∈ Y.drop i, lt y x = false := fun y hy => by
    obtain ⟨t, ht⟩ := List.getElem?_of_mem hy
    rw [List.getElem?_drop] at ht
    exact hhi _ y (by omega) ht
  refine ⟨List.pairwise_append.2 ⟨hs2.left, List.pairwise_cons.2 ⟨l2, hs2.right⟩, fun a ha b hb => ?_⟩, ?_⟩
  · rcases List.mem_cons.1 hb with rfl | hb
    · exact SWO.asymm' h (l1 a ha)
    · exact hs2.cross a ha b hb
  · have e : x :: Y = [x] ++ Y.take i ++ Y.drop i := by rw [List.append_assoc, List.take_append_drop]; rfl
    have e2 : Y.take i ++ (x :: Y.drop i) = Y.take i ++ [x] ++ Y.drop i := by simp
    rw [e, e2]
    exact Stab.append (Stab.swap h (fun a ha b hb => by rw [List.mem_singleton.1 ha]; exact no_eqv h (l1 b hb))) (Stab.refl _)
theorem one_right (h : SWO lt) {y : α} {X : List α} (hs : Sorted lt X) {i : Nat} (hi : i ≤ X.length) (hlo : ∀ t x, t < i → X[t]? = some x → lt y x = false) (hhi : ∀ t x, i ≤ t → X[t]? = some x → lt y x = true) :
    Sorted lt (X.take i ++ (y :: X.drop i)) ∧ Stab lt (X ++ [y]) (X.take i ++ (y :: X.drop i)) := by
  have hs2 : Sorted lt (X.take i ++ X.drop i) := by rw [List.take_append_drop]; exact hs
  have l1 : ∀ x ∈ X.take i, lt y x = false := fun x hx => by
    obtain ⟨t, ht⟩ := List.getElem?_of_mem hx
    rw [List.getElem?_take] at ht
    split at ht
    · exact hlo t x (by assumption) ht
    · cases ht
  have l2 : ∀ x ∈ X.drop i, lt y x = true := fun x hx => by
    obtain ⟨t, ht⟩ := List.getElem?_of_mem hx
    rw [List.getElem?_drop] at ht
    exact hhi _ x (by omega) ht
  refine ⟨List.pairwise_append.2 ⟨hs2.left, List.pairwise_cons.2 ⟨fun x hx => SWO.asymm' h (l2 x hx), hs2.right⟩, fun a ha b hb => ?_⟩, ?_⟩
  · rcases List.mem_cons.1 hb with rfl | hb
    · exact l1 a ha
    · exact hs2.cross a ha b hb
  · have e : X ++ [y] = X.take i ++ (X.drop i ++ [y]) := by rw [← List.append_assoc, List.take_append_drop]
    have e2 : X.take i ++ (y :: X.drop i) = X.take i ++ ([y] ++ X.drop i) := rfl
    rw [e, e2]
    exact Stab.append (Stab.refl _) (Stab.swap h (fun a ha b hb => by rw [List.mem_singleton.1 hb]; exact no_eqv h (l2 a ha)))
/-- Two sorted parts, cut where all of the one's rear is behind all of the other's front. -/
theorem four (h : SWO lt) {X1 X2 Y1 Y2 Z1 Z2 : List α} (hX : Sorted lt (X1 ++ X2)) (hY : Sorted lt (Y1 ++ Y2)) (h1 : ∀ x ∈ X1, ∀ y ∈ Y2, lt y x = false) (h2 : ∀ x ∈ X2, ∀ y ∈ Y1, lt y x = true)
    (s1 : Sorted lt Z1) (k1 : Stab lt (X1 ++ Y1) Z1) (s2 : Sorted lt Z2) (k2 : Stab lt (X2 ++ Y2) Z2) : Sorted lt (Z1 ++ Z2) ∧ Stab lt ((X1 ++ X2) ++ (Y1 ++ Y2)) (Z1 ++ Z2) := by
  refine ⟨Sorted.append s1 s2 (fun x hx y hy => ?_), ?_⟩
  · rw [k1.mem h] at hx
    rw [k2.mem h] at hy
    rcases List.mem_append.1 hx with hx | hx <;> rcases List.mem_append.1 hy with hy | hy
    · exact hX.cross x hx y hy
    · exact h1 x hx y hy
    · exact SWO.asymm' h (h2 y hy x hx)
    · exact hY.cross x hx y hy
  · have m : Stab lt ((X1 ++ X2) ++ (Y1 ++ Y2)) ((X1 ++ Y1) ++ (X2 ++ Y2)) := by
      have : Stab lt (X1 ++ ((X2 ++ Y1) ++ Y2)) (X1 ++ ((Y1 ++ X2) ++ Y2)) := Stab.append (Stab.refl _) (Stab.append (Stab.swap h (fun a ha b hb => no_eqv h (h2 a ha b hb))) (Stab.refl _))
      simpa using this
    exact m.trans (Stab.append k1 k2)
end
/-- Where the search ends the fronts are no later than the rears. -/
theorem cut_ok {α : Type} {lt : α → α → Bool} (h : SWO lt) {X Y : List α} (hX : Sorted lt X) (hY : Sorted lt Y) (i j : Nat)
    (lo : i = 0 ∨ Y.length ≤ j ∨ ∃ x y, 1 ≤ i ∧ X[i - 1]? = some x ∧ Y[j]? = some y ∧ lt y x = false)
    (up : X.length ≤ i ∨ j = 0 ∨ ∃ x y, 1 ≤ j ∧ X[i]? = some x ∧ Y[j - 1]? = some y ∧ lt y x = true) :
    (∀ x ∈ X.take i, ∀ y ∈ Y.drop j, lt y x = false) ∧ (∀ x ∈ X.drop i, ∀ y ∈ Y.take j, lt y x = true) := by
  constructor
  · intro x hx y hy
    obtain ⟨t, ht⟩ := List.getElem?_of_mem hx
    obtain ⟨r, hr⟩ := List.getElem?_of_mem hy
    rw [List.getElem?_take] at ht
    rw [List.getElem?_drop] at hr
    split at ht
    · rename_i hti
      rcases lo with rfl | hj | ⟨x0, y0, h1, hx0, hy0, hl⟩
      · omega
      · have := (List.getElem?_eq_some_iff.1 hr).1; omega
      · exact h.ntrans y x0 x (h.ntrans y y0 x0 (hY.at h hy0 hr (by omega)) hl) (hX.at h ht hx0 (by omega))
    · cases ht
  · intro x hx y hy
    obtain ⟨t, ht⟩ := List.getElem?_of_mem hx
    obtain ⟨r, hr⟩ := List.getElem?_of_mem hy
    rw [List.getElem?_drop] at ht
    rw [List.getElem?_take] at hr
    split at hr
    · rename_i hti
      rcases up with hi | rfl | ⟨x0, y0, h1, hx0, hy0, hl⟩
      · have := (List.getElem?_eq_some_iff.1 ht).1; omega
      · omega
      · exact lt_of_lt_le h (lt_of_le_lt h (hY.at h hr hy0 (by omega)) hl) (hX.at h hx0 ht (by omega))
    · cases hr
/-- By one first, then by another. -/
theorem lexSwo {α β γ : Type} {c1 : β → β → Int} {c2 : γ → γ → Int} {p : α → β} {q : α → γ} (t1 : SWO (ltOf c1)) (z1 : ∀ a b, c1 a b = 0 ↔ a = b) (n1 : ∀ a b, ltOf c1 a b = false → ltOf c1 b a = false → a = b) (t2 : SWO (ltOf c2)) (or2 : Int → Int → Int)
    (ho : ∀ a b, or2 a b = if a = 0 then b else a) : SWO (ltOf (fun x y : α => or2 (c1 (p x) (p y)) (c2 (q x) (q y)))) := by
  have key : ∀ x y : α, ltOf (fun x y : α => or2 (c1 (p x) (p y)) (c2 (q x) (q y))) x y = true ↔ (ltOf c1 (p x) (p y) = true ∨ p x = p y ∧ ltOf c2 (q x) (q y) = true) := by
    intro x y
    simp only [ltOf, ho, decide_eq_true_eq]
    by_cases e : c1 (p x) (p y) = 0
    · rw [if_pos e]
      have := (z1 _ _).1 e
      rw [e]
      simp [this]
    · rw [if_neg e]
      have : ¬ p x = p y := fun k => e ((z1 _ _).2 k)
      simp [this]
  have neg : ∀ x y : α, ltOf (fun x y : α => or2 (c1 (p x) (p y)) (c2 (q x) (q y))) x y = false ↔ (ltOf c1 (p y) (p x) = true ∨ p x = p y ∧ ltOf c2 (q x) (q y) = false) := by
    intro x y
    rw [← Bool.not_eq_true, key]
    constructor
    · intro h
      cases k : ltOf c1 (p y) (p x) with
      | true => exact .inl rfl
      | false =>
        cases k2 : ltOf c1 (p x) (p y) with
        | true => exact absurd (.inl k2) h
        | false =>
          have e := n1 _ _ k2 k
          refine .inr ⟨e, ?_⟩
          cases k3 : ltOf c2 (q x) (q y) with
          | false => rfl
          | true => exact absurd (.inr ⟨e, k3⟩) h
    · rintro (h | ⟨e, h⟩) (k | ⟨e', k⟩)
      · have := t1.trans _ _ _ h k; rw [t1.irrefl] at this; cases this
      · rw [e', t1.irrefl] at h; cases h
      · rw [e, t1.irrefl] at k; cases k
      · rw [h] at k; cases k
  refine ⟨fun x => (neg x x).2 (.inr ⟨rfl, t2.irrefl _⟩), fun x y z h k => ?_, fun x y z h k => ?_⟩
  · rw [key] at *
    rcases h with h | ⟨e, h⟩ <;> rcases k with k | ⟨e', k⟩
    · exact .inl (t1.trans _ _ _ h k)
    · exact .inl (e' ▸ h)
    · exact .inl (e ▸ k)
    · exact .inr ⟨e.trans e', t2.trans _ _ _ h k⟩
  · rw [neg] at *
    rcases h with h | ⟨e, h⟩ <;> rcases k with k | ⟨e', k⟩
    · exact .inl (t1.trans _ _ _ k h)
    · exact .inl (e' ▸ h)
    · exact .inl (e ▸ k)
    · exact .inr ⟨e.trans e', t2.ntrans _ _ _ h k⟩
end Go.Por.Stab
namespace Go.Proofs.YtojjnfhgldjgbaaGreatDoor.Watch
open Go.Por Go.Sort
theorem cmpInt_neg (a b : Int) : ltOf Lib.compareInt a b = true ↔ a < b := by
  unfold ltOf Lib.compareInt
  repeat' split
  all_goals simp <;> omega
theorem cmpInt_no (a b : Int) : ltOf Lib.compareInt a b = false ↔ b ≤ a := by
  rw [← Bool.not_eq_true, cmpInt_neg]; omega
theorem intSwo : SWO (ltOf Lib.compareInt) := ⟨fun x => (cmpInt_no x x).2 (Int.le_refl _), fun x y z h k => by rw [cmpInt_neg] at *; omega, fun x y z h k => by rw [cmpInt_no] at *; omega⟩
theorem chgSwo : SWO (ltOf ccmp) :=
  Stab.lexSwo (c1 := Lib.compareInt) (c2 := tcmp) (p := fun x : Chg => x.1) (q := fun x : Chg => x.2.2) intSwo (fun a b => by unfold Lib.compareInt; repeat' split <;> simp <;> omega) (fun a b h k => by rw [cmpInt_no] at *; omega) tupSwo or2v (fun _ _ => rfl)
theorem rowSwo : SWO (ltOf rcmp) :=
  Stab.lexSwo (c1 := tcmp) (c2 := Lib.compareInt) (p := fun x : RowT => x.1) (q := fun x : RowT => x.2.1) tupSwo (fun a b => tcmp_zero) tupTotal intSwo or2v (fun _ _ => rfl)
theorem mutSwo : SWO (ltOf mcmp) :=
  ⟨fun x => tupSwo.irrefl x.2, fun x y z h k => tupSwo.trans x.2 y.2 z.2 h k, fun x y z h k => tupSwo.ntrans x.2 y.2 z.2 h k⟩
end Go.Proofs.YtojjnfhgldjgbaaGreatDoor.Watch
end
section
set_option linter.unusedVariables false
set_option linter.unusedSimpArgs false
namespace Go.Proofs.YtojjnfhgldjgbaaGreatDoor.Watch
open Go.RowKit Go.Por Go.Sort

theorem shift_right {α : Type} (P Y S : List α) (x y : α) (t : Nat) (hy : Y[t]? = some y) :
    (P ++ (Y.take t ++ (x :: (Y.drop t ++ S))))[P.length + t]? = some x ∧ (P ++ (Y.take t ++ (x :: (Y.drop t ++ S))))[P.length + t + 1]? = some y ∧
    ((P ++ (Y.take t ++ (x :: (Y.drop t ++ S)))).set (P.length + t) y).set (P.length + t + 1) x = P ++ (Y.take (t + 1) ++ (x :: (Y.drop (t + 1) ++ S))) := by
  obtain ⟨ht, he⟩ := List.getElem?_eq_some_iff.1 hy
  have e1 : Y.drop t = y :: Y.drop (t + 1) := by rw [List.drop_eq_getElem_cons ht, he]
  have e2 : Y.take (t + 1) = Y.take t ++ [y] := by rw [List.take_add_one, hy]; rfl
  have hl : (Y.take t).length = t := by rw [List.length_take]; omega
  rw [e1, e2]
  have a1 : P ++ (Y.take t ++ (x :: (y :: Y.drop (t + 1) ++ S))) = (P ++ Y.take t) ++ (x :: y :: (Y.drop (t + 1) ++ S)) := by simp
  have hn : (P ++ Y.take t).length = P.length + t := by rw [List.length_append, hl]
  rw [a1]
  refine ⟨?_, ?_, ?_⟩
  · rw [List.getElem?_append_right (by omega), hn, Nat.sub_self]; rfl
  · rw [List.getElem?_append_right (by omega), hn, show P.length + t + 1 - (P.length + t) = 1 by omega]; rfl
  · rw [List.set_append_right _ _ (by omega), hn, Nat.sub_self, List.set_cons_zero, List.set_append_right _ _ (by omega), hn, show P.length + t + 1 - (P.length + t) = 1 by omega, List.set_cons_succ, List.set_cons_zero]
    simp
theorem shift_left {α : Type} (P X S : List α) (x y : α) (t : Nat) (hx : X[t]? = some x) :
    (P ++ (X.take (t + 1) ++ (y :: (X.drop (t + 1) ++ S))))[P.length + t + 1]? = some y ∧ (P ++ (X.take (t + 1) ++ (y :: (X.drop (t + 1) ++ S))))[P.length + t]? = some x ∧
    ((P ++ (X.take (t + 1) ++ (y :: (X.drop (t + 1) ++ S)))).set (P.length + t + 1) x).set (P.length + t) y = P ++ (X.take t ++ (y :: (X.drop t ++ S))) := by
  obtain ⟨ht, he⟩ := List.getElem?_eq_some_iff.1 hx
  have e1 : X.drop t = x :: X.drop (t + 1) := by rw [List.drop_eq_getElem_cons ht, he]
  have e2 : X.take (t + 1) = X.take t ++ [x] := by rw [List.take_add_one, hx]; rfl
  have hl : (X.take t).length = t := by rw [List.length_take]; omega
  rw [e1, e2]
  have a1 : P ++ (X.take t ++ [x] ++ (y :: (X.drop (t + 1) ++ S))) = (P ++ X.take t) ++ (x :: y :: (X.drop (t + 1) ++ S)) := by simp
  have hn : (P ++ X.take t).length = P.length + t := by rw [List.length_append, hl]
  rw [a1]
  refine ⟨?_, ?_, ?_⟩
  · rw [List.getElem?_append_right (by omega), hn, show P.length + t + 1 - (P.length + t) = 1 by omega]; rfl
  · rw [List.getElem?_append_right (by omega), hn, Nat.sub_self]; rfl
  · rw [List.set_append_right _ _ (by omega), hn, show P.length + t + 1 - (P.length + t) = 1 by omega, List.set_cons_succ, List.set_cons_zero, List.set_append_right _ _ (by omega), hn, Nat.sub_self, List.set_cons_zero]
    simp
theorem Gr.mod {S : Nat → Prop} {w w' : World} (h : Gr w w') : Mod S w w' := Mod.of_below h.below S
theorem OwnS.gr {α : Type} {f : α → List Value} {c : Nat} {w w' : World} {E : TypeId} {v : Value} {l : List α} (h : OwnS f c w E v l) (hg : Gr w w') : OwnS f c w' E v l :=
  OwnS.mod h (hg.mod (S := fun _ => False)) (fun _ _ h => h)

set_option maxRecDepth 100000 in
set_option maxHeartbeats 1600000 in
theorem symOneL_chg {w : World} {g cap L : Nat} {P Y S : List Chg} {x : Chg} (h : OwnS chgC 5 w 83 (.slice (some ⟨g, 0, none⟩) L cap) (P ++ (x :: (Y ++ S)))) (hl : L < 4611686018427387904) (hL : L = P.length + 1 + Y.length + S.length) (hY : 1 ≤ Y.length) (hs : Stab.Sorted (ltOf ccmp) Y) (a m b : Nat) (ha : a = P.length) (hm : m = P.length + 1) (hb : b = P.length + 1 + Y.length) :
    Calls Tryz.prog 108 #[.slice (some ⟨g, 0, none⟩) L cap, .int .i64 (a : Int), .int .i64 (m : Int), .int .i64 (b : Int), .func (.func 40) #[] #[]] w fun e w' =>
      e = .returned (.tuple #[]) ∧ ∃ Z : List Chg, Stab.Sorted (ltOf ccmp) Z ∧ Stab.Stab (ltOf ccmp) (x :: Y) Z ∧ OwnS chgC 5 w' 83 (.slice (some ⟨g, 0, none⟩) L cap) (P ++ (Z ++ S)) ∧ Mod (fun x => x = g) w w' := by
  have q : ((m : Int) - (a : Int) == (1 : Int)) = true := by rw [beq_iff_eq]; omega
  have hm1 : (m : Int) < 4611686018427387904 := by omega
  have ha1 : (a : Int) < 4611686018427387904 := by omega
  have haL : (a : Int) < (L : Int) := by omega
  have HH := Lib.hid (And.intro h (And.intro hL (And.intro ha (And.intro hm (And.intro hb (And.intro hY hs))))))
  clear h hL ha hm hb hY hs
  go_enter Tryz.func108, Tryz.ntmps108
  go_wp2
  go_loopg [10, 11] Y.length (fun gg vi vj wx => ∃ i j : Nat, vi = .int .i64 ((P.length + 1 + i : Nat) : Int) ∧ vj = .int .i64 ((P.length + 1 + j : Nat) : Int) ∧ i ≤ j ∧ j ≤ Y.length ∧ j - i ≤ gg ∧ (∀ t y, t < i → Y[t]? = some y → ltOf ccmp y x = true) ∧ (∀ t y, j ≤ t → Y[t]? = some y → ltOf ccmp y x = false) ∧ Gr w wx)
  case atStart => exact ⟨0, Y.length, by rw [HH.out.2.2.2.1], by rw [HH.out.2.2.2.2.1], Nat.zero_le _, Nat.le_refl _, Nat.le_refl _, fun t y h => by omega, fun t y h hy => by have := (List.getElem?_eq_some_iff.1 hy).1; omega, Gr.refl w⟩
  case round =>
    obtain ⟨i, j, rfl, rfl, hij, hjY, hjg, hlo, hhi, hgr⟩ := hrel
    have HI := Lib.hid (And.intro hij (And.intro hjY (And.intro hjg (And.intro hlo (And.intro hhi hgr)))))
    by_cases hc : i < j
    · obtain ⟨k, hk⟩ : ∃ k, (i + j) / 2 = k := ⟨_, rfl⟩
      have hki : i ≤ k := by omega
      have hkj : k < j := by omega
      obtain ⟨u, hu⟩ : ∃ u, P.length + 1 + i = u := ⟨_, rfl⟩
      obtain ⟨v, hv⟩ : ∃ v, P.length + 1 + j = v := ⟨_, rfl⟩
      obtain ⟨h, hh⟩ : ∃ h, P.length + 1 + k = h := ⟨_, rfl⟩
      have huv : (u : Int) < (v : Int) := by omega
      have hLL := HH.out.2.1
      have hv1 : v ≤ L := by omega
      have u1 : (u : Int) < 4611686018427387904 := by omega
      have v1 : (v : Int) < 4611686018427387904 := by omega
      have hd : ((u : Int) + (v : Int)) / 2 = (h : Int) := by omega
      have h0 : (0 : Int) ≤ (h : Int) := by omega
      have h1 : (h : Int) < (L : Int) := by omega
      obtain ⟨y, hy⟩ : ∃ y, Y[k]? = some y := ⟨_, List.getElem?_eq_getElem (by omega)⟩
      have hyL : (P ++ (x :: (Y ++ S)))[h]? = some y := by
        rw [List.getElem?_append_right (by omega), show h - P.length = k + 1 by omega, List.getElem?_cons_succ, List.getElem?_append_left (by omega), hy]
      have hxL : (P ++ (x :: (Y ++ S)))[a]? = some x := by
        rw [HH.out.2.2.1, List.getElem?_append_right (Nat.le_refl _), Nat.sub_self]
        rfl
      rw [hu, hv]
      obtain ⟨cx, hcx⟩ : ∃ cx, chgC x = cx := ⟨_, rfl⟩
      obtain ⟨cy, hcy⟩ : ∃ cy, chgC y = cy := ⟨_, rfl⟩
      have ho := fun w => chg_order y x w
      obtain ⟨n, hn⟩ : ∃ n, ccmp y x = n := ⟨_, rfl⟩
      have HN := Lib.hid hn
      rw [hcx, hcy, hn] at ho
      clear hn
      have HO := Lib.hid ho
      have HC := Lib.hid (And.intro hki (And.intro hkj (And.intro hu (And.intro hv (And.intro hh (And.intro hk (And.intro hy (And.intro hyL (And.intro hxL (And.intro hcx hcy))))))))))
      have HD := Lib.hid (show OwnS chgC 5 wr.drew 83 (.slice (some ⟨g, 0, none⟩) L cap) (P ++ (x :: (Y ++ S))) from OwnS.gr HH.out.1 hgr.drew)
      clear hki hkj hu hv hh hk hij hjY hjg hlo hhi hgr hc hLL hv1 hy hyL hxL hcx hcy ho
      go_wp2_with fail

      clear hd
      refine wp_region_held_drew (S := fun w' => Gr wr.drew w') (by kernel_rfl) (Gr.refl _) (fun hS => ?_)
      refine takeD (i := 0) rfl (by kernel_rfl) (by kernel_rfl) (by kernel_rfl) (fun _ _ _ h => h) hS (Or.inl ⟨by rfl, fun w hSw => by go_simp; rfl⟩) ?_
      simp only [Act.put, List.setIfInBounds_toArray, List.set_cons_zero, List.set_cons_succ]
      refine takeD (i := 1) rfl (by kernel_rfl) (by kernel_rfl) (by kernel_rfl) (fun _ _ _ h => h) hS (Or.inl ⟨by rfl, fun w hSw => by go_simp; rfl⟩) ?_
      simp only [Act.put, List.setIfInBounds_toArray, List.set_cons_zero, List.set_cons_succ]
      refine takeD (i := 2) rfl (by kernel_rfl) (by kernel_rfl) (by kernel_rfl) (fun _ _ _ h => h) hS (Or.inl ⟨by rfl, fun w hSw => by go_simp; rfl⟩) ?_
      simp only [Act.put, List.setIfInBounds_toArray, List.set_cons_zero, List.set_cons_succ]
      refine takeD (i := 3) rfl (by kernel_rfl) (by kernel_rfl) (by kernel_rfl) (fun _ _ _ h => h) hS (Or.inl ⟨by rfl, fun w hSw => by go_simp; rfl⟩) ?_
      simp only [Act.put, List.setIfInBounds_toArray, List.set_cons_zero, List.set_cons_succ]
      refine takeD (i := 4) rfl (by kernel_rfl) (by kernel_rfl) (by kernel_rfl) (fun _ _ _ h => h) hS (yieldsIf_load_mid (by rfl) 83 (.tmp 43) rfl g (h * 5) rfl cy _ (fun w hSw => by rw [← HC.out.2.2.2.2.2.2.2.2.2.2]; exact OwnS.range chgC_len (OwnS.gr HD.out hSw) HC.out.2.2.2.2.2.2.2.1) Tryz.underlying83 rfl (by rw [← HC.out.2.2.2.2.2.2.2.2.2.2]; exact infoC)) ?_
      simp only [Act.put, List.setIfInBounds_toArray, List.set_cons_zero, List.set_cons_succ]
      refine takeD (i := 5) rfl (by kernel_rfl) (by kernel_rfl) (by kernel_rfl) (fun _ _ _ h => h) hS (Or.inl ⟨by rfl, fun w hSw => by go_simp; rfl⟩) ?_
      simp only [Act.put, List.setIfInBounds_toArray, List.set_cons_zero, List.set_cons_succ]
      refine takeD (i := 6) rfl (by kernel_rfl) (by kernel_rfl) (by kernel_rfl) (fun _ _ _ h => h) hS (Or.inl ⟨by rfl, fun w hSw => by go_simp; rfl⟩) ?_
      simp only [Act.put, List.setIfInBounds_toArray, List.set_cons_zero, List.set_cons_succ]
      refine takeD (i := 7) rfl (by kernel_rfl) (by kernel_rfl) (by kernel_rfl) (fun _ _ _ h => h) hS (Or.inl ⟨by rfl, fun w hSw => by go_simp; rfl⟩) ?_
      simp only [Act.put, List.setIfInBounds_toArray, List.set_cons_zero, List.set_cons_succ]
      refine takeD (i := 8) rfl (by kernel_rfl) (by kernel_rfl) (by kernel_rfl) (fun _ _ _ h => h) hS (yieldsIf_load_mid (by rfl) 83 (.tmp 47) rfl g (a * 5) rfl cx _ (fun w hSw => by rw [← HC.out.2.2.2.2.2.2.2.2.2.1]; exact OwnS.range chgC_len (OwnS.gr HD.out hSw) HC.out.2.2.2.2.2.2.2.2.1) Tryz.underlying83 rfl (by rw [← HC.out.2.2.2.2.2.2.2.2.2.1]; exact infoC)) ?_
      simp only [Act.put, List.setIfInBounds_toArray, List.set_cons_zero, List.set_cons_succ]
      refine wpAnyH_ready (rs := [9]) (by kernel_rfl) (by simp) ?_
      refine consD (i := 9) rfl (fun K hK => ?_) AllReadyH.nil
      rw [if_pos (by rfl)]
      go_simp
      ((with_reducible refine (HO.out _).mono ?_); rintro e w2 ⟨rfl, hg2⟩)
      dsimp only
      refine hK.out _ _ (hS.trans hg2) (fun hS => ?_)
      clear hK K
      refine takeD (i := 10) rfl (by kernel_rfl) (by kernel_rfl) (by kernel_rfl) (fun _ _ _ h => h) hS (Or.inl ⟨by rfl, fun w hSw => by go_simp; rfl⟩) ?_
      simp only [Act.put, List.setIfInBounds_toArray, List.set_cons_zero, List.set_cons_succ]
      refine wpAnyH_done (by kernel_rfl) ?_ _
      by_cases hq : n < 0
      · have hlt : ltOf ccmp y x = true := by rw [← HN.out] at hq; simp [ltOf, hq]
        have HQ := Lib.hid (And.intro hlt hS)
        have hdec : decide (n < 0) = true := by simp [hq]
        rw [hdec]
        clear hlt hg2 hS hdec hq
        go_wp2
        go_roundg (j - (k + 1))
        case measure => have h1 := HI.out; have h2 := HC.out; omega
        case rel =>
          obtain ⟨i1, i2, i3, i4, i5, i6⟩ := HI.out
          obtain ⟨c1, c2, c3, c4, c5, c6, c7, _⟩ := HC.out
          refine ⟨k + 1, j, ?_, ?_, by omega, i2, Nat.le_refl _, fun t z ht hz => ?_, i5, (i6.drew).trans HQ.out.2⟩
          · congr 1; omega
          · congr 1; omega
          · exact Stab.Sorted.low chgSwo HH.out.2.2.2.2.2.2 c7 HQ.out.1 hz (by omega)
      · have hlt : ltOf ccmp y x = false := by rw [← HN.out] at hq; simp [ltOf, hq]
        have HQ := Lib.hid (And.intro hlt hS)
        have hdec : decide (n < 0) = false := by simp [hq]
        rw [hdec]
        clear hlt hg2 hS hdec hq
        go_wp2
        go_roundg (k - i)
        case measure => have h1 := HI.out; have h2 := HC.out; omega
        case rel =>
          obtain ⟨i1, i2, i3, i4, i5, i6⟩ := HI.out
          obtain ⟨c1, c2, c3, c4, c5, c6, c7, _⟩ := HC.out
          refine ⟨i, k, ?_, ?_, by omega, by omega, Nat.le_refl _, i4, fun t z ht hz => ?_, (i6.drew).trans HQ.out.2⟩
          · congr 1; omega
          · congr 1; omega
          · exact Stab.Sorted.high chgSwo HH.out.2.2.2.2.2.2 c7 HQ.out.1 hz (by omega)
    · obtain rfl : i = j := by omega
      obtain ⟨u, hu⟩ : ∃ u, P.length + 1 + i = u := ⟨_, rfl⟩
      have HU := Lib.hid hu
      rw [hu]
      have huu : ¬ (u : Int) < (u : Int) := by omega
      have hLL := HH.out.2.1
      have hu1 : (u : Int) < 4611686018427387904 := by omega
      have hu0 : (0 : Int) ≤ (u : Int) - 1 := by omega
      clear hij hjY hjg hlo hhi hgr hc hLL hu
      go_wp2
      go_loopg [13] i (fun gg vk wx => ∃ t : Nat, vk = .int .i64 ((P.length + t : Nat) : Int) ∧ t ≤ i ∧ i - t ≤ gg ∧ OwnS chgC 5 wx 83 (.slice (some ⟨g, 0, none⟩) L cap) (P ++ (Y.take t ++ (x :: (Y.drop t ++ S)))) ∧ Mod (fun x => x = g) w wx)
      case atStart => exact ⟨0, by rw [HH.out.2.2.1]; rfl, Nat.zero_le _, by omega, by have := OwnS.gr HH.out.1 HI.out.2.2.2.2.2; simpa using this, HI.out.2.2.2.2.2.mod⟩
      case round =>
        obtain ⟨t, rfl, hti, htg, hown, hmod⟩ := hrel
        have HT := Lib.hid (And.intro hti (And.intro htg (And.intro hown hmod)))
        by_cases hc : t < i
        · obtain ⟨p, hp⟩ : ∃ p, P.length + t = p := ⟨_, rfl⟩
          obtain ⟨q, hq⟩ : ∃ q, P.length + t + 1 = q := ⟨_, rfl⟩
          have hLL := HH.out.2.1
          have hYi := HI.out.2.1
          have hUU := HU.out
          have k1 : (p : Int) < (u : Int) - 1 := by omega
          have k2 : (p : Int) + 1 = (q : Int) := by omega
          have k3 : (p : Int) < (L : Int) := by omega
          have k4 : (q : Int) < (L : Int) := by omega
          have k5 : (p : Int) < 4611686018427387904 := by omega
          have k6 : IntKind.i64.wrap (p : Int) = (p : Int) := by simp [IntKind.wrap, IntKind.bits, IntKind.signed]; omega
          have k7 : IntKind.i64.wrap (q : Int) = (q : Int) := by simp [IntKind.wrap, IntKind.bits, IntKind.signed]; omega
          have k8 : (0 : Int) ≤ (p : Int) := by omega
          have k9 : (0 : Int) ≤ (q : Int) := by omega
          obtain ⟨y, hy⟩ : ∃ y, Y[t]? = some y := ⟨_, List.getElem?_eq_getElem (by omega)⟩
          have hsh := shift_right P Y S x y t hy
          rw [hp] at hsh ⊢
          rw [show p + 1 = q by omega] at hsh
          obtain ⟨l1, hl1⟩ : ∃ l1, P ++ (Y.take t ++ (x :: (Y.drop t ++ S))) = l1 := ⟨_, rfl⟩
          rw [hl1] at hsh hown
          obtain ⟨cx, hcx⟩ : ∃ cx, chgC x = cx := ⟨_, rfl⟩
          obtain ⟨cy, hcy⟩ : ∃ cy, chgC y = cy := ⟨_, rfl⟩
          have hx5 : cx.length = 5 := by rw [← hcx]; rfl
          have hy5 : cy.length = 5 := by rw [← hcy]; rfl
          have hx1 : cx.toArray.all (·.oneCell') = true := by rw [← hcx]; exact chgC_one x
          have hy1 : cy.toArray.all (·.oneCell') = true := by rw [← hcy]; exact chgC_one y
          have HX := Lib.hid (And.intro hcx (And.intro hcy (And.intro hx5 (And.intro hy5 (And.intro hx1 hy1)))))
          clear hcx hcy hx5 hy5 hx1 hy1
          have HL := Lib.hid (And.intro hsh.1 (And.intro hsh.2.1 (And.intro (List.getElem?_eq_some_iff.1 hsh.1).1 (List.getElem?_eq_some_iff.1 hsh.2.1).1)))
          have HR := Lib.hid (And.intro hsh.2.2 (And.intro hp (And.intro hq hc)))
          have HD := Lib.hid (show OwnS chgC 5 wr.drew 83 (.slice (some ⟨g, 0, none⟩) L cap) l1 from hown)
          have HDm := Lib.hid (show Mod (fun x => x = g) w wr.drew from hmod.drew)
          clear hti htg hown hmod hc hp hq hLL hYi hUU hy hsh hl1
          go_wp2_with fail
          refine wp_region_held_drew (S := fun _ => True) (by kernel_rfl) trivial (fun hS => ?_)
          refine takeD (i := 0) rfl (by kernel_rfl) (by kernel_rfl) (by kernel_rfl) (fun _ _ _ h => h) hS (Or.inl ⟨by rfl, fun w hSw => by go_simp; rfl⟩) ?_
          simp only [Act.put, List.setIfInBounds_toArray, List.set_cons_zero, List.set_cons_succ]
          refine takeD (i := 1) rfl (by kernel_rfl) (by kernel_rfl) (by kernel_rfl) (fun _ _ _ h => h) hS (Or.inl ⟨by rfl, fun w hSw => by go_simp; rfl⟩) ?_
          simp only [Act.put, List.setIfInBounds_toArray, List.set_cons_zero, List.set_cons_succ]
          refine takeD (i := 2) rfl (by kernel_rfl) (by kernel_rfl) (by kernel_rfl) (fun _ _ _ h => h) hS (Or.inl ⟨by rfl, fun w hSw => by go_simp; rfl⟩) ?_
          simp only [Act.put, List.setIfInBounds_toArray, List.set_cons_zero, List.set_cons_succ]
          refine takeD (i := 3) rfl (by kernel_rfl) (by kernel_rfl) (by kernel_rfl) (fun _ _ _ h => h) hS (Or.inl ⟨by rfl, fun w hSw => by go_simp; rfl⟩) ?_
          simp only [Act.put, List.setIfInBounds_toArray, List.set_cons_zero, List.set_cons_succ]
          refine takeD (i := 4) rfl (by kernel_rfl) (by kernel_rfl) (by kernel_rfl) (fun _ _ _ h => h) hS (Or.inl ⟨by rfl, fun w hSw => by go_simp; rfl⟩) ?_
          simp only [Act.put, List.setIfInBounds_toArray, List.set_cons_zero, List.set_cons_succ]
          refine takeD (i := 5) rfl (by kernel_rfl) (by kernel_rfl) (by kernel_rfl) (fun _ _ _ h => h) hS (Or.inl ⟨by rfl, fun w hSw => by go_simp; rfl⟩) ?_
          simp only [Act.put, List.setIfInBounds_toArray, List.set_cons_zero, List.set_cons_succ]
          refine takeD (i := 6) rfl (by kernel_rfl) (by kernel_rfl) (by kernel_rfl) (fun _ _ _ h => h) hS (Or.inl ⟨by rfl, fun w hSw => by go_simp; rfl⟩) ?_
          simp only [Act.put, List.setIfInBounds_toArray, List.set_cons_zero, List.set_cons_succ]
          refine takeD (i := 7) rfl (by kernel_rfl) (by kernel_rfl) (by kernel_rfl) (fun _ _ _ h => h) hS (Or.inl ⟨by rfl, fun w hSw => by go_simp; rfl⟩) ?_
          simp only [Act.put, List.setIfInBounds_toArray, List.set_cons_zero, List.set_cons_succ]
          refine takeD (i := 8) rfl (by kernel_rfl) (by kernel_rfl) (by kernel_rfl) (fun _ _ _ h => h) hS (Or.inl ⟨by rfl, fun w hSw => by go_simp; rfl⟩) ?_
          simp only [Act.put, List.setIfInBounds_toArray, List.set_cons_zero, List.set_cons_succ]
          refine takeD (i := 10) rfl (by kernel_rfl) (by kernel_rfl) (by kernel_rfl) (fun _ _ _ h => h) hS (Or.inl ⟨by rfl, fun w hSw => by go_simp; rfl⟩) ?_
          simp only [Act.put, List.setIfInBounds_toArray, List.set_cons_zero, List.set_cons_succ]
          refine takeD (i := 11) rfl (by kernel_rfl) (by kernel_rfl) (by kernel_rfl) (fun _ _ _ h => h) hS (Or.inl ⟨by rfl, fun w hSw => by go_simp; rfl⟩) ?_
          simp only [Act.put, List.setIfInBounds_toArray, List.set_cons_zero, List.set_cons_succ]
          refine takeD (i := 12) rfl (by kernel_rfl) (by kernel_rfl) (by kernel_rfl) (fun _ _ _ h => h) hS (Or.inl ⟨by rfl, fun w hSw => by go_simp; rfl⟩) ?_
          simp only [Act.put, List.setIfInBounds_toArray, List.set_cons_zero, List.set_cons_succ]
          refine wpAnyH_ready (rs := [9, 13]) (by kernel_rfl) (by simp) ?_
          refine consD (i := 9) rfl (fun K hK => ?_) (consD (i := 13) rfl (fun K hK => ?_) AllReadyH.nil)
          · rw [if_pos (by rfl)]
            refine wp_load_mid 83 (.tmp 69) rfl g (q * 5) rfl cy _ (by rw [← HX.out.2.1]; exact OwnS.range chgC_len HD.out HL.out.2.1) Tryz.underlying83 rfl (by rw [HX.out.2.2.2.1]; exact infoC) ?_
            simp only [Act.put, List.setIfInBounds_toArray, List.set_cons_zero, List.set_cons_succ]
            refine hK.out _ _ trivial (fun hS => ?_)
            clear hK K
            refine wpAnyH_ready (rs := [13]) (by kernel_rfl) (by simp) ?_
            refine consD (i := 13) rfl (fun K hK => ?_) AllReadyH.nil
            rw [if_pos (by rfl)]
            refine wp_load_mid 83 (.tmp 73) rfl g (p * 5) rfl cx _ (by rw [← HX.out.1]; exact OwnS.range chgC_len HD.out HL.out.1) Tryz.underlying83 rfl (by rw [HX.out.2.2.1]; exact infoC) ?_
            simp only [Act.put, List.setIfInBounds_toArray, List.set_cons_zero, List.set_cons_succ]
            refine hK.out _ _ trivial (fun hS => ?_)
            clear hK K
            refine takeD (i := 14) rfl (by kernel_rfl) (by kernel_rfl) (by kernel_rfl) (fun _ _ _ h => h) hS (Or.inl ⟨by rfl, fun w hSw => by go_simp; rfl⟩) ?_
            simp only [Act.put, List.setIfInBounds_toArray, List.set_cons_zero, List.set_cons_succ]
            refine wpAnyH_ready (rs := [15]) (by kernel_rfl) (by simp) ?_
            refine consD (i := 15) rfl (fun K hK => ?_) AllReadyH.nil
            rw [if_pos (by rfl)]
            refine wp_store_mid 83 (.tmp 75) (.tmp 70) rfl g (p * 5) cy.toArray rfl rfl (by rw [List.size_toArray, HX.out.2.2.2.1]; exact OwnS.there HD.out HL.out.2.2.1) (by rw [List.size_toArray, HX.out.2.2.2.1]; exact infoC) HX.out.2.2.2.2.2 ?_
            simp only [Act.put, List.setIfInBounds_toArray, List.set_cons_zero, List.set_cons_succ]
            refine hK.out _ _ trivial (fun hS => ?_)
            clear hK K
            refine takeD (i := 16) rfl (by kernel_rfl) (by kernel_rfl) (by kernel_rfl) (fun _ _ _ h => h) hS (Or.inl ⟨by rfl, fun w hSw => by go_simp; rfl⟩) ?_
            simp only [Act.put, List.setIfInBounds_toArray, List.set_cons_zero, List.set_cons_succ]
            refine wpAnyH_ready (rs := [17]) (by kernel_rfl) (by simp) ?_
            refine consD (i := 17) rfl (fun K hK => ?_) AllReadyH.nil
            rw [if_pos (by rfl)]
            refine wp_store_mid 83 (.tmp 76) (.tmp 74) rfl g (q * 5) cx.toArray rfl rfl (by rw [List.size_toArray, HX.out.2.2.1, ← HX.out.2.1]; exact OwnS.there (OwnS.store chgC_len HD.out HL.out.2.2.1 y) (by rw [List.length_set]; exact HL.out.2.2.2)) (by rw [List.size_toArray, HX.out.2.2.1]; exact infoC) HX.out.2.2.2.2.1 ?_
            simp only [Act.put, List.setIfInBounds_toArray, List.set_cons_zero, List.set_cons_succ]
            refine hK.out _ _ trivial (fun hS => ?_)
            clear hK K
            refine wpAnyH_done (by kernel_rfl) ?_ _
            have hs2 := OwnS.store chgC_len (OwnS.store chgC_len HD.out HL.out.2.2.1 y) (i := q) (by rw [List.length_set]; exact HL.out.2.2.2) x
            rw [HX.out.1, HX.out.2.1] at hs2
            have hm2 := ((HDm.out.trans' (Mod.setCells (S := fun x => x = g) (.inl rfl) cy (p * 5) (Mod.refl _ _))).trans' (Mod.setCells (S := fun x => x = g) (.inl rfl) cx (q * 5) (Mod.refl _ _)))
            have HE := Lib.hid (And.intro hs2 hm2)
            clear hs2 hm2
            go_wp2
            go_roundg (i - (t + 1))
            case measure => have h1 := HT.out; have h2 := HR.out; omega
            case rel =>
              obtain ⟨t1, t2, t3, t4⟩ := HT.out
              obtain ⟨r1, r2, r3, r4⟩ := HR.out
              refine ⟨t + 1, ?_, by omega, Nat.le_refl _, ?_, HE.out.2⟩
              · congr 1; omega
              · rw [← r1]; exact HE.out.1
          · rw [if_pos (by rfl)]
            refine wp_load_mid 83 (.tmp 73) rfl g (p * 5) rfl cx _ (by rw [← HX.out.1]; exact OwnS.range chgC_len HD.out HL.out.1) Tryz.underlying83 rfl (by rw [HX.out.2.2.1]; exact infoC) ?_
            simp only [Act.put, List.setIfInBounds_toArray, List.set_cons_zero, List.set_cons_succ]
            refine hK.out _ _ trivial (fun hS => ?_)
            clear hK K
            refine wpAnyH_ready (rs := [9]) (by kernel_rfl) (by simp) ?_
            refine consD (i := 9) rfl (fun K hK => ?_) AllReadyH.nil
            rw [if_pos (by rfl)]
            refine wp_load_mid 83 (.tmp 69) rfl g (q * 5) rfl cy _ (by rw [← HX.out.2.1]; exact OwnS.range chgC_len HD.out HL.out.2.1) Tryz.underlying83 rfl (by rw [HX.out.2.2.2.1]; exact infoC) ?_
            simp only [Act.put, List.setIfInBounds_toArray, List.set_cons_zero, List.set_cons_succ]
            refine hK.out _ _ trivial (fun hS => ?_)
            clear hK K
            refine takeD (i := 14) rfl (by kernel_rfl) (by kernel_rfl) (by kernel_rfl) (fun _ _ _ h => h) hS (Or.inl ⟨by rfl, fun w hSw => by go_simp; rfl⟩) ?_
            simp only [Act.put, List.setIfInBounds_toArray, List.set_cons_zero, List.set_cons_succ]
            refine wpAnyH_ready (rs := [15]) (by kernel_rfl) (by simp) ?_
            refine consD (i := 15) rfl (fun K hK => ?_) AllReadyH.nil
            rw [if_pos (by rfl)]
            refine wp_store_mid 83 (.tmp 75) (.tmp 70) rfl g (p * 5) cy.toArray rfl rfl (by rw [List.size_toArray, HX.out.2.2.2.1]; exact OwnS.there HD.out HL.out.2.2.1) (by rw [List.size_toArray, HX.out.2.2.2.1]; exact infoC) HX.out.2.2.2.2.2 ?_
            simp only [Act.put, List.setIfInBounds_toArray, List.set_cons_zero, List.set_cons_succ]
            refine hK.out _ _ trivial (fun hS => ?_)
            clear hK K
            refine takeD (i := 16) rfl (by kernel_rfl) (by kernel_rfl) (by kernel_rfl) (fun _ _ _ h => h) hS (Or.inl ⟨by rfl, fun w hSw => by go_simp; rfl⟩) ?_
            simp only [Act.put, List.setIfInBounds_toArray, List.set_cons_zero, List.set_cons_succ]
            refine wpAnyH_ready (rs := [17]) (by kernel_rfl) (by simp) ?_
            refine consD (i := 17) rfl (fun K hK => ?_) AllReadyH.nil
            rw [if_pos (by rfl)]
            refine wp_store_mid 83 (.tmp 76) (.tmp 74) rfl g (q * 5) cx.toArray rfl rfl (by rw [List.size_toArray, HX.out.2.2.1, ← HX.out.2.1]; exact OwnS.there (OwnS.store chgC_len HD.out HL.out.2.2.1 y) (by rw [List.length_set]; exact HL.out.2.2.2)) (by rw [List.size_toArray, HX.out.2.2.1]; exact infoC) HX.out.2.2.2.2.1 ?_
            simp only [Act.put, List.setIfInBounds_toArray, List.set_cons_zero, List.set_cons_succ]
            refine hK.out _ _ trivial (fun hS => ?_)
            clear hK K
            refine wpAnyH_done (by kernel_rfl) ?_ _
            have hs2 := OwnS.store chgC_len (OwnS.store chgC_len HD.out HL.out.2.2.1 y) (i := q) (by rw [List.length_set]; exact HL.out.2.2.2) x
            rw [HX.out.1, HX.out.2.1] at hs2
            have hm2 := ((HDm.out.trans' (Mod.setCells (S := fun x => x = g) (.inl rfl) cy (p * 5) (Mod.refl _ _))).trans' (Mod.setCells (S := fun x => x = g) (.inl rfl) cx (q * 5) (Mod.refl _ _)))
            have HE := Lib.hid (And.intro hs2 hm2)
            clear hs2 hm2
            go_wp2
            go_roundg (i - (t + 1))
            case measure => have h1 := HT.out; have h2 := HR.out; omega
            case rel =>
              obtain ⟨t1, t2, t3, t4⟩ := HT.out
              obtain ⟨r1, r2, r3, r4⟩ := HR.out
              refine ⟨t + 1, ?_, by omega, Nat.le_refl _, ?_, HE.out.2⟩
              · congr 1; omega
              · rw [← r1]; exact HE.out.1
        · have hUU := HU.out
          obtain ⟨p, hp⟩ : ∃ p, P.length + t = p := ⟨_, rfl⟩
          rw [hp]
          have k1 : ¬ (p : Int) < (u : Int) - 1 := by omega
          have HC := Lib.hid hc
          clear hti htg hown hmod hUU hp hc
          go_wp2
          (try simp only [Exit.inBlock, Exit.then])
          refine bodyPost_ret (results_none rfl _ _ _) rfl ?_
          obtain ⟨t1, t2, t3, t4⟩ := HT.out
          have hcc := HC.out
          obtain rfl : t = i := by omega
          have hz := Stab.one_left chgSwo HH.out.2.2.2.2.2.2 HI.out.2.1 HI.out.2.2.2.1 HI.out.2.2.2.2.1
          refine ⟨rfl, _, hz.1, hz.2, ?_, t4⟩
          simpa using t3
end Go.Proofs.YtojjnfhgldjgbaaGreatDoor.Watch
end
