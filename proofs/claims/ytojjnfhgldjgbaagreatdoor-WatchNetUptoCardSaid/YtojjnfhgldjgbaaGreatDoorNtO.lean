/- WatchNet, where what came in is of bulk at most 1048576: what leads from some tuples to others does so in a store, and n: part 15 of 32: what it leans on. -/
import Derived.Shelf.Lay
import Derived.Shelf.LaySoft
import Derived.Shelf.Small.Bits
import Derived.Shelf.Small.Strs
import Derived.Shelf.Strconv.Itoa0
import Derived.Ground.SlgnProg
import Derived.Shelf.SlicesG.SearchI
import Derived.Ground.SlgcProg
import Derived.Shelf.SlicesG.Cmp
import Derived.Shelf.SlGeneric
import Derived.Shelf.SlSortCmp.NoneTotal
import Derived.Ground.SlsfProg
import Derived.Test.YtojjnfhgldjgbaaGreatDoorProg
import Derived.Test.YtojjnfhgldjgbaaGreatDoorNtA
import Derived.Test.YtojjnfhgldjgbaaGreatDoorNtB
import Derived.Test.YtojjnfhgldjgbaaGreatDoorNtC
import Derived.Test.YtojjnfhgldjgbaaGreatDoorNtD
import Derived.Test.YtojjnfhgldjgbaaGreatDoorNtE
import Derived.Test.YtojjnfhgldjgbaaGreatDoorNtL
import Derived.Test.YtojjnfhgldjgbaaGreatDoorNtM
import Derived.Test.YtojjnfhgldjgbaaGreatDoorNtN
section
set_option linter.unusedVariables false
set_option linter.unusedSimpArgs false
namespace Go.Por.Stab
open Go.Sort Go.Proofs
section
variable {α : Type} [Inhabited α] {lt : α → α → Bool}
theorem swp_stab (h : SWO lt) (d : Array α) (j : Nat) (hj : j + 1 < d.size) (hl : lt d[j + 1]! d[j]! = true) : Stab lt d.toList (swp d (j + 1) j).toList := by
  have h1 : d[j]! = d[j] := by simp [show j < d.size by omega]
  have h2 : d[j + 1]! = d[j + 1] := by simp [hj]
  rw [h1, h2] at hl
  unfold swp
  rw [h1, h2]
  simp only [Array.toList_setIfInBounds]
  have e : d.toList = d.toList.take j ++ ([d[j]] ++ [d[j + 1]] ++ d.toList.drop (j + 2)) := by
    rw [List.append_assoc, List.singleton_append, List.singleton_append]
    conv => lhs; rw [← List.take_append_drop j d.toList]
    rw [List.drop_eq_getElem_cons (show j < d.toList.length by simp; omega), List.drop_eq_getElem_cons (show j + 1 < d.toList.length by simpa using hj)]
    simp only [Array.getElem_toList]
  have hn : (d.toList.take j).length = j := by rw [List.length_take, Array.length_toList]; omega
  have e2 : (d.toList.set (j + 1) d[j]).set j d[j + 1] = d.toList.take j ++ ([d[j + 1]] ++ [d[j]] ++ d.toList.drop (j + 2)) := by
    conv => lhs; rw [e]
    rw [List.set_append_right _ _ (by omega), hn, show j + 1 - j = 1 by omega, List.set_append_right _ _ (by omega), hn, Nat.sub_self]
    simp
  rw [e2]
  conv => lhs; rw [e]
  exact Stab.append (Stab.refl _) (Stab.append (Stab.swap h (fun x hx y hy => by rw [List.mem_singleton.1 hx, List.mem_singleton.1 hy]; exact no_eqv h hl)) (Stab.refl _))
theorem insInner_stab (h : SWO lt) (a : Nat) : ∀ (j : Nat) (d : Array α), j < d.size → Stab lt d.toList (insInner lt a j d).toList
  | 0, d, _ => by unfold insInner; exact Stab.refl _
  | j + 1, d, hj => by
    unfold insInner
    split
    · rename_i hc
      simp only [gt_iff_lt, Bool.and_eq_true, decide_eq_true_eq] at hc
      exact (swp_stab h d j hj hc.2).trans (insInner_stab h a j _ (by rw [swp_size]; omega))
    · exact Stab.refl _
theorem insInner_size (a : Nat) : ∀ (j : Nat) (d : Array α), (insInner lt a j d).size = d.size
  | 0, d => by unfold insInner; rfl
  | j + 1, d => by
    unfold insInner
    split
    · rw [insInner_size a j, swp_size]
    · rfl
theorem insOuter_stab (h : SWO lt) (a b : Nat) : ∀ (n i : Nat) (d : Array α), b - i = n → b ≤ d.size → Stab lt d.toList (insOuter lt a b i d).toList
  | 0, i, d, hn, _ => by rw [insOuter, if_neg (by omega)]; exact Stab.refl _
  | n + 1, i, d, hn, hb => by
    rw [insOuter, if_pos (by omega)]
    exact (insInner_stab h a i d (by omega)).trans (insOuter_stab h a b n (i + 1) _ (by omega) (by rw [insInner_size]; exact hb))
omit [Inhabited α] in
theorem Stab.part {P S X Z : List α} (h : Stab lt (P ++ (X ++ S)) (P ++ (Z ++ S))) : Stab lt X Z := fun x => by
  have := h x
  simp only [List.filter_append] at this
  exact List.append_cancel_right (List.append_cancel_left this)
/-- A part of the list is sorted, stably. -/
theorem ins_law (h : SWO lt) (P X S : List α) : ∃ Z : List α, (insertionSort lt (P ++ (X ++ S)).toArray P.length (P.length + X.length)).toList = P ++ (Z ++ S) ∧ Z.length = X.length ∧ Sorted lt Z ∧ Stab lt X Z := by
  obtain ⟨d, hd⟩ : ∃ d, insertionSort lt (P ++ (X ++ S)).toArray P.length (P.length + X.length) = d := ⟨_, rfl⟩
  have hb : P.length + X.length ≤ (P ++ (X ++ S)).toArray.size := by simp only [List.size_toArray, List.length_append]; omega
  have hs := insertionSort_holds (lt := lt) h (P ++ (X ++ S)).toArray P.length (P.length + X.length) (by omega) hb
  have hst : Stab lt (P ++ (X ++ S)) d.toList := by rw [← hd]; exact insOuter_stab h _ _ _ _ _ rfl hb
  rw [hd] at hs ⊢
  obtain ⟨⟨hsz, hout, _⟩, hsort⟩ := hs
  have hlen : d.toList.length = P.length + X.length + S.length := by rw [Array.length_toList, hsz]; simp only [List.size_toArray, List.length_append]; omega
  have hget : ∀ i, i < P.length ∨ P.length + X.length ≤ i → d.toList[i]? = (P ++ (X ++ S))[i]? := fun i hi => by
    by_cases hlt : i < d.toList.length
    · have h1 := hout i hi
      have h2 : i < d.size := by rw [← Array.length_toList]; exact hlt
      have h3 : i < (P ++ (X ++ S)).length := by simp only [List.length_append]; omega
      rw [List.getElem?_eq_getElem hlt, List.getElem?_eq_getElem h3]
      rw [getElem!_pos d i h2, getElem!_pos _ i (by simpa using h3)] at h1
      simpa using h1
    · rw [List.getElem?_eq_none (by omega), List.getElem?_eq_none (by simp only [List.length_append]; omega)]
  have e : d.toList = P ++ ((d.toList.drop P.length).take X.length ++ S) := by
    apply List.ext_getElem?
    intro i
    rcases (show i < P.length ∨ (P.length ≤ i ∧ i < P.length + X.length) ∨ P.length + X.length ≤ i by omega) with hi | hi | hi
    · rw [hget i (.inl hi), List.getElem?_append_left hi, List.getElem?_append_left hi]
    · have hl : ((d.toList.drop P.length).take X.length).length = X.length := by rw [List.length_take, List.length_drop]; omega
      rw [List.getElem?_append_right hi.1, List.getElem?_append_left (by omega), List.getElem?_take, if_pos (by omega), List.getElem?_drop]
      congr 1
      omega
    · have hl : ((d.toList.drop P.length).take X.length).length = X.length := by rw [List.length_take, List.length_drop]; omega
      rw [hget i (.inr hi), List.getElem?_append_right (by omega), List.getElem?_append_right (by omega), List.getElem?_append_right (by omega), List.getElem?_append_right (by omega), hl]
  refine ⟨_, e, by rw [List.length_take, List.length_drop]; omega, ?_, ?_⟩
  · refine List.pairwise_iff_getElem.2 (fun i j hi hj hij => ?_)
    simp only [List.length_take, List.length_drop] at hi hj
    have h1 := hsort (P.length + i) (P.length + j) (by omega) (by omega) (by omega)
    have g1 : d[P.length + i]! = d.toList[P.length + i]'(by omega) := by rw [getElem!_pos d _ (by rw [← Array.length_toList]; omega)]; simp
    have g2 : d[P.length + j]! = d.toList[P.length + j]'(by omega) := by rw [getElem!_pos d _ (by rw [← Array.length_toList]; omega)]; simp
    rw [g1, g2] at h1
    simpa using h1
  · rw [e] at hst
    exact Stab.part hst
end
section
variable {α : Type} {lt : α → α → Bool}
/-- Cut into blocks of n, each is sorted. -/
def Blk (lt : α → α → Bool) (n : Nat) (l : List α) : Prop := ∀ k, Sorted lt ((l.drop (k * n)).take n)
theorem Blk.nil (n : Nat) : Blk lt n [] := fun k => by simp [Sorted]
theorem Blk.append {n k : Nat} {A B : List α} (hk : A.length = k * n) (hA : Blk lt n A) (hB : Blk lt n B) : Blk lt n (A ++ B) := fun j => by
  by_cases hj : j < k
  · have : (j + 1) * n ≤ k * n := Nat.mul_le_mul_right _ hj
    rw [Nat.add_mul, Nat.one_mul] at this
    rw [List.drop_append_of_le_length (by omega), List.take_append_of_le_length (by rw [List.length_drop]; omega)]
    exact hA j
  · have e : j * n = A.length + (j - k) * n := by
      rw [hk, ← Nat.add_mul]
      congr 1
      omega
    rw [e, List.drop_append, List.drop_eq_nil_of_le (by omega), List.nil_append, Nat.add_sub_cancel_left]
    exact hB _
theorem Blk.single {n : Nat} {X : List α} (hn : 1 ≤ n) (h : X.length ≤ n) (hs : Sorted lt X) : Blk lt n X := fun k => by
  rcases Nat.eq_zero_or_pos k with rfl | hk
  · rw [Nat.zero_mul, List.drop_zero, List.take_of_length_le h]
    exact hs
  · have : 1 * n ≤ k * n := Nat.mul_le_mul_right _ hk
    rw [List.drop_eq_nil_of_le (by omega)]
    simp [Sorted]
theorem Blk.head {n : Nat} {l : List α} (h : Blk lt n l) : Sorted lt (l.take n) := by
  have := h 0
  simpa using this
theorem Blk.tail {n : Nat} {l : List α} (h : Blk lt n l) : Blk lt n (l.drop n) := fun k => by
  have := h (k + 1)
  rw [List.drop_drop, Nat.add_comm n]
  rwa [Nat.add_mul, Nat.one_mul] at this
theorem Blk.one {n : Nat} {l : List α} (h : Blk lt n l) (hl : l.length ≤ n) : Sorted lt l := by
  have := h.head
  rwa [List.take_of_length_le hl] at this
end
end Go.Por.Stab
end
section
namespace Go.Proofs
open Go.Shelf
shelf_try shelf_lay_g SlLaysF0.n20 Slsf 20 at Tryz 107 as Tryz.laysInsChg
shelf_try #print axioms Tryz.insChg_laid
shelf_try shelf_lay_g SlLaysF0.n20 Slsf 20 at Tryz 109 as Tryz.laysInsRow
shelf_try #print axioms Tryz.insRow_laid
shelf_tried
end Go.Proofs
end
section
set_option linter.unusedVariables false
set_option linter.unusedSimpArgs false
namespace Go.Proofs.YtojjnfhgldjgbaaGreatDoor.Watch
open Go.RowKit Go.Por Go.Sort

/-- Two sorted parts, side by side, become one. -/
theorem symMerge_chg {g cap L : Nat} (hl : L < 2305843009213693952) : ∀ (N : Nat) (w : World) (P X Y S : List Chg) (a m b : Nat), X.length + Y.length < N → OwnS chgC 5 w 83 (.slice (some ⟨g, 0, none⟩) L cap) (P ++ (X ++ (Y ++ S))) → L = P.length + X.length + Y.length + S.length → 1 ≤ X.length → 1 ≤ Y.length → Stab.Sorted (ltOf ccmp) X → Stab.Sorted (ltOf ccmp) Y → a = P.length → m = P.length + X.length → b = P.length + X.length + Y.length →
      Calls Tryz.prog 108 #[.slice (some ⟨g, 0, none⟩) L cap, .int .i64 (a : Int), .int .i64 (m : Int), .int .i64 (b : Int), .func (.func 40) #[] #[]] w fun e w' =>
        e = .returned (.tuple #[]) ∧ ∃ Z : List Chg, Stab.Sorted (ltOf ccmp) Z ∧ Stab.Stab (ltOf ccmp) (X ++ Y) Z ∧ OwnS chgC 5 w' 83 (.slice (some ⟨g, 0, none⟩) L cap) (P ++ (Z ++ S)) ∧ Mod (fun x => x = g) w w'
  | 0, _, _, _, _, _, _, _, _, hN, _, _, _, _, _, _, _, _, _ => absurd hN (Nat.not_lt_zero _)
  | N + 1, w, P, X, Y, S, a, m, b, hN, h, hL, hX, hY, hsX, hsY, ha, hm, hb => by
    rcases (show X.length = 1 ∨ (2 ≤ X.length ∧ Y.length = 1) ∨ (2 ≤ X.length ∧ 2 ≤ Y.length) by omega) with h1 | ⟨h1, h2⟩ | ⟨h1, h2⟩
    · obtain ⟨x, rfl⟩ := List.length_eq_one_iff.1 h1
      exact symOneL_chg (P := P) (Y := Y) (S := S) (x := x) h (by omega) hL hY hsY a m b ha hm hb
    · obtain ⟨y, rfl⟩ := List.length_eq_one_iff.1 h2
      exact symOneR_chg (P := P) (X := X) (S := S) (y := y) h (by omega) hL h1 hsX a m b ha hm hb
    · rcases (show (a + b) / 2 < m ∨ m ≤ (a + b) / 2 by omega) with hk | hk
      · exact symGen_chg h hl hL h1 h2 hsX hsY a m b ha hm hb (fun w P X1 Y1 S a m b hlt => symMerge_chg (g := g) (cap := cap) hl N w P X1 Y1 S a m b (by omega)) ((a + b) / 2) ((a + b) / 2 + m - b) _ rfl (.inl ⟨hk, by omega, rfl⟩)
      · exact symGen_chg h hl hL h1 h2 hsX hsY a m b ha hm hb (fun w P X1 Y1 S a m b hlt => symMerge_chg (g := g) (cap := cap) hl N w P X1 Y1 S a m b (by omega)) ((a + b) / 2) a m rfl (.inr ⟨hk, rfl, rfl⟩)

theorem agg_chg : ∀ w, (isAgg 83).run Tryz.prog w = .ok true w := fun w => by kernel_rfl
theorem size_chg : ∀ w, (Go.sizeOf 83).run Tryz.prog w = .ok 5 w := fun w => by kernel_rfl
theorem cells_chg (x : Chg) : ∀ v ∈ chgC x, v.oneCell' = true := by
  intro v hv
  simp only [chgC, List.mem_cons, List.not_mem_nil, or_false] at hv
  rcases hv with rfl | rfl | rfl | rfl | rfl <;> rfl
/-- slices.insertionSortCmpFunc: a part is sorted, stably. -/
theorem ins_chg {w : World} {g cap L : Nat} {P X S : List Chg} (h : OwnS chgC 5 w 83 (.slice (some ⟨g, 0, none⟩) L cap) (P ++ (X ++ S))) (hl : L < 2305843009213693952) (a b : Nat) (ha : a = P.length) (hb : b = P.length + X.length) :
    Calls Tryz.prog 107 #[.slice (some ⟨g, 0, none⟩) L cap, .int .i64 (a : Int), .int .i64 (b : Int), .func (.func 40) #[] #[]] w fun e w' =>
      e = .returned (.tuple #[]) ∧ ∃ Z : List Chg, Z.length = X.length ∧ Stab.Sorted (ltOf ccmp) Z ∧ Stab.Stab (ltOf ccmp) X Z ∧ OwnS chgC 5 w' 83 (.slice (some ⟨g, 0, none⟩) L cap) (P ++ (Z ++ S)) ∧ Mod (fun x => x = g) w w' := by
  subst ha hb
  have hL : L = (P ++ (X ++ S)).length := by obtain ⟨cur, _, _, _, e, _⟩ := h.block; exact e
  subst hL
  have eg : ∀ args w, (callFunc 40 args).run Tryz.prog w = .ok (.enter 40 args) w := enters_of Tryz.func40 (by kernel_rfl) rfl
  have hcon := AnyQ.insertionSortCmpFunc Tryz.laysInsChg 5 agg_chg size_chg chgC chgC_len cells_chg ccmp 40 #[] g 0 cap P.length (P.length + X.length) (P ++ (X ++ S)).toArray w eg (fun _ _ _ _ x y => chg_order x y _) (h.holds chgC_len) h.lt (by omega) (by simp only [List.size_toArray, List.length_append]; omega) (by rw [List.size_toArray]; omega)
  rw [List.size_toArray] at hcon
  refine hcon.mono ?_
  rintro e w' ⟨he, n, os, rfl⟩
  obtain ⟨Z, hZ, hn, hs, hst⟩ := Stab.ins_law chgSwo P X S
  have hlen : (P ++ (Z ++ S)).length = (P ++ (X ++ S)).length := by simp only [List.length_append, hn]
  have := h.sorted chgC_len (l' := P ++ (Z ++ S)) hlen n os
  have e2 : insertionSort (ltOf ccmp) (P ++ (X ++ S)).toArray P.length (P.length + X.length) = (P ++ (Z ++ S)).toArray := by rw [← hZ, Array.toArray_toList]
  rw [e2]
  exact ⟨he, Z, hn, hs, hst, this.1, this.2⟩

set_option maxRecDepth 100000 in
set_option maxHeartbeats 3200000 in
theorem stable_chg {w : World} {g cap L : Nat} {l0 : List Chg} (h : OwnS chgC 5 w 83 (.slice (some ⟨g, 0, none⟩) L cap) l0) (hl : L < 576460752303423488) :
    Calls Tryz.prog 77 #[.slice (some ⟨g, 0, none⟩) L cap, .int .i64 (L : Int), .func (.func 40) #[] #[]] w fun e w' =>
      e = .returned (.tuple #[]) ∧ ∃ l : List Chg, Stab.Sorted (ltOf ccmp) l ∧ Stab.Stab (ltOf ccmp) l0 l ∧ OwnS chgC 5 w' 83 (.slice (some ⟨g, 0, none⟩) L cap) l ∧ Mod (fun x => x = g) w w' := by
  have hL : L = l0.length := by obtain ⟨cur, _, _, _, e, _⟩ := h.block; exact e
  have hLi : (L : Int) < 576460752303423488 := by omega
  have HH := Lib.hid (And.intro h (And.intro hL hl))
  clear h hL
  go_enter Tryz.func77, Tryz.ntmps77
  go_wp2
  go_loopg [7, 8] L (fun gg va vb wx => ∃ (k : Nat) (A B : List Chg), va = .int .i64 ((A.length : Nat) : Int) ∧ vb = .int .i64 ((A.length + 20 : Nat) : Int) ∧ A.length = k * 20 ∧ A.length + B.length = L ∧ L - A.length ≤ gg ∧ Stab.Blk (ltOf ccmp) 20 A ∧ Stab.Stab (ltOf ccmp) l0 (A ++ B) ∧ OwnS chgC 5 wx 83 (.slice (some ⟨g, 0, none⟩) L cap) (A ++ B) ∧ Mod (fun x => x = g) w wx)
  case atStart => exact ⟨0, [], l0, rfl, rfl, rfl, by simp [HH.out.2.1], by simp, Stab.Blk.nil _, Stab.Stab.refl _, HH.out.1, Mod.refl _ _⟩
  case round =>
    obtain ⟨k, A, B, rfl, rfl, hk, hAB, hgk, hblk, hst, hown, hmod⟩ := hrel
    obtain ⟨u, hu⟩ : ∃ u, A.length = u := ⟨_, rfl⟩
    obtain ⟨v, hv⟩ : ∃ v, A.length + 20 = v := ⟨_, rfl⟩
    rw [hv, hu]
    have HI := Lib.hid (And.intro hk (And.intro hAB (And.intro hgk (And.intro hblk (And.intro hst (And.intro hown (And.intro hmod (And.intro hu hv))))))))
    by_cases hc : v ≤ L
    · have hc' : (v : Int) ≤ (L : Int) := by omega
      have hv1 : (v : Int) < 576460752303423488 := by omega
      have hcc := Lib.hid hc
      clear hk hAB hgk hblk hst hown hmod hu hv hc
      go_wp2_with fail
      obtain ⟨i1, i2, i3, i4, i5, i6, i7, i8, i9⟩ := HI.out
      have hc := hcc.out
      refine (ins_chg (w := wr) (P := A) (X := B.take 20) (S := B.drop 20) (by rw [List.take_append_drop]; exact i6) (by omega) u v i8.symm (by rw [List.length_take]; omega)).mono ?_
      rintro e w2 ⟨rfl, Z, hn, hs, hst2, hown2, hm2⟩
      have H2 := Lib.hid (And.intro hn (And.intro hs (And.intro hst2 (And.intro hown2 hm2))))
      clear hn hs hst2 hown2 hm2 i1 i2 i3 i4 i5 i6 i7 i8 i9 hc
      go_wp2
      go_roundg (L - v)
      case measure => have h1 := HI.out; have h2 := hcc.out; omega
      case rel =>
        obtain ⟨i1, i2, i3, i4, i5, i6, i7, i8, i9⟩ := HI.out
        obtain ⟨k1, k2, k3, k4, k5⟩ := H2.out
        have hc := hcc.out
        rw [List.length_take] at k1
        have hZ : Z.length = 20 := by omega
        refine ⟨k + 1, A ++ Z, B.drop 20, ?_, ?_, ?_, ?_, ?_, Stab.Blk.append (k := k) i1 i4 (Stab.Blk.single (by omega) (by omega) k2), ?_, ?_, i7.trans' k5⟩
        · congr 1; rw [List.length_append]; omega
        · congr 1; rw [List.length_append]; omega
        · rw [List.length_append]; omega
        · rw [List.length_append, List.length_drop]; omega
        · rw [List.length_append]; omega
        · refine i5.trans ?_
          have e : A ++ B = A ++ (B.take 20 ++ B.drop 20) := by rw [List.take_append_drop]
          rw [e, List.append_assoc]
          exact Stab.Stab.append (Stab.Stab.refl _) (Stab.Stab.append k3 (Stab.Stab.refl _))
        · rw [List.append_assoc]; exact k4
    · have hc' : ¬ (v : Int) ≤ (L : Int) := by omega
      have hu1 : (u : Int) < 576460752303423488 := by omega
      have hcc := Lib.hid hc
      clear hk hAB hgk hblk hst hown hmod hu hv hc
      go_wp2_with fail
      obtain ⟨i1, i2, i3, i4, i5, i6, i7, i8, i9⟩ := HI.out
      refine (ins_chg (w := wr) (P := A) (X := B) (S := []) (by rw [List.append_nil]; exact i6) (by omega) u L i8.symm (by omega)).mono ?_
      rintro e w2 ⟨rfl, Z, hn, hs, hst2, hown2, hm2⟩
      have hb : Stab.Blk (ltOf ccmp) 20 (A ++ Z) := Stab.Blk.append (k := k) i1 i4 (Stab.Blk.single (by omega) (by have := hcc.out; omega) hs)
      have hs3 : Stab.Stab (ltOf ccmp) l0 (A ++ Z) := i5.trans (Stab.Stab.append (Stab.Stab.refl _) hst2)
      rw [List.append_nil] at hown2
      have hm3 := i7.trans' hm2
      obtain ⟨l1, hl1⟩ : ∃ l1, A ++ Z = l1 := ⟨_, rfl⟩
      rw [hl1] at hb hs3 hown2
      have H2 := Lib.hid (And.intro hb (And.intro hs3 (And.intro hown2 hm3)))
      clear hn hs hst2 hown2 hm2 i1 i2 i3 i4 i5 i6 i7 i8 i9 hb hs3 hm3 hl1 HI hcc
      go_wp2
      go_loopg [6] L (fun gg vs wx => ∃ (bs : Nat) (l : List Chg), vs = .int .i64 (bs : Int) ∧ 20 ≤ bs ∧ L - bs ≤ gg ∧ Stab.Blk (ltOf ccmp) bs l ∧ Stab.Stab (ltOf ccmp) l0 l ∧ OwnS chgC 5 wx 83 (.slice (some ⟨g, 0, none⟩) L cap) l ∧ Mod (fun x => x = g) w wx)
      case atStart => exact ⟨20, l1, rfl, Nat.le_refl _, by omega, H2.out.1, H2.out.2.1, H2.out.2.2.1, H2.out.2.2.2⟩
      case round =>
        clear H2
        obtain ⟨bs, l, rfl, hbs, hgk, hblk, hst, hown, hmod⟩ := hrel
        have hlen : L = l.length := by obtain ⟨cur, _, _, _, e, _⟩ := hown.block; exact e
        by_cases hc : bs < L
        · have hci : (bs : Int) < (L : Int) := by omega
          obtain ⟨d2, hd2⟩ : ∃ d2, 2 * bs = d2 := ⟨_, rfl⟩
          have hd2i : 2 * (bs : Int) = (d2 : Int) := by omega
          have hd2j : (bs : Int) * 2 = (d2 : Int) := by omega
          have hbi : (bs : Int) < 576460752303423488 := by omega
          have hdi : (d2 : Int) < 1152921504606846976 := by omega
          have HO := Lib.hid (And.intro hbs (And.intro hgk (And.intro hblk (And.intro hst (And.intro hown (And.intro hmod (And.intro hlen (And.intro hc hd2))))))))
          clear hbs hgk hblk hst hown hmod hlen hc hd2
          go_wp2
          go_loopg [7, 8] L (fun gg va vb wx => ∃ (k : Nat) (A B : List Chg), va = .int .i64 ((A.length : Nat) : Int) ∧ vb = .int .i64 ((A.length + d2 : Nat) : Int) ∧ A.length = k * d2 ∧ A.length + B.length = L ∧ L - A.length ≤ gg ∧ Stab.Blk (ltOf ccmp) d2 A ∧ Stab.Blk (ltOf ccmp) bs B ∧ Stab.Stab (ltOf ccmp) l0 (A ++ B) ∧ OwnS chgC 5 wx 83 (.slice (some ⟨g, 0, none⟩) L cap) (A ++ B) ∧ Mod (fun x => x = g) w wx)
          case atStart =>
            obtain ⟨o1, o2, o3, o4, o5, o6, o7, o8, o9⟩ := HO.out
            exact ⟨0, [], l, rfl, by simp, by simp, by simp [o7], by simp, Stab.Blk.nil _, o3, o4, o5, o6⟩
          case round =>
            obtain ⟨k, A, B, rfl, rfl, hk, hAB, hgk, hblk, hblk2, hst, hown, hmod⟩ := hrel
            obtain ⟨u, hu⟩ : ∃ u, A.length = u := ⟨_, rfl⟩
            obtain ⟨v, hv⟩ : ∃ v, A.length + d2 = v := ⟨_, rfl⟩
            rw [hv, hu]
            have HI := Lib.hid (And.intro hk (And.intro hAB (And.intro hgk (And.intro hblk (And.intro hblk2 (And.intro hst (And.intro hown (And.intro hmod (And.intro hu hv)))))))))
            have hu1 : (u : Int) < 576460752303423489 := by omega
            have hv1 : (v : Int) < 1729382256910270464 := by omega
            by_cases hc : v ≤ L
            · have hc' : (v : Int) ≤ (L : Int) := by omega
              have hcc := Lib.hid hc
              clear hk hAB hgk hblk hblk2 hst hown hmod hu hv hc
              go_wp2_with fail
              obtain ⟨i1, i2, i3, i4, i5, i6, i7, i8, i9, i10⟩ := HI.out
              obtain ⟨o1, o2, o3, o4, o5, o6, o7, o8, o9⟩ := HO.out
              have hc := hcc.out
              have eB : B = B.take bs ++ ((B.drop bs).take bs ++ B.drop d2) := by
                conv => lhs; rw [← List.take_append_drop bs B, ← List.take_append_drop bs (B.drop bs), List.drop_drop]
                rw [show bs + bs = d2 by omega]
              have n1 : (B.take bs).length = bs := by rw [List.length_take]; omega
              have n2 : ((B.drop bs).take bs).length = bs := by rw [List.length_take, List.length_drop]; omega
              have n3 : (B.drop d2).length = B.length - d2 := by rw [List.length_drop]
              have hcall := symMerge_chg (g := g) (cap := cap) (L := L) (by omega) (d2 + 1) wr A (B.take bs) ((B.drop bs).take bs) (B.drop d2) u (u + bs) v (by omega) (by rw [← eB]; exact i7) (by omega) (by omega) (by omega) i5.head i5.tail.head (by omega) (by omega) (by omega)
              rw [Int.natCast_add] at hcall
              refine hcall.mono ?_
              rintro e w2 ⟨rfl, Z, hs, hst2, hown2, hm2⟩
              have hZl : Z.length = d2 := by
                obtain ⟨cur, _, _, _, e, _⟩ := hown2.block
                simp only [List.length_append] at e
                omega
              have hst3 : Stab.Stab (ltOf ccmp) l0 ((A ++ Z) ++ B.drop d2) := by
                refine i6.trans ?_
                conv => lhs; rw [eB]
                rw [List.append_assoc, ← List.append_assoc (B.take bs)]
                exact Stab.Stab.append (Stab.Stab.refl _) (Stab.Stab.append hst2 (Stab.Stab.refl _))
              have hb3 : Stab.Blk (ltOf ccmp) d2 (A ++ Z) := Stab.Blk.append (k := k) i1 i4 (Stab.Blk.single (by omega) (by omega) hs)
              have hb4 : Stab.Blk (ltOf ccmp) bs (B.drop d2) := by
                have := i5.tail.tail
                rwa [List.drop_drop, show bs + bs = d2 by omega] at this
              have H2 := Lib.hid (And.intro hb3 (And.intro hb4 (And.intro hst3 (And.intro hown2 (And.intro (i8.trans' hm2) (And.intro hZl n3))))))
              clear hs hst2 hown2 hm2 hst3 hb3 hb4 hZl eB n1 n2 n3 i1 i2 i3 i4 i5 i6 i7 i8 i9 i10 o1 o2 o3 o4 o5 o6 o7 o8 o9 hc hcall
              go_wp2
              go_roundg (L - v)
              case measure => have h1 := HI.out; have h2 := hcc.out; have h3 := HO.out; omega
              case rel =>
                obtain ⟨i1, i2, i3, i4, i5, i6, i7, i8, i9, i10⟩ := HI.out
                obtain ⟨k1, k2, k3, k4, k5, k6, k7⟩ := H2.out
                obtain ⟨o1, o2, o3, o4, o5, o6, o7, o8, o9⟩ := HO.out
                have hc := hcc.out
                refine ⟨k + 1, A ++ Z, B.drop d2, ?_, ?_, ?_, ?_, ?_, k1, k2, k3, ?_, k5⟩
                · congr 1; rw [List.length_append]; omega
                · congr 1; rw [List.length_append]; omega
                · rw [List.length_append, Nat.add_mul, Nat.one_mul]; omega
                · rw [List.length_append]; omega
                · rw [List.length_append]; omega
                · rw [List.append_assoc]; exact k4
            · have hc' : ¬ (v : Int) ≤ (L : Int) := by omega
              have hcc := Lib.hid hc
              obtain ⟨m, hm⟩ : ∃ m, u + bs = m := ⟨_, rfl⟩
              have hmi : (u : Int) + (bs : Int) = (m : Int) := by omega
              by_cases hcm : m < L
              · have hcm' : (m : Int) < (L : Int) := by omega
                have HM := Lib.hid (And.intro hm hcm)
                clear hk hAB hgk hblk hblk2 hst hown hmod hu hv hc hm hcm
                go_wp2_with fail
                obtain ⟨i1, i2, i3, i4, i5, i6, i7, i8, i9, i10⟩ := HI.out
                obtain ⟨o1, o2, o3, o4, o5, o6, o7, o8, o9⟩ := HO.out
                have hc := hcc.out
                have hmm := HM.out
                have eB : B = B.take bs ++ (B.drop bs ++ []) := by rw [List.append_nil, List.take_append_drop]
                have n1 : (B.take bs).length = bs := by rw [List.length_take]; omega
                have n2 : (B.drop bs).length = B.length - bs := by rw [List.length_drop]
                refine (symMerge_chg (g := g) (cap := cap) (L := L) (by omega) (B.length + 1) wr A (B.take bs) (B.drop bs) [] u m L (by omega) (by rw [← eB]; exact i7) (by simp only [List.length_nil]; omega) (by omega) (by omega) i5.head (i5.tail.one (by omega)) (by omega) (by omega) (by omega)).mono ?_
                rintro e w2 ⟨rfl, Z, hs, hst2, hown2, hm2⟩
                rw [List.append_nil] at hown2
                have hZl : Z.length = B.length := by
                  obtain ⟨cur, _, _, _, e, _⟩ := hown2.block
                  simp only [List.length_append] at e
                  omega
                have hst3 : Stab.Stab (ltOf ccmp) l0 (A ++ Z) := by
                  refine i6.trans ?_
                  conv => lhs; rw [eB, List.append_nil]
                  exact Stab.Stab.append (Stab.Stab.refl _) hst2
                have hb3 : Stab.Blk (ltOf ccmp) d2 (A ++ Z) := Stab.Blk.append (k := k) i1 i4 (Stab.Blk.single (by omega) (by omega) hs)
                have H2 := Lib.hid (And.intro hb3 (And.intro hst3 (And.intro hown2 (i8.trans' hm2))))
                clear hs hst2 hown2 hm2 hst3 hb3 hZl eB n1 n2 i1 i2 i3 i4 i5 i6 i7 i8 i9 i10 o1 o2 o3 o4 o5 o6 o7 o8 o9 hc hmm
                go_wp2
                go_roundg (L - d2)
                case measure => have h3 := HO.out; omega
                case rel =>
                  obtain ⟨o1, o2, o3, o4, o5, o6, o7, o8, o9⟩ := HO.out
                  exact ⟨d2, A ++ Z, by first | rfl | (congr 1; omega), by omega, Nat.le_refl _, H2.out.1, H2.out.2.1, H2.out.2.2.1, H2.out.2.2.2⟩
              · have hcm' : ¬ (m : Int) < (L : Int) := by omega
                have HM := Lib.hid (And.intro hm hcm)
                clear hk hAB hgk hblk hblk2 hst hown hmod hu hv hc hm hcm
                go_wp2
                go_roundg (L - d2)
                case measure => have h3 := HO.out; omega
                case rel =>
                  obtain ⟨i1, i2, i3, i4, i5, i6, i7, i8, i9, i10⟩ := HI.out
                  obtain ⟨o1, o2, o3, o4, o5, o6, o7, o8, o9⟩ := HO.out
                  have hmm := HM.out
                  exact ⟨d2, A ++ B, by first | rfl | (congr 1; omega), by omega, Nat.le_refl _, Stab.Blk.append (k := k) i1 i4 (Stab.Blk.single (by omega) (by omega) (i5.one (by omega))), i6, i7, i8⟩
        · have hci : ¬ (bs : Int) < (L : Int) := by omega
          have HO := Lib.hid (And.intro hbs (And.intro hgk (And.intro hblk (And.intro hst (And.intro hown (And.intro hmod (And.intro hlen hc)))))))
          clear hbs hgk hblk hst hown hmod hlen hc
          go_wp2
          (try simp only [Exit.inBlock, Exit.then])
          refine bodyPost_end (results_none rfl _ _ _) rfl ?_
          obtain ⟨o1, o2, o3, o4, o5, o6, o7, o8⟩ := HO.out
          exact ⟨rfl, l, o3.one (by omega), o4, o5, o6⟩

set_option maxRecDepth 100000 in
set_option maxHeartbeats 800000 in
theorem stableNil_chg (w : World) : Calls Tryz.prog 77 #[.slice none 0 0, .int .i64 0, .func (.func 40) #[] #[]] w fun e w' => e = .returned (.tuple #[]) ∧ w' = w := by
  have hi := fun W => AnyF.insertionSortCmpFunc_none Tryz.laysInsChg none 0 (.func (.func 40) #[] #[]) W
  go_enter Tryz.func77, Tryz.ntmps77
  go_wp2
  go_loopg [7, 8] 1 (fun gg va vb wx => va = .int .i64 0 ∧ vb = .int .i64 20 ∧ wx = w)
  case atStart => exact ⟨rfl, rfl, rfl⟩
  case round =>
    obtain ⟨rfl, rfl, rfl⟩ := hrel
    go_wp2_with fail
    refine (hi _).mono ?_
    rintro e w2 ⟨rfl, rfl⟩
    go_wp2
    go_loopg [6] 1 (fun gg vs wx => vs = .int .i64 20 ∧ wx = w2)
    case atStart => exact ⟨rfl, rfl⟩
    case round =>
      obtain ⟨rfl, rfl⟩ := hrel
      go_wp2
      (try simp only [Exit.inBlock, Exit.then])
      refine bodyPost_end (results_none rfl _ _ _) rfl ?_
      exact ⟨rfl, rfl⟩
/-- slices.SortStableFunc. -/
theorem sortStable_chg {w : World} {v : Value} {l : List Chg} (h : OwnS chgC 5 w 83 v l) (hl : l.length < 576460752303423488) :
    Calls Tryz.prog 39 #[v, .func (.func 40) #[] #[]] w fun e w' =>
      e = .returned (.tuple #[]) ∧ ∃ l' : List Chg, Stab.Sorted (ltOf ccmp) l' ∧ Stab.Stab (ltOf ccmp) l l' ∧ OwnS chgC 5 w' 83 v l' ∧ Mod (fun x => some x = v.ownBlock) w w' := by
  rcases h.form with ⟨rfl, rfl⟩ | ⟨g, cap, rfl, hc1, hc2⟩
  · have HH := Lib.hid h
    clear h hl
    go_enter Tryz.func39, Tryz.ntmps39
    go_wp2_with fail
    refine (stableNil_chg w).mono ?_
    rintro e w2 ⟨rfl, rfl⟩
    go_wp2
    (try simp only [Exit.inBlock, Exit.then])
    refine bodyPost_end (results_none rfl _ _ _) rfl ?_
    exact ⟨rfl, [], List.Pairwise.nil, Stab.Stab.refl _, HH.out, Mod.refl _ _⟩
  · obtain ⟨L, hL⟩ : ∃ L, l.length = L := ⟨_, rfl⟩
    rw [hL] at h hl ⊢
    have HH := Lib.hid (And.intro h hl)
    clear h hl hc1 hc2 hL
    go_enter Tryz.func39, Tryz.ntmps39
    go_wp2_with fail
    refine (stable_chg HH.out.1 HH.out.2).mono ?_
    rintro e w2 ⟨rfl, l', h1, h2, h3, h4⟩
    have H2 := Lib.hid (And.intro h1 (And.intro h2 (And.intro h3 h4)))
    clear h1 h2 h3 h4
    go_wp2
    (try simp only [Exit.inBlock, Exit.then])
    refine bodyPost_end (results_none rfl _ _ _) rfl ?_
    obtain ⟨h1, h2, h3, h4⟩ := H2.out
    exact ⟨rfl, l', h1, h2, h3, h4.mono (fun x _ hx => by rw [show x = g from hx]; rfl)⟩
end Go.Proofs.YtojjnfhgldjgbaaGreatDoor.Watch
end
