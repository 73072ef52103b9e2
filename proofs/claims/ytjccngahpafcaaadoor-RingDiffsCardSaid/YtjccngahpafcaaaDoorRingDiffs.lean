/- porterlaw11.RingDiffs answers true at every input. -/
import Derived.Test.YtjccngahpafcaaaDoorRingEq
import Derived.Deep.DeepCutAuto
import Derived.Deep.CutBlock
import Derived.Deep.LoopGhost
import Derived.Test.YtjccngahpafcaaaDoorDraw
namespace Go.Proofs.YtjccngahpafcaaaDoor.RingDiffs
open Go.RowKit Go.Por Go.Proofs.YtjccngahpafcaaaDoor.RingF

theorem diffs_prefix (a b : List Int) (t : Nat) : ∀ k, ∃ r, diffs a b (t + k) = diffs a b t ++ r
  | 0 => ⟨[], by simp⟩
  | k + 1 => by
    obtain ⟨r, hr⟩ := diffs_prefix a b t k
    by_cases h : a[t + k]? = b[t + k]?
    · exact ⟨r, by rw [← Nat.add_assoc, diffs_no h, hr]⟩
    · exact ⟨r ++ [((t + k : Nat) : Int)], by rw [← Nat.add_assoc, diffs_yes h, hr, List.append_assoc]⟩
theorem diffs_nth {a b : List Int} {t : Nat} (ht : t < 16) (h : a[t]? ≠ b[t]?) : (diffs a b 16)[(diffs a b t).length]? = some (t : Int) := by
  obtain ⟨r, hr⟩ := diffs_prefix a b (t + 1) (16 - (t + 1))
  rw [show t + 1 + (16 - (t + 1)) = 16 by omega, diffs_yes h] at hr
  rw [hr, List.append_assoc, List.getElem?_append_right (Nat.le_refl _), Nat.sub_self]
  rfl

theorem move_case (e : Int) (os : List Int) (hl : os.length = 16) (k : Nat) (hk : k < 16) (x y : Int) (hx : os[k]? = some x) :
    ∃ e1 o1 c1, o1.length = 16 ∧ (c1 = 0 ∧ e1 = e + 1 ∧ o1 = os.set k y ∧ ¬ mvBad e (k : Int) y ∧ x ≠ y ∨ (c1 = 1 ∧ mvBad e (k : Int) y ∨ c1 = 5 ∧ ¬ mvBad e (k : Int) y ∧ x = y) ∧ e1 = 0 ∧ o1 = List.replicate 16 0) ∧
      ∀ w, Calls Tryd.prog 10 #[tval e os, .int .i64 (k : Int), .int .i64 y] w fun r w' => r = .returned (.tuple #[tval e1 o1, .int .i64 c1]) ∧ Below w.heap.size w w' := by
  by_cases h : mvBad e (k : Int) y
  · exact ⟨_, _, _, by simp, .inr ⟨.inl ⟨rfl, h⟩, rfl, rfl⟩, fun w => move_bad e os k y w h⟩
  by_cases hxy : x = y
  · subst hxy
    exact ⟨_, _, _, by simp, .inr ⟨.inr ⟨rfl, h, rfl⟩, rfl, rfl⟩, fun w => move_twice e os k x w h hx⟩
  · exact ⟨_, _, _, by simp [hl], .inl ⟨rfl, rfl, rfl, h, hxy⟩, fun w => move_good e os hl k y x w h hx hxy⟩

set_option maxRecDepth 100000 in
set_option maxHeartbeats 1600000 in
theorem row0 {w : World} (ea eb : Int) (oa ob : List Int) (ha : oa.length = 16) (hb : ob.length = 16) (slot : Int) :
    Calls Tryd.prog 3 #[tval ea oa, tval eb ob, .int .i64 slot] w fun e w' => e = .returned (.bool true) ∧ Below w.heap.size w w' := by
  have hD := fun w => diff_any ea oa eb ob ha hb w
  have hnth : ∀ t : Nat, t < 16 → oa[t]? ≠ ob[t]? → (diffs oa ob 16)[(diffs oa ob t).length]? = some (t : Int) := fun t ht h => diffs_nth ht h
  have hDl := diffs_le oa ob 16
  obtain ⟨D, hDD⟩ : ∃ D, diffs oa ob 16 = D := ⟨_, rfl⟩
  rw [hDD] at hD hnth hDl
  have HL := Lib.hid (And.intro ha (And.intro hb (And.intro hD (And.intro hnth hDD))))
  clear ha hb hD hnth hDD
  unfold tval
  go_enter Tryd.func3, Tryd.ntmps3
  go_wp2_with fail
  obtain ⟨B, hB⟩ : ∃ B, w.heap.size = B := ⟨_, rfl⟩
  generalize hW2 : (w.alloc (.cells (tcells ea oa) 24)).alloc (.cells (tcells eb ob) 24) = W2 at *
  rw [hB]
  have hr0 : W2.heap[B]? = some (.cells (tcells ea oa) 24 (0, 0)) := by
    rw [← hW2, ← hB]; exact block_alloc (block_new w _) _
  have hr1 : W2.heap[B + 1]? = some (.cells (tcells eb ob) 24 (0, 0)) := by
    rw [← hW2, ← hB]
    have := block_new (w.alloc (.cells (tcells ea oa) 24)) (.cells (tcells eb ob) 24)
    rw [World.size_alloc] at this
    exact this
  have hb2 : Below w.heap.size w W2 := by rw [← hW2]; exact ((Below.refl _ w).alloc (Nat.le_refl _) _).alloc (by simp) _
  have HW := Lib.hid (And.intro hr0 (And.intro hr1 (And.intro hb2 hB)))
  clear hr0 hr1 hb2 hW2 hB
  refine (awake_any W2).mono ?_
  rintro e w1 ⟨rfl, hb1⟩
  have h1a := (Mod.of_below hb1 (fun _ => False)).old HW.out.1 id
  have h1b := (Mod.of_below hb1 (fun _ => False)).old HW.out.2.1 id
  have H1 := Lib.hid (And.intro (HW.out.2.2.1.trans (hb1.mono HW.out.2.2.1.size)) (And.intro h1a h1b))
  clear hb1 h1a h1b
  go_wp2_with (first
    | (refine wpList_load_row rfl 24 (.tmp 3) rfl B rfl _ (tcells ea oa) _ _ H1.out.2.1 Tryd.underlying24 rfl (infoT' _ HL.out.1) ?_)
    | (refine wpList_load_row rfl 24 (.tmp 4) rfl (B + 1) rfl _ (tcells eb ob) _ _ H1.out.2.2 Tryd.underlying24 rfl (infoT' _ HL.out.2.1) ?_))
  ((with_reducible refine (HL.out.2.2.1 w1).mono ?_); rintro e w2 ⟨v2, rfl, hown2, hb2⟩)
  obtain ⟨a2, cap2, rfl, hread2⟩ := own_ints hown2
  have h2a := (Mod.of_below hb2 (fun _ => False)).old H1.out.2.1 id
  have h2b := (Mod.of_below hb2 (fun _ => False)).old H1.out.2.2 id
  have H2 := Lib.hid (And.intro (H1.out.1.trans (hb2.mono H1.out.1.size)) (And.intro h2a (And.intro h2b hread2)))
  clear hown2 hb2 h2a h2b hread2
  go_wp2
  go_loopg [7, 9] 16 (fun g n i wx => ∃ t : Nat, t + g = 16 ∧ i = .int .i64 (t : Int) ∧ n = .int .i64 ((diffs oa ob t).length : Int) ∧ Mod (fun _ => False) w2 wx)
  case atStart => exact ⟨0, by omega, rfl, rfl, Mod.refl _ _⟩
  case round =>
    obtain ⟨t, htg, rfl, rfl, hmod⟩ := hrel
    by_cases hg : gk = 0
    · have hk0 : ¬ ((t : Int) < 16) := by omega
      have htl : t = 16 := by omega
      subst htl
      rw [HL.out.2.2.2.2]
      have hra := hmod.old H2.out.2.1 id
      have hrb := hmod.old H2.out.2.2.1 id
      have hbr := H2.out.1.trans (hmod.to_below H2.out.1.size (fun _ h => h.elim))
      have HE := Lib.hid (And.intro hra (And.intro hrb hbr))
      clear hra hrb hbr hmod htg hg
      by_cases hs : slot < 0 ∨ 15 < slot
      · rcases hs with hs | hs
        · go_wp2
          go_ret
          exact ⟨rfl, HE.out.2.2⟩
        · have hs0 : ¬ slot < 0 := by omega
          go_wp2
          go_ret
          exact ⟨rfl, HE.out.2.2⟩
      obtain ⟨k, rfl⟩ : ∃ k : Nat, slot = k := ⟨slot.toNat, by omega⟩
      have hs0 : ¬ (k : Int) < 0 := by omega
      have hs1 : ¬ 15 < (k : Int) := by omega
      have hk1 : (k : Int) < 16 := by omega
      have hk2 : (0 : Int) ≤ (k : Int) := by omega
      clear hs
      go_wp2_with fail
      obtain ⟨y, hy⟩ : ∃ y, ob[k]? = some y := ⟨_, List.getElem?_eq_getElem (by have := HL.out.2.1; omega)⟩
      obtain ⟨x, hx⟩ : ∃ x, oa[k]? = some x := ⟨_, List.getElem?_eq_getElem (by have := HL.out.1; omega)⟩
      obtain ⟨e1, o1, c1, hl1, hcase, hmv⟩ := move_case ea oa HL.out.1 k (by omega) x y hx
      have HM := Lib.hid (And.intro hl1 (And.intro hcase (And.intro hmv (And.intro hx hy))))
      clear hl1 hcase hmv hx hy
      go_cut [10, 11] (fun p f wx => ∃ T, p = .pointer (some ⟨T, 0, none⟩) ∧ f = .int .i64 c1 ∧ wx.heap[T]? = some (.cells (tcells e1 o1) 24 (0, 0)) ∧ wx.heap[B]? = some (.cells (tcells ea oa) 24 (0, 0)) ∧ Below w.heap.size w wx)
      case first =>
        have hy := HM.out.2.2.2.2
        refine wp_region_held_drew (S := fun w' => w'.heap[B]? = some (.cells (tcells ea oa) 24 (0, 0)) ∧ w'.heap[B + 1]? = some (.cells (tcells eb ob) 24 (0, 0))) (by kernel_rfl) ⟨HE.out.1, HE.out.2.1⟩ (fun hS => ?_)
        refine takeD (i := 0) rfl (by kernel_rfl) (by kernel_rfl) (by kernel_rfl) (fun _ _ _ h => h) hS (yields_row (by rfl) 24 (.tmp 3) rfl B rfl (tcells ea oa) _ _ _ (fun _ h => h.1) Tryd.underlying24 rfl (infoT' _ HL.out.1)) ?_
        simp only [Act.put, List.setIfInBounds_toArray, List.set_cons_zero, List.set_cons_succ]
        refine takeD (i := 1) rfl (by kernel_rfl) (by kernel_rfl) (by kernel_rfl) (fun _ _ _ h => h) hS (Or.inl ⟨by rfl, fun w hSw => by go_simp; rfl⟩) ?_
        simp only [Act.put, List.setIfInBounds_toArray, List.set_cons_zero, List.set_cons_succ]
        refine takeD (i := 2) rfl (by kernel_rfl) (by kernel_rfl) (by kernel_rfl) (fun _ _ _ h => h) hS (Or.inl ⟨by rfl, fun w hSw => by go_simp; rfl⟩) ?_
        simp only [Act.put, List.setIfInBounds_toArray, List.set_cons_zero, List.set_cons_succ]
        refine takeD (i := 3) rfl (by kernel_rfl) (by kernel_rfl) (by kernel_rfl) (fun _ _ _ h => h) hS (Or.inl ⟨by rfl, fun w hSw => by go_simp; rfl⟩) ?_
        simp only [Act.put, List.setIfInBounds_toArray, List.set_cons_zero, List.set_cons_succ]
        refine takeD (i := 4) rfl (by kernel_rfl) (by kernel_rfl) (by kernel_rfl) (fun _ _ _ h => h) hS (Or.inl ⟨by rfl, fun w hSw => by go_simp; rfl⟩) ?_
        simp only [Act.put, List.setIfInBounds_toArray, List.set_cons_zero, List.set_cons_succ]
        refine takeD (i := 5) rfl (by kernel_rfl) (by kernel_rfl) (by kernel_rfl) (fun _ _ _ h => h) hS (v := .int .i64 y) (Or.inl ⟨by rfl, fun w hSw => by have c := cell_of hSw.2 (tcells_at eb hy); go_simp⟩) ?_
        simp only [Act.put, List.setIfInBounds_toArray, List.set_cons_zero, List.set_cons_succ]
        refine wpAnyH_ready (rs := [6, 10]) (by kernel_rfl) (by simp) ?_
        refine consD (i := 6) rfl (fun K hK => ?_) (consD (i := 10) rfl (fun K hK => ?_) AllReadyH.nil)
        · rw [if_pos (by rfl)]
          go_simp
          ((with_reducible refine (HM.out.2.2.1 _).mono ?_); rintro e w3 ⟨rfl, hb3⟩)
          dsimp only
          have hSA := hS
          have hm3 := Mod.of_below hb3 (fun _ => False)
          refine hK.out _ _ ⟨hm3.old hS.1 id, hm3.old hS.2 id⟩ (fun hS => ?_)
          clear hK K
          refine takeD (i := 7) rfl (by kernel_rfl) (by kernel_rfl) (by kernel_rfl) (fun _ _ _ h => h) hS (Or.inl ⟨by rfl, fun w hSw => by go_simp; rfl⟩) ?_
          simp only [Act.put, List.setIfInBounds_toArray, List.set_cons_zero, List.set_cons_succ]
          refine takeD (i := 8) rfl (by kernel_rfl) (by kernel_rfl) (by kernel_rfl) (fun _ _ _ h => h) hS (Or.inl ⟨by rfl, fun w hSw => by go_simp; rfl⟩) ?_
          simp only [Act.put, List.setIfInBounds_toArray, List.set_cons_zero, List.set_cons_succ]
          refine takeD (i := 9) rfl (by kernel_rfl) (by kernel_rfl) (by kernel_rfl) (fun _ _ _ h => h) hS (Or.inl ⟨by rfl, fun w hSw => by go_simp; rfl⟩) ?_
          simp only [Act.put, List.setIfInBounds_toArray, List.set_cons_zero, List.set_cons_succ]
          refine wpAnyH_ready (rs := [10]) (by kernel_rfl) (by simp) ?_
          refine consD (i := 10) rfl (fun K hK => ?_) AllReadyH.nil
          rw [if_pos (by rfl)]
          go_simp
          generalize hw4 : World.alloc _ _ = w4
          have h4 : ∃ Z : Array Value, Z.size = 17 ∧ w4.heap[w3.heap.size]? = some (.cells Z 24 (0, 0)) ∧ Below w3.heap.size w3 w4 := ⟨_, rfl, by rw [← hw4]; exact block_new _ _, by rw [← hw4]; exact (Below.refl _ _).alloc (Nat.le_refl _) _⟩
          obtain ⟨Z, hZ, hT, hb4⟩ := h4
          have hm4 := Mod.of_below hb4 (fun _ => False)
          refine hK.out _ _ ⟨hm4.old hS.1 id, hm4.old hS.2 id⟩ (fun hS => ?_)
          clear hK K
          refine wpAnyH_ready (rs := [11]) (by kernel_rfl) (by simp) ?_
          refine consD (i := 11) rfl (fun K hK => ?_) AllReadyH.nil
          rw [if_pos (by rfl)]
          refine wp_store_all 24 (.tmp 10) (.tmp 70) rfl w3.heap.size (tcells e1 o1) rfl rfl Z _ hT (by rw [tcells_size HM.out.1, hZ]) (infoT' _ HM.out.1) (tcells_one _ _) ?_
          intro w5 hw5 hm5 hz5
          simp only [Act.put, List.setIfInBounds_toArray, List.set_cons_zero, List.set_cons_succ]
          have hBl := lt_block hSA.1
          have hBl2 := lt_block hSA.2
          have hz3 := hb3.size
          refine hK.out _ _ ⟨hm5.old hS.1 (by omega), hm5.old hS.2 (by omega)⟩ (fun hS => ?_)
          clear hK K
          refine takeD (i := 12) rfl (by kernel_rfl) (by kernel_rfl) (by kernel_rfl) (fun _ _ _ h => h) hS (Or.inl ⟨by rfl, fun w hSw => by go_simp; rfl⟩) ?_
          simp only [Act.put, List.setIfInBounds_toArray, List.set_cons_zero, List.set_cons_succ]
          refine wpAnyH_done (by kernel_rfl) ?_ _
          go_wp2
          go_meet
          exact ⟨_, rfl, rfl, hw5, hS.1, HE.out.2.2.trans ((((Below.refl wr.heap.size wr).drew.trans hb3).trans (hb4.mono hb3.size)).mono HE.out.2.2.size |>.trans (hm5.to_below (by have := hb4.size; have := HE.out.2.2.size; have h9 : wr.heap.size ≤ w3.heap.size := hb3.size; omega) (fun x hx => by have := HE.out.2.2.size; have h9 : wr.heap.size ≤ w3.heap.size := hb3.size; omega)))⟩
        · rw [if_pos (by rfl)]
          go_simp
          have hSA := hS
          generalize hw3 : World.drew (World.alloc _ _) = w3
          have h3 : ∃ Z : Array Value, Z.size = 17 ∧ w3.heap[wr.heap.size]? = some (.cells Z 24 (0, 0)) ∧ Below wr.heap.size wr w3 := ⟨_, rfl, by rw [← hw3]; exact block_new _ _, by rw [← hw3]; exact ((Below.refl _ _).alloc (Nat.le_refl _) _).drew⟩
          obtain ⟨Z, hZ, hT, hb3⟩ := h3
          have hm3 := Mod.of_below hb3 (fun _ => False)
          refine hK.out _ _ ⟨hm3.old HE.out.1 id, hm3.old HE.out.2.1 id⟩ (fun hS => ?_)
          clear hK K
          refine wpAnyH_ready (rs := [6]) (by kernel_rfl) (by simp) ?_
          refine consD (i := 6) rfl (fun K hK => ?_) AllReadyH.nil
          rw [if_pos (by rfl)]
          go_simp
          ((with_reducible refine (HM.out.2.2.1 _).mono ?_); rintro e w4 ⟨rfl, hb4⟩)
          dsimp only
          have hm4 := Mod.of_below hb4 (fun _ => False)
          have hT4 := hm4.old hT id
          refine hK.out _ _ ⟨hm4.old hS.1 id, hm4.old hS.2 id⟩ (fun hS => ?_)
          clear hK K
          refine takeD (i := 7) rfl (by kernel_rfl) (by kernel_rfl) (by kernel_rfl) (fun _ _ _ h => h) hS (Or.inl ⟨by rfl, fun w hSw => by go_simp; rfl⟩) ?_
          simp only [Act.put, List.setIfInBounds_toArray, List.set_cons_zero, List.set_cons_succ]
          refine takeD (i := 8) rfl (by kernel_rfl) (by kernel_rfl) (by kernel_rfl) (fun _ _ _ h => h) hS (Or.inl ⟨by rfl, fun w hSw => by go_simp; rfl⟩) ?_
          simp only [Act.put, List.setIfInBounds_toArray, List.set_cons_zero, List.set_cons_succ]
          refine takeD (i := 9) rfl (by kernel_rfl) (by kernel_rfl) (by kernel_rfl) (fun _ _ _ h => h) hS (Or.inl ⟨by rfl, fun w hSw => by go_simp; rfl⟩) ?_
          simp only [Act.put, List.setIfInBounds_toArray, List.set_cons_zero, List.set_cons_succ]
          refine wpAnyH_ready (rs := [11]) (by kernel_rfl) (by simp) ?_
          refine consD (i := 11) rfl (fun K hK => ?_) AllReadyH.nil
          rw [if_pos (by rfl)]
          refine wp_store_all 24 (.tmp 10) (.tmp 70) rfl wr.heap.size (tcells e1 o1) rfl rfl Z _ hT4 (by rw [tcells_size HM.out.1, hZ]) (infoT' _ HM.out.1) (tcells_one _ _) ?_
          intro w5 hw5 hm5 hz5
          simp only [Act.put, List.setIfInBounds_toArray, List.set_cons_zero, List.set_cons_succ]
          have hBl := lt_block HE.out.1
          have hBl2 := lt_block HE.out.2.1
          refine hK.out _ _ ⟨hm5.old hS.1 (by omega), hm5.old hS.2 (by omega)⟩ (fun hS => ?_)
          clear hK K
          refine takeD (i := 12) rfl (by kernel_rfl) (by kernel_rfl) (by kernel_rfl) (fun _ _ _ h => h) hS (Or.inl ⟨by rfl, fun w hSw => by go_simp; rfl⟩) ?_
          simp only [Act.put, List.setIfInBounds_toArray, List.set_cons_zero, List.set_cons_succ]
          refine wpAnyH_done (by kernel_rfl) ?_ _
          go_wp2
          go_meet
          exact ⟨_, rfl, rfl, hw5, hS.1, HE.out.2.2.trans ((hb3.trans (hb4.mono hb3.size)).mono HE.out.2.2.size |>.trans (hm5.to_below (by have h8 := hb4.size; have h7 := HE.out.2.2.size; have h9 := hb3.size; omega) (fun x hx => by have h7 := HE.out.2.2.size; omega)))⟩
      case rest =>
        obtain ⟨T, rfl, rfl, hT, hBa, hbw⟩ := hcut
        have HR := Lib.hid (And.intro hT (And.intro hBa hbw))
        obtain ⟨hl1, hcase, _, hx, _⟩ := HM.out
        rcases hcase with ⟨rfl, rfl, rfl, hnb, hxy⟩ | ⟨hc, rfl, rfl⟩
        · have hl1' : (oa.set k y).length = 16 := by rw [List.length_set]; exact HL.out.1
          have hget : (oa.set k y)[k]? = some y := List.getElem?_set_self (by have := HL.out.1; omega)
          obtain ⟨e2, o2, c2, hl2, hcase2, hmv2⟩ := move_case (ea + 1) (oa.set k y) hl1' k (by omega) y x hget
          have hset : (oa.set k y).set k x = oa := by
            rw [List.set_set]
            have : x = oa[k]'(List.getElem?_eq_some_iff.1 hx).1 := (List.getElem?_eq_some_iff.1 hx).2.symm
            rw [this, List.set_getElem_self]
          rw [hset] at hcase2
          have HM2 := Lib.hid (And.intro hl2 (And.intro (And.intro hcase2 (And.intro hxy hnb)) (And.intro hmv2 hl1')))
          clear hl1' hget hl2 hcase2 hmv2 hset hT hBa hbw hl1 hnb hxy
          go_wp2_with fail
          go_cut [12, 13] (fun p f wx => ∃ U, p = .pointer (some ⟨U, 0, none⟩) ∧ f = .int .i64 c2 ∧ wx.heap[U]? = some (.cells (tcells e2 o2) 24 (0, 0)) ∧ wx.heap[B]? = some (.cells (tcells ea oa) 24 (0, 0)) ∧ Below w.heap.size w wx)
          case first =>
            have hy := HM.out.2.2.2.1
            refine wp_region_held_drew (S := fun w' => w'.heap[T]? = some (.cells (tcells (ea + 1) (oa.set k y)) 24 (0, 0)) ∧ w'.heap[B]? = some (.cells (tcells ea oa) 24 (0, 0))) (by kernel_rfl) ⟨HR.out.1, HR.out.2.1⟩ (fun hS => ?_)
            refine takeD (i := 0) rfl (by kernel_rfl) (by kernel_rfl) (by kernel_rfl) (fun _ _ _ h => h) hS (yields_row (by rfl) 24 (.tmp 10) rfl T rfl (tcells (ea + 1) (oa.set k y)) _ _ _ (fun _ h => h.1) Tryd.underlying24 rfl (infoT' _ HM2.out.2.2.2)) ?_
            simp only [Act.put, List.setIfInBounds_toArray, List.set_cons_zero, List.set_cons_succ]
            refine takeD (i := 1) rfl (by kernel_rfl) (by kernel_rfl) (by kernel_rfl) (fun _ _ _ h => h) hS (Or.inl ⟨by rfl, fun w hSw => by go_simp; rfl⟩) ?_
            simp only [Act.put, List.setIfInBounds_toArray, List.set_cons_zero, List.set_cons_succ]
            refine takeD (i := 2) rfl (by kernel_rfl) (by kernel_rfl) (by kernel_rfl) (fun _ _ _ h => h) hS (Or.inl ⟨by rfl, fun w hSw => by go_simp; rfl⟩) ?_
            simp only [Act.put, List.setIfInBounds_toArray, List.set_cons_zero, List.set_cons_succ]
            refine takeD (i := 3) rfl (by kernel_rfl) (by kernel_rfl) (by kernel_rfl) (fun _ _ _ h => h) hS (Or.inl ⟨by rfl, fun w hSw => by go_simp; rfl⟩) ?_
            simp only [Act.put, List.setIfInBounds_toArray, List.set_cons_zero, List.set_cons_succ]
            refine takeD (i := 4) rfl (by kernel_rfl) (by kernel_rfl) (by kernel_rfl) (fun _ _ _ h => h) hS (Or.inl ⟨by rfl, fun w hSw => by go_simp; rfl⟩) ?_
            simp only [Act.put, List.setIfInBounds_toArray, List.set_cons_zero, List.set_cons_succ]
            refine takeD (i := 5) rfl (by kernel_rfl) (by kernel_rfl) (by kernel_rfl) (fun _ _ _ h => h) hS (v := .int .i64 x) (Or.inl ⟨by rfl, fun w hSw => by have c := cell_of hSw.2 (tcells_at ea hy); go_simp⟩) ?_
            simp only [Act.put, List.setIfInBounds_toArray, List.set_cons_zero, List.set_cons_succ]
            refine wpAnyH_ready (rs := [6, 10]) (by kernel_rfl) (by simp) ?_
            refine consD (i := 6) rfl (fun K hK => ?_) (consD (i := 10) rfl (fun K hK => ?_) AllReadyH.nil)
            · rw [if_pos (by rfl)]
              go_simp
              ((with_reducible refine (HM2.out.2.2.1 _).mono ?_); rintro e w3 ⟨rfl, hb3⟩)
              dsimp only
              have hSA := hS
              have hm3 := Mod.of_below hb3 (fun _ => False)
              refine hK.out _ _ ⟨hm3.old hS.1 id, hm3.old hS.2 id⟩ (fun hS => ?_)
              clear hK K
              refine takeD (i := 7) rfl (by kernel_rfl) (by kernel_rfl) (by kernel_rfl) (fun _ _ _ h => h) hS (Or.inl ⟨by rfl, fun w hSw => by go_simp; rfl⟩) ?_
              simp only [Act.put, List.setIfInBounds_toArray, List.set_cons_zero, List.set_cons_succ]
              refine takeD (i := 8) rfl (by kernel_rfl) (by kernel_rfl) (by kernel_rfl) (fun _ _ _ h => h) hS (Or.inl ⟨by rfl, fun w hSw => by go_simp; rfl⟩) ?_
              simp only [Act.put, List.setIfInBounds_toArray, List.set_cons_zero, List.set_cons_succ]
              refine takeD (i := 9) rfl (by kernel_rfl) (by kernel_rfl) (by kernel_rfl) (fun _ _ _ h => h) hS (Or.inl ⟨by rfl, fun w hSw => by go_simp; rfl⟩) ?_
              simp only [Act.put, List.setIfInBounds_toArray, List.set_cons_zero, List.set_cons_succ]
              refine wpAnyH_ready (rs := [10]) (by kernel_rfl) (by simp) ?_
              refine consD (i := 10) rfl (fun K hK => ?_) AllReadyH.nil
              rw [if_pos (by rfl)]
              go_simp
              generalize hw4 : World.alloc _ _ = w4
              have h4 : ∃ Z : Array Value, Z.size = 17 ∧ w4.heap[w3.heap.size]? = some (.cells Z 24 (0, 0)) ∧ Below w3.heap.size w3 w4 := ⟨_, rfl, by rw [← hw4]; exact block_new _ _, by rw [← hw4]; exact (Below.refl _ _).alloc (Nat.le_refl _) _⟩
              obtain ⟨Z, hZ, hT, hb4⟩ := h4
              have hm4 := Mod.of_below hb4 (fun _ => False)
              refine hK.out _ _ ⟨hm4.old hS.1 id, hm4.old hS.2 id⟩ (fun hS => ?_)
              clear hK K
              refine wpAnyH_ready (rs := [11]) (by kernel_rfl) (by simp) ?_
              refine consD (i := 11) rfl (fun K hK => ?_) AllReadyH.nil
              rw [if_pos (by rfl)]
              refine wp_store_all 24 (.tmp 12) (.tmp 85) rfl w3.heap.size (tcells e2 o2) rfl rfl Z _ hT (by rw [tcells_size HM2.out.1, hZ]) (infoT' _ HM2.out.1) (tcells_one _ _) ?_
              intro w5 hw5 hm5 hz5
              simp only [Act.put, List.setIfInBounds_toArray, List.set_cons_zero, List.set_cons_succ]
              have hBl := lt_block hSA.1
              have hBl2 := lt_block hSA.2
              have hz3 := hb3.size
              refine hK.out _ _ ⟨hm5.old hS.1 (by omega), hm5.old hS.2 (by omega)⟩ (fun hS => ?_)
              clear hK K
              refine takeD (i := 12) rfl (by kernel_rfl) (by kernel_rfl) (by kernel_rfl) (fun _ _ _ h => h) hS (Or.inl ⟨by rfl, fun w hSw => by go_simp; rfl⟩) ?_
              simp only [Act.put, List.setIfInBounds_toArray, List.set_cons_zero, List.set_cons_succ]
              refine wpAnyH_done (by kernel_rfl) ?_ _
              go_wp2
              go_meet
              exact ⟨_, rfl, rfl, hw5, hS.2, HR.out.2.2.trans ((((Below.refl wc.heap.size wc).drew.trans hb3).trans (hb4.mono hb3.size)).mono HR.out.2.2.size |>.trans (hm5.to_below (by have := hb4.size; have := HR.out.2.2.size; have h9 : wc.heap.size ≤ w3.heap.size := hb3.size; omega) (fun x hx => by have := HR.out.2.2.size; have h9 : wc.heap.size ≤ w3.heap.size := hb3.size; omega)))⟩
            · rw [if_pos (by rfl)]
              go_simp
              have hSA := hS
              generalize hw3 : World.drew (World.alloc _ _) = w3
              have h3 : ∃ Z : Array Value, Z.size = 17 ∧ w3.heap[wc.heap.size]? = some (.cells Z 24 (0, 0)) ∧ Below wc.heap.size wc w3 := ⟨_, rfl, by rw [← hw3]; exact block_new _ _, by rw [← hw3]; exact ((Below.refl _ _).alloc (Nat.le_refl _) _).drew⟩
              obtain ⟨Z, hZ, hT, hb3⟩ := h3
              have hm3 := Mod.of_below hb3 (fun _ => False)
              refine hK.out _ _ ⟨hm3.old HR.out.1 id, hm3.old HR.out.2.1 id⟩ (fun hS => ?_)
              clear hK K
              refine wpAnyH_ready (rs := [6]) (by kernel_rfl) (by simp) ?_
              refine consD (i := 6) rfl (fun K hK => ?_) AllReadyH.nil
              rw [if_pos (by rfl)]
              go_simp
              ((with_reducible refine (HM2.out.2.2.1 _).mono ?_); rintro e w4 ⟨rfl, hb4⟩)
              dsimp only
              have hm4 := Mod.of_below hb4 (fun _ => False)
              have hT4 := hm4.old hT id
              refine hK.out _ _ ⟨hm4.old hS.1 id, hm4.old hS.2 id⟩ (fun hS => ?_)
              clear hK K
              refine takeD (i := 7) rfl (by kernel_rfl) (by kernel_rfl) (by kernel_rfl) (fun _ _ _ h => h) hS (Or.inl ⟨by rfl, fun w hSw => by go_simp; rfl⟩) ?_
              simp only [Act.put, List.setIfInBounds_toArray, List.set_cons_zero, List.set_cons_succ]
              refine takeD (i := 8) rfl (by kernel_rfl) (by kernel_rfl) (by kernel_rfl) (fun _ _ _ h => h) hS (Or.inl ⟨by rfl, fun w hSw => by go_simp; rfl⟩) ?_
              simp only [Act.put, List.setIfInBounds_toArray, List.set_cons_zero, List.set_cons_succ]
              refine takeD (i := 9) rfl (by kernel_rfl) (by kernel_rfl) (by kernel_rfl) (fun _ _ _ h => h) hS (Or.inl ⟨by rfl, fun w hSw => by go_simp; rfl⟩) ?_
              simp only [Act.put, List.setIfInBounds_toArray, List.set_cons_zero, List.set_cons_succ]
              refine wpAnyH_ready (rs := [11]) (by kernel_rfl) (by simp) ?_
              refine consD (i := 11) rfl (fun K hK => ?_) AllReadyH.nil
              rw [if_pos (by rfl)]
              refine wp_store_all 24 (.tmp 12) (.tmp 85) rfl wc.heap.size (tcells e2 o2) rfl rfl Z _ hT4 (by rw [tcells_size HM2.out.1, hZ]) (infoT' _ HM2.out.1) (tcells_one _ _) ?_
              intro w5 hw5 hm5 hz5
              simp only [Act.put, List.setIfInBounds_toArray, List.set_cons_zero, List.set_cons_succ]
              have hBl := lt_block HR.out.1
              have hBl2 := lt_block HR.out.2.1
              refine hK.out _ _ ⟨hm5.old hS.1 (by omega), hm5.old hS.2 (by omega)⟩ (fun hS => ?_)
              clear hK K
              refine takeD (i := 12) rfl (by kernel_rfl) (by kernel_rfl) (by kernel_rfl) (fun _ _ _ h => h) hS (Or.inl ⟨by rfl, fun w hSw => by go_simp; rfl⟩) ?_
              simp only [Act.put, List.setIfInBounds_toArray, List.set_cons_zero, List.set_cons_succ]
              refine wpAnyH_done (by kernel_rfl) ?_ _
              go_wp2
              go_meet
              exact ⟨_, rfl, rfl, hw5, hS.2, HR.out.2.2.trans ((hb3.trans (hb4.mono hb3.size)).mono HR.out.2.2.size |>.trans (hm5.to_below (by have h8 := hb4.size; have h7 := HR.out.2.2.size; have h9 := hb3.size; omega) (fun x hx => by have h7 := HR.out.2.2.size; omega)))⟩
          case rest =>
            obtain ⟨U, rfl, rfl, hU, hBa2, hbw2⟩ := hcut
            have HR2 := Lib.hid (And.intro hU (And.intro hBa2 hbw2))
            clear hU hBa2 hbw2
            obtain ⟨hl2, ⟨hcase2, hxy, hnb⟩, _⟩ := HM2.out
            rcases hcase2 with ⟨rfl, he2, ho2, hnb2, _⟩ | ⟨⟨rfl, hb2⟩ | ⟨rfl, _, h5⟩, rfl, rfl⟩
            · have g0 : 0 ≤ ea := by unfold mvBad at hnb; omega
              have g1 : ea ≤ 1125899906842623 := by unfold mvBad at hnb; omega
              have h12 : ea + 1 + 1 = ea + 2 := by omega
              rw [he2, ho2, h12] at HR2
              have cU := cell_of HR2.out.1 (tcells_zero (ea + 2) oa)
              have cB := cell_of HR2.out.2.1 (tcells_zero ea oa)
              have hinf : (Tryd.prog.info? 22).map (·.size) = some (oa.map (Value.int .i64)).length := by rw [List.length_map, HL.out.1]; exact infoA
              have HI := Lib.hid hinf
              have heq : ∀ w, (Op.equalIn 10000 22 (.agg (oa.map (Value.int .i64)).toArray) (.agg (oa.map (Value.int .i64)).toArray)).run Tryd.prog w = .ok true w := fun w => by
                have h := eqOwn 9998 oa oa HL.out.1 HL.out.1 w
                rw [decide_eq_true rfl] at h
                exact h
              have q : (ea + 2 == ea + 2) = true := by simp
              clear hinf hxy hnb hnb2 he2 ho2 hl2 hx h12
              go_wp2_with (first
                | (refine wpList_load_mid rfl 22 (.tmp 91) rfl U 1 rfl (oa.map (Value.int .i64)) _ (range_owners HR2.out.1) Tryd.underlying22 rfl HI.out ?_)
                | (refine wpList_load_mid rfl 22 (.tmp 93) rfl B 1 rfl (oa.map (Value.int .i64)) _ (range_owners HR2.out.2.1) Tryd.underlying22 rfl HI.out ?_))
              go_ret
              exact ⟨rfl, HR2.out.2.2⟩
            · clear hxy hnb hl2 hb2
              go_wp2
              go_ret
              exact ⟨rfl, HR2.out.2.2⟩
            · exact absurd h5.symm hxy
        · have hZ : tcells 0 (List.replicate 16 0) = #[.int .i64 0, .int .i64 0, .int .i64 0, .int .i64 0, .int .i64 0, .int .i64 0, .int .i64 0, .int .i64 0, .int .i64 0, .int .i64 0, .int .i64 0, .int .i64 0, .int .i64 0, .int .i64 0, .int .i64 0, .int .i64 0, .int .i64 0] := rfl
          have heq : ∀ w, (Op.equalIn 9999 22 (.agg #[.int .i64 0, .int .i64 0, .int .i64 0, .int .i64 0, .int .i64 0, .int .i64 0, .int .i64 0, .int .i64 0, .int .i64 0, .int .i64 0, .int .i64 0, .int .i64 0, .int .i64 0, .int .i64 0, .int .i64 0, .int .i64 0]) (.agg #[.int .i64 0, .int .i64 0, .int .i64 0, .int .i64 0, .int .i64 0, .int .i64 0, .int .i64 0, .int .i64 0, .int .i64 0, .int .i64 0, .int .i64 0, .int .i64 0, .int .i64 0, .int .i64 0, .int .i64 0, .int .i64 0])).run Tryd.prog w = .ok true w := fun w => by
            have h := eqOwn 9997 (List.replicate 16 0) (List.replicate 16 0) (by simp) (by simp) w
            rw [decide_eq_true rfl] at h
            exact h
          have hc0 : (c1 != 0) = true := by rcases hc with ⟨rfl, _⟩ | ⟨rfl, _⟩ <;> rfl
          rw [hZ] at hT
          have HT := Lib.hid hT
          clear hT hBa hbw hx hc hZ
          go_wp2_with (refine wpList_load_row rfl 24 (.tmp 10) rfl T rfl _ _ _ _ HT.out Tryd.underlying24 rfl (by kernel_rfl) ?_)
          go_ret
          exact ⟨rfl, HR.out.2.2⟩
    · have ht : (t : Int) < 16 := by omega
      have ht0 : (0 : Int) ≤ (t : Int) := by omega
      obtain ⟨x, hx⟩ : ∃ x, oa[t]? = some x := ⟨_, List.getElem?_eq_getElem (by have := HL.out.1; omega)⟩
      obtain ⟨y, hy⟩ : ∃ y, ob[t]? = some y := ⟨_, List.getElem?_eq_getElem (by have := HL.out.2.1; omega)⟩
      have c0 : wr.cell? ⟨B, 1 + t, none⟩ = some (.int .i64 x) := cell_of (hmod.old H2.out.2.1 id) (tcells_at ea hx)
      have c1 : wr.cell? ⟨B + 1, 1 + t, none⟩ = some (.int .i64 y) := cell_of (hmod.old H2.out.2.2.1 id) (tcells_at eb hy)
      have hkl := diffs_le oa ob t
      by_cases hxy : x = y
      · have q : (x == y) = true := by rw [hxy]; simp
        have HD := Lib.hid (diffs_no (a := oa) (b := ob) (n := t) (by rw [hx, hxy, ← hy]))
        have HE := Lib.hid (And.intro hmod htg)
        clear hmod htg hg hx hy hxy
        go_wp2_with fail
        go_region
        all_goals
          go_wp2
          go_roundg (gk - 1)
          case measure => have := HE.out.2; omega
          case rel =>
            obtain ⟨hmod, htg⟩ := HE.out
            exact ⟨t + 1, by omega, by go_num, by rw [HD.out], hmod.drew⟩
      · have q : (x == y) = false := by rw [beq_eq_false_iff_ne]; exact hxy
        have hne : oa[t]? ≠ ob[t]? := by rw [hx, hy]; exact fun e => hxy (Option.some.inj e)
        have HD := Lib.hid (diffs_yes (a := oa) (b := ob) (n := t) hne)
        have hat := HL.out.2.2.2.1 t (by omega) hne
        obtain ⟨n, hn⟩ : ∃ n, (diffs oa ob t).length = n := ⟨_, rfl⟩
        rw [hn] at hat hkl
        obtain ⟨g2, rfl, hg2, cd⟩ := H2.out.2.2.2 n _ hat
        have cd' : wr.cell? ⟨g2, n, none⟩ = some (.int .i64 (t : Int)) := by
          rw [hmod.cell (p := ⟨g2, n, none⟩) hg2 id]; exact cd
        have hnl : (n : Int) < (D.length : Int) := by have := (List.getElem?_eq_some_iff.1 hat).1; omega
        have HE := Lib.hid (And.intro hmod (And.intro htg hn))
        rw [hn]
        clear hmod htg hg hx hy hxy hne hat hn cd
        go_wp2_with fail
        go_region
        all_goals
          go_wp2
          go_roundg (gk - 1)
          case measure => have := HE.out.2.1; omega
          case rel =>
            obtain ⟨hmod, htg, hn⟩ := HE.out
            exact ⟨t + 1, by omega, by go_num, by rw [HD.out, List.length_append, hn]; go_num, hmod.drew⟩
theorem row {w : World} (a : Int × List Int) (ha : a.2.length = 16) (b : Int × List Int) (hb : b.2.length = 16) (slot : Int) :
    Calls Tryd.prog 3 #[tval a.1 a.2, tval b.1 b.2, .int .i64 slot] w fun e w' => e = .returned (.bool true) ∧ Below w.heap.size w w' := row0 a.1 b.1 a.2 b.2 ha hb slot
end Go.Proofs.YtjccngahpafcaaaDoor.RingDiffs
