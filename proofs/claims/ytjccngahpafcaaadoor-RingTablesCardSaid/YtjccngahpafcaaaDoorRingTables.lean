/- porterlaw11.RingTables answers true at every input. (Printed by mkringtables.py.) -/
import Derived.Test.YtjccngahpafcaaaDoorRingV
import Derived.Deep.DeepCutAuto
import Derived.Deep.CutBlock
namespace Go.Proofs.YtjccngahpafcaaaDoor.RingTables
open Go.RowKit Go.Por Go.Proofs.YtjccngahpafcaaaDoor.RingF

set_option maxRecDepth 100000 in
set_option maxHeartbeats 4000000 in
theorem row0 {w : World} (n p : Int) (e : Int) (os : List Int) (hl : os.length = 16) (s nd : Int) :
    Calls Tryd.prog 6 #[.agg #[.int .i64 n, .int .i64 p], tval e os, .agg #[.int .i64 s, .int .i64 nd]] w fun e w' => e = .returned (.bool true) ∧ Below w.heap.size w w' := by
  obtain ⟨on, cn, hln, hn1, hn2⟩ := new2 n p
  obtain ⟨em, om, cm, hlm, hm1, hm2⟩ := move2 e os hl s nd
  have hp1 := fun w => plain_any 0 on hln w
  have hp2 := fun w => plain_any em om hlm w
  have hp3 := fun w => plain_any e os hl w
  have hc1 := fun w => check_any e os hl n w
  have hc2 := fun w => refcheck_any e os hl n w
  obtain ⟨x, hx⟩ : ∃ x, os[place ⟨#[100, 111, 99, 58, 97]⟩ % 16]? = some x := ⟨_, List.getElem?_eq_getElem (by omega)⟩
  have ho := fun w => owner_any e os hl ⟨#[100, 111, 99, 58, 97]⟩ (by decide) x hx w
  have hh : ∀ w, Calls Tryd.prog 12 #[.string ⟨#[100, 111, 99, 58, 97]⟩] w fun e w' => e = .returned (.int .u64 ((place ⟨#[100, 111, 99, 58, 97]⟩ : Nat) : Int)) ∧ Below w.heap.size w w' := fun w => (refhash_any ⟨#[100, 111, 99, 58, 97]⟩ (by decide) w).mono fun _ _ ⟨a, b, _⟩ => ⟨a, b.to_below (Nat.le_refl _) (fun _ h => h.elim)⟩
  obtain ⟨h, hhe⟩ : ∃ h, place ⟨#[100, 111, 99, 58, 97]⟩ = h := ⟨_, rfl⟩
  have hh0 : h < 4294967296 := by have := place_lt ⟨#[100, 111, 99, 58, 97]⟩; omega
  rw [hhe] at hx hh
  obtain ⟨kk, hkk⟩ : ∃ kk, chk e os n = kk := ⟨_, rfl⟩
  rw [hkk] at hc1 hc2
  obtain ⟨hi, hhi⟩ : ∃ hi, h % 16 = hi := ⟨_, rfl⟩
  have hi16 : hi < 16 := by omega
  have hmod : (h : Int).tmod 16 = (hi : Int) := by rw [Int.tmod_eq_emod_of_nonneg (by omega)]; omega
  have hmod2 : (h : Int) % 16 = (hi : Int) := by omega
  rw [hhi] at hx
  have HC := Lib.hid (And.intro hn1 (And.intro hn2 (And.intro hm1 (And.intro hm2 (And.intro hp1 (And.intro hp2 (And.intro hp3 (And.intro hc1 (And.intro hc2 (And.intro ho hh))))))))))
  have HL := Lib.hid (And.intro hln (And.intro hlm (And.intro hl hx)))
  have HM := Lib.hid (And.intro hmod (And.intro hmod2 (And.intro hi16 hh0)))
  clear hn1 hn2 hm1 hm2 hp1 hp2 hp3 hc1 hc2 ho hh hln hlm hl hx hmod hmod2 hi16 hh0 hhe hkk hhi
  unfold tval
  go_enter Tryd.func6, Tryd.ntmps6
  go_wp2_with fail
  obtain ⟨B, hB⟩ : ∃ B, w.heap.size = B := ⟨_, rfl⟩
  generalize hW2 : World.alloc (World.alloc (World.alloc w _) _) _ = W2 at *
  rw [hB]
  have hr0 : W2.heap[B]? = some (.cells #[.int .i64 n, .int .i64 p] 33 (0, 0)) := by
    rw [← hW2, ← hB]; exact block_alloc (block_alloc (block_new w _) _) _
  have hr1 : W2.heap[B + 1]? = some (.cells (tcells e os) 24 (0, 0)) := by
    rw [← hW2, ← hB]
    have := block_new (w.alloc (.cells #[.int .i64 n, .int .i64 p] 33)) (.cells (tcells e os) 24)
    rw [World.size_alloc] at this
    exact block_alloc this _
  have hr2 : W2.heap[B + 1 + 1]? = some (.cells #[.int .i64 s, .int .i64 nd] 33 (0, 0)) := by
    rw [← hW2, ← hB]
    have := block_new ((w.alloc (.cells #[.int .i64 n, .int .i64 p] 33)).alloc (.cells (tcells e os) 24)) (.cells #[.int .i64 s, .int .i64 nd] 33)
    rw [World.size_alloc, World.size_alloc] at this
    exact this
  have hb2 : Below w.heap.size w W2 := by rw [← hW2]; exact (((Below.refl _ w).alloc (Nat.le_refl _) _).alloc (by simp) _).alloc (by simp; omega) _
  have HW := Lib.hid (And.intro hr0 (And.intro hr1 (And.intro hr2 (And.intro hb2 hB))))
  clear hr0 hr1 hr2 hb2 hW2 hB
  refine (awake_any W2).mono ?_
  rintro e w1 ⟨rfl, hb1⟩
  have m1 := Mod.of_below hb1 (fun _ => False)
  have c0 := cell_of (i := 0) (m1.old HW.out.1 id) rfl
  have c1 := cell_of (i := 1) (m1.old HW.out.1 id) rfl
  have H1 := Lib.hid (And.intro (m1.old HW.out.1 id) (And.intro (m1.old HW.out.2.1 id) (And.intro (m1.old HW.out.2.2.1 id) (HW.out.2.2.2.1.trans (hb1.mono HW.out.2.2.2.1.size)))))
  clear hb1 m1
  go_wp2_with fail
  ((with_reducible refine (HC.out.1 w1).mono ?_); rintro e w2 ⟨rfl, hb2⟩)
  have m := Mod.of_below hb2 (fun _ => False)
  obtain ⟨T7, hT⟩ : ∃ T, w2.heap.size = T := ⟨_, rfl⟩
  have H2 := Lib.hid (And.intro (m.old H1.out.1 id) (And.intro (m.old H1.out.2.1 id) (And.intro (m.old H1.out.2.2.1 id) (And.intro (H1.out.2.2.2.trans (hb2.mono H1.out.2.2.2.size)) (And.intro (show ∀ o, (w2.alloc o).heap[T7]? = some o from fun o => by rw [← hT]; exact block_new w2 o) (hT))))))
  clear m hb2 c0 c1 H1
  go_upto_region 4 with (refine wpList_store_all rfl 24 (.tmp 7) (.tmp 23) rfl T7 (tcells 0 on) rfl rfl _ _ (H2.out.2.2.2.2.1 _) (by rw [tcells_size HL.out.1]; rfl) (infoT' _ HL.out.1) (tcells_one _ _) ?_; intro w3 hw hm hz; have hm' := ((Mod.refl (fun x => x = T7) w2).alloc _).trans' hm; have H2' := Lib.hid (And.intro hw hm'); clear hw hm hz hm')
  have hne : ∀ x, x < w2.heap.size → x ≠ T7 := fun x hx => by have := H2.out.2.2.2.2.2; omega
  have H3 := Lib.hid (And.intro H2'.out.1 (And.intro (H2'.out.2.old H2.out.1 (hne _ (lt_block H2.out.1))) (And.intro (H2'.out.2.old H2.out.2.1 (hne _ (lt_block H2.out.2.1))) (And.intro (H2'.out.2.old H2.out.2.2.1 (hne _ (lt_block H2.out.2.2.1))) ((H2.out.2.2.2.1.trans (H2'.out.2.to_below H2.out.2.2.2.1.size (fun x hx => by have h1 := H2.out.2.2.2.1.size; have h2 := H2.out.2.2.2.2.2; have h3 : x = T7 := hx; omega))))))))
  clear hne H2 H2' hT
  have c0 := cell_of (i := 0) H3.out.2.1 rfl
  have c1 := cell_of (i := 1) H3.out.2.1 rfl
  go_wp2_with fail
  ((with_reducible refine (HC.out.2.1 w3).mono ?_); rintro e w4 ⟨rfl, hb4⟩)
  have m := Mod.of_below hb4 (fun _ => False)
  obtain ⟨T9, hT⟩ : ∃ T, w4.heap.size = T := ⟨_, rfl⟩
  have H4 := Lib.hid (And.intro (m.old H3.out.1 id) (And.intro (m.old H3.out.2.1 id) (And.intro (m.old H3.out.2.2.1 id) (And.intro (m.old H3.out.2.2.2.1 id) (And.intro (H3.out.2.2.2.2.trans (hb4.mono H3.out.2.2.2.2.size)) (And.intro (show ∀ o, (w4.alloc o).heap[T9]? = some o from fun o => by rw [← hT]; exact block_new w4 o) (hT)))))))
  clear m hb4 c0 c1 H3
  go_upto_region 5 with (refine wpList_store_all rfl 41 (.tmp 9) (.tmp 31) rfl T9 (tcells 0 on) rfl rfl _ _ (H4.out.2.2.2.2.2.1 _) (by rw [tcells_size HL.out.1]; rfl) (infoR' _ HL.out.1) (tcells_one _ _) ?_; intro w5 hw hm hz; have hm' := ((Mod.refl (fun x => x = T9) w4).alloc _).trans' hm; have H4' := Lib.hid (And.intro hw hm'); clear hw hm hz hm')
  have hne : ∀ x, x < w4.heap.size → x ≠ T9 := fun x hx => by have := H4.out.2.2.2.2.2.2; omega
  have H5 := Lib.hid (And.intro H4'.out.1 (And.intro (H4'.out.2.old H4.out.1 (hne _ (lt_block H4.out.1))) (And.intro (H4'.out.2.old H4.out.2.1 (hne _ (lt_block H4.out.2.1))) (And.intro (H4'.out.2.old H4.out.2.2.1 (hne _ (lt_block H4.out.2.2.1))) (And.intro (H4'.out.2.old H4.out.2.2.2.1 (hne _ (lt_block H4.out.2.2.2.1))) ((H4.out.2.2.2.2.1.trans (H4'.out.2.to_below H4.out.2.2.2.2.1.size (fun x hx => by have h1 := H4.out.2.2.2.2.1.size; have h2 := H4.out.2.2.2.2.2.2; have h3 : x = T9 := hx; omega)))))))))
  clear hne H4 H4' hT
  have c0 := cell_of (i := 0) H5.out.2.2.2.2.1 rfl
  have c1 := cell_of (i := 1) H5.out.2.2.2.2.1 rfl
  go_wp2_with (refine wpList_load_row rfl 24 (.tmp 4) rfl (B + 1) rfl _ (tcells e os) _ _ H5.out.2.2.2.1 Tryd.underlying24 rfl (infoT' _ HL.out.2.2.1) ?_)
  ((with_reducible refine (HC.out.2.2.1 w5).mono ?_); rintro e w6 ⟨rfl, hb6⟩)
  have m := Mod.of_below hb6 (fun _ => False)
  obtain ⟨T11, hT⟩ : ∃ T, w6.heap.size = T := ⟨_, rfl⟩
  have H6 := Lib.hid (And.intro (m.old H5.out.1 id) (And.intro (m.old H5.out.2.1 id) (And.intro (m.old H5.out.2.2.1 id) (And.intro (m.old H5.out.2.2.2.1 id) (And.intro (m.old H5.out.2.2.2.2.1 id) (And.intro (H5.out.2.2.2.2.2.trans (hb6.mono H5.out.2.2.2.2.2.size)) (And.intro (show ∀ o, (w6.alloc o).heap[T11]? = some o from fun o => by rw [← hT]; exact block_new w6 o) (hT))))))))
  clear m hb6 c0 c1 H5
  go_upto_region 6 with (refine wpList_store_all rfl 24 (.tmp 11) (.tmp 40) rfl T11 (tcells em om) rfl rfl _ _ (H6.out.2.2.2.2.2.2.1 _) (by rw [tcells_size HL.out.2.1]; rfl) (infoT' _ HL.out.2.1) (tcells_one _ _) ?_; intro w7 hw hm hz; have hm' := ((Mod.refl (fun x => x = T11) w6).alloc _).trans' hm; have H6' := Lib.hid (And.intro hw hm'); clear hw hm hz hm')
  have hne : ∀ x, x < w6.heap.size → x ≠ T11 := fun x hx => by have := H6.out.2.2.2.2.2.2.2; omega
  have H7 := Lib.hid (And.intro H6'.out.1 (And.intro (H6'.out.2.old H6.out.1 (hne _ (lt_block H6.out.1))) (And.intro (H6'.out.2.old H6.out.2.1 (hne _ (lt_block H6.out.2.1))) (And.intro (H6'.out.2.old H6.out.2.2.1 (hne _ (lt_block H6.out.2.2.1))) (And.intro (H6'.out.2.old H6.out.2.2.2.1 (hne _ (lt_block H6.out.2.2.2.1))) (And.intro (H6'.out.2.old H6.out.2.2.2.2.1 (hne _ (lt_block H6.out.2.2.2.2.1))) ((H6.out.2.2.2.2.2.1.trans (H6'.out.2.to_below H6.out.2.2.2.2.2.1.size (fun x hx => by have h1 := H6.out.2.2.2.2.2.1.size; have h2 := H6.out.2.2.2.2.2.2.2; have h3 : x = T11 := hx; omega))))))))))
  clear hne H6 H6' hT
  go_cut [13, 14] (fun p f wx => ∃ T, p = .pointer (some ⟨T, 0, none⟩) ∧ f = .int .i64 cm ∧ wx.heap[T]? = some (.cells (tcells em om) 41 (0, 0)) ∧ Below w7.heap.size w7 wx)
  case first =>
    refine wp_region_held_drew (S := fun w' => Below w7.heap.size w7 w') (by kernel_rfl) ((Below.refl _ w7).drew) (fun hS => ?_)
    refine takeD (i := 0) rfl (by kernel_rfl) (by kernel_rfl) (by kernel_rfl) (fun _ _ _ h => h) hS (yields_row (by rfl) 24 (.tmp 4) rfl (B + 1) rfl (tcells e os) _ _ _ (fun w h => by rw [h.block _ (lt_block H7.out.2.2.2.2.1)]; exact H7.out.2.2.2.2.1) Tryd.underlying24 rfl (infoT' _ HL.out.2.2.1)) ?_
    simp only [Act.put, List.setIfInBounds_toArray, List.set_cons_zero, List.set_cons_succ]
    refine takeD (i := 2) rfl (by kernel_rfl) (by kernel_rfl) (by kernel_rfl) (fun _ _ _ h => h) hS (Or.inl ⟨by rfl, fun w hSw => by go_simp; rfl⟩) ?_
    simp only [Act.put, List.setIfInBounds_toArray, List.set_cons_zero, List.set_cons_succ]
    refine takeD (i := 3) rfl (by kernel_rfl) (by kernel_rfl) (by kernel_rfl) (fun _ _ _ h => h) hS (v := .int .i64 s) (Or.inl ⟨by rfl, fun w hSw => by have c := cell_of (i := 0) (show w.heap[_]? = _ from by rw [(show Below w7.heap.size w7 w from hSw).block _ (lt_block H7.out.2.2.2.2.2.1)]; exact H7.out.2.2.2.2.2.1) rfl; go_simp⟩) ?_
    simp only [Act.put, List.setIfInBounds_toArray, List.set_cons_zero, List.set_cons_succ]
    refine takeD (i := 4) rfl (by kernel_rfl) (by kernel_rfl) (by kernel_rfl) (fun _ _ _ h => h) hS (Or.inl ⟨by rfl, fun w hSw => by go_simp; rfl⟩) ?_
    simp only [Act.put, List.setIfInBounds_toArray, List.set_cons_zero, List.set_cons_succ]
    refine takeD (i := 5) rfl (by kernel_rfl) (by kernel_rfl) (by kernel_rfl) (fun _ _ _ h => h) hS (v := .int .i64 nd) (Or.inl ⟨by rfl, fun w hSw => by have c := cell_of (i := 1) (show w.heap[_]? = _ from by rw [(show Below w7.heap.size w7 w from hSw).block _ (lt_block H7.out.2.2.2.2.2.1)]; exact H7.out.2.2.2.2.2.1) rfl; go_simp⟩) ?_
    simp only [Act.put, List.setIfInBounds_toArray, List.set_cons_zero, List.set_cons_succ]
    refine wpAnyH_ready (rs := [1, 10]) (by kernel_rfl) (by simp) ?_
    refine consD (i := 1) rfl (fun K hK => ?_) (consD (i := 10) rfl (fun K hK => ?_) AllReadyH.nil)
    · rw [if_pos (by rfl)]
      go_simp
      ((with_reducible refine (HC.out.2.2.2.2.2.2.1 _).mono ?_); rintro e w' ⟨rfl, hb'⟩)
      dsimp only
      refine hK.out _ _ (hS.trans (hb'.mono hS.size)) (fun hS => ?_)
      clear hK K
      refine wpAnyH_ready (rs := [6, 10]) (by kernel_rfl) (by simp) ?_
      refine consD (i := 6) rfl (fun K hK => ?_) (consD (i := 10) rfl (fun K hK => ?_) AllReadyH.nil)
      · rw [if_pos (by rfl)]
        go_simp
        ((with_reducible refine (HC.out.2.2.2.1 _).mono ?_); rintro e w' ⟨rfl, hb'⟩)
        dsimp only
        refine hK.out _ _ (hS.trans (hb'.mono hS.size)) (fun hS => ?_)
        clear hK K
        refine takeD (i := 7) rfl (by kernel_rfl) (by kernel_rfl) (by kernel_rfl) (fun _ _ _ h => h) hS (Or.inl ⟨by rfl, fun w hSw => by go_simp; rfl⟩) ?_
        simp only [Act.put, List.setIfInBounds_toArray, List.set_cons_zero, List.set_cons_succ]
        refine takeD (i := 8) rfl (by kernel_rfl) (by kernel_rfl) (by kernel_rfl) (fun _ _ _ h => h) hS (Or.inl ⟨by rfl, fun w hSw => by go_simp; rfl⟩) ?_
        simp only [Act.put, List.setIfInBounds_toArray, List.set_cons_zero, List.set_cons_succ]
        refine takeD (i := 9) rfl (by kernel_rfl) (by kernel_rfl) (by kernel_rfl) (fun _ _ _ h => h) hS (Or.inl ⟨by rfl, fun w hSw => by go_simp; rfl⟩) ?_
        simp only [Act.put, List.setIfInBounds_toArray, List.set_cons_zero, List.set_cons_succ]
        refine wpAnyH_ready (rs := [10]) (by kernel_rfl) (by simp) ?_
        refine consD (i := 10) rfl (fun K hK => ?_) AllReadyH.nil
        rw [if_pos (by rfl)]
        go_simp
        generalize hwA : (World.alloc _ _) = wA
        have hA : ∃ Z : Array Value, Z.size = 17 ∧ wA.heap[w'.heap.size]? = some (.cells Z 41 (0, 0)) ∧ Below w'.heap.size w' wA := ⟨_, rfl, by rw [← hwA]; exact block_new _ _, by rw [← hwA]; exact (Below.refl _ _).alloc (Nat.le_refl _) _⟩
        obtain ⟨Z, hZ, hT, hbA⟩ := hA
        have hTge : w7.heap.size ≤ w'.heap.size := hS.size
        refine hK.out _ _ (hS.trans (hbA.mono hS.size)) (fun hS => ?_)
        clear hK K
        refine wpAnyH_ready (rs := [11]) (by kernel_rfl) (by simp) ?_
        refine consD (i := 11) rfl (fun K hK => ?_) AllReadyH.nil
        rw [if_pos (by rfl)]
        refine wp_store_all 41 (.tmp 13) (.tmp 50) rfl _ (tcells em om) rfl rfl Z _ hT (by rw [tcells_size HL.out.2.1, hZ]) (infoR' _ HL.out.2.1) (tcells_one _ _) ?_
        intro w5 hw5 hm5 hz5
        simp only [Act.put, List.setIfInBounds_toArray, List.set_cons_zero, List.set_cons_succ]
        refine hK.out _ _ (hS.trans (hm5.to_below hS.size (fun x hx => by rw [show x = _ from hx]; exact hTge))) (fun hS => ?_)
        clear hK K
        refine takeD (i := 12) rfl (by kernel_rfl) (by kernel_rfl) (by kernel_rfl) (fun _ _ _ h => h) hS (Or.inl ⟨by rfl, fun w hSw => by go_simp; rfl⟩) ?_
        simp only [Act.put, List.setIfInBounds_toArray, List.set_cons_zero, List.set_cons_succ]
        refine wpAnyH_done (by kernel_rfl) ?_ _
        go_wp2
        go_meet
        exact ⟨_, rfl, rfl, hw5, hS⟩
      · rw [if_pos (by rfl)]
        go_simp
        generalize hwA : (World.alloc _ _) = wA
        have hA : ∃ Z : Array Value, Z.size = 17 ∧ wA.heap[w'.heap.size]? = some (.cells Z 41 (0, 0)) ∧ Below w'.heap.size w' wA := ⟨_, rfl, by rw [← hwA]; exact block_new _ _, by rw [← hwA]; exact (Below.refl _ _).alloc (Nat.le_refl _) _⟩
        obtain ⟨Z, hZ, hT, hbA⟩ := hA
        have hTge : w7.heap.size ≤ w'.heap.size := hS.size
        refine hK.out _ _ (hS.trans (hbA.mono hS.size)) (fun hS => ?_)
        clear hK K
        refine wpAnyH_ready (rs := [6]) (by kernel_rfl) (by simp) ?_
        refine consD (i := 6) rfl (fun K hK => ?_) AllReadyH.nil
        rw [if_pos (by rfl)]
        go_simp
        ((with_reducible refine (HC.out.2.2.2.1 _).mono ?_); rintro e w' ⟨rfl, hb'⟩)
        dsimp only
        have hT := (Mod.of_below hb' (fun _ => False)).old hT id
        refine hK.out _ _ (hS.trans (hb'.mono hS.size)) (fun hS => ?_)
        clear hK K
        refine takeD (i := 7) rfl (by kernel_rfl) (by kernel_rfl) (by kernel_rfl) (fun _ _ _ h => h) hS (Or.inl ⟨by rfl, fun w hSw => by go_simp; rfl⟩) ?_
        simp only [Act.put, List.setIfInBounds_toArray, List.set_cons_zero, List.set_cons_succ]
        refine takeD (i := 8) rfl (by kernel_rfl) (by kernel_rfl) (by kernel_rfl) (fun _ _ _ h => h) hS (Or.inl ⟨by rfl, fun w hSw => by go_simp; rfl⟩) ?_
        simp only [Act.put, List.setIfInBounds_toArray, List.set_cons_zero, List.set_cons_succ]
        refine takeD (i := 9) rfl (by kernel_rfl) (by kernel_rfl) (by kernel_rfl) (fun _ _ _ h => h) hS (Or.inl ⟨by rfl, fun w hSw => by go_simp; rfl⟩) ?_
        simp only [Act.put, List.setIfInBounds_toArray, List.set_cons_zero, List.set_cons_succ]
        refine wpAnyH_ready (rs := [11]) (by kernel_rfl) (by simp) ?_
        refine consD (i := 11) rfl (fun K hK => ?_) AllReadyH.nil
        rw [if_pos (by rfl)]
        refine wp_store_all 41 (.tmp 13) (.tmp 50) rfl _ (tcells em om) rfl rfl Z _ hT (by rw [tcells_size HL.out.2.1, hZ]) (infoR' _ HL.out.2.1) (tcells_one _ _) ?_
        intro w5 hw5 hm5 hz5
        simp only [Act.put, List.setIfInBounds_toArray, List.set_cons_zero, List.set_cons_succ]
        refine hK.out _ _ (hS.trans (hm5.to_below hS.size (fun x hx => by rw [show x = _ from hx]; exact hTge))) (fun hS => ?_)
        clear hK K
        refine takeD (i := 12) rfl (by kernel_rfl) (by kernel_rfl) (by kernel_rfl) (fun _ _ _ h => h) hS (Or.inl ⟨by rfl, fun w hSw => by go_simp; rfl⟩) ?_
        simp only [Act.put, List.setIfInBounds_toArray, List.set_cons_zero, List.set_cons_succ]
        refine wpAnyH_done (by kernel_rfl) ?_ _
        go_wp2
        go_meet
        exact ⟨_, rfl, rfl, hw5, hS⟩
    · rw [if_pos (by rfl)]
      go_simp
      generalize hwA : (World.drew (World.alloc _ _)) = wA
      have hA : ∃ Z : Array Value, Z.size = 17 ∧ wA.heap[w7.heap.size]? = some (.cells Z 41 (0, 0)) ∧ Below w7.heap.size w7 wA := ⟨_, rfl, by rw [← hwA]; exact block_new _ _, by rw [← hwA]; exact ((Below.refl _ _).alloc (Nat.le_refl _) _).drew⟩
      obtain ⟨Z, hZ, hT, hbA⟩ := hA
      have hTge : w7.heap.size ≤ w7.heap.size := Nat.le_refl _
      refine hK.out _ _ hbA (fun hS => ?_)
      clear hK K
      refine wpAnyH_ready (rs := [1]) (by kernel_rfl) (by simp) ?_
      refine consD (i := 1) rfl (fun K hK => ?_) AllReadyH.nil
      rw [if_pos (by rfl)]
      go_simp
      ((with_reducible refine (HC.out.2.2.2.2.2.2.1 _).mono ?_); rintro e w' ⟨rfl, hb'⟩)
      dsimp only
      have hT := (Mod.of_below hb' (fun _ => False)).old hT id
      refine hK.out _ _ (hS.trans (hb'.mono hS.size)) (fun hS => ?_)
      clear hK K
      refine wpAnyH_ready (rs := [6]) (by kernel_rfl) (by simp) ?_
      refine consD (i := 6) rfl (fun K hK => ?_) AllReadyH.nil
      rw [if_pos (by rfl)]
      go_simp
      ((with_reducible refine (HC.out.2.2.2.1 _).mono ?_); rintro e w' ⟨rfl, hb'⟩)
      dsimp only
      have hT := (Mod.of_below hb' (fun _ => False)).old hT id
      refine hK.out _ _ (hS.trans (hb'.mono hS.size)) (fun hS => ?_)
      clear hK K
      refine takeD (i := 7) rfl (by kernel_rfl) (by kernel_rfl) (by kernel_rfl) (fun _ _ _ h => h) hS (Or.inl ⟨by rfl, fun w hSw => by go_simp; rfl⟩) ?_
      simp only [Act.put, List.setIfInBounds_toArray, List.set_cons_zero, List.set_cons_succ]
      refine takeD (i := 8) rfl (by kernel_rfl) (by kernel_rfl) (by kernel_rfl) (fun _ _ _ h => h) hS (Or.inl ⟨by rfl, fun w hSw => by go_simp; rfl⟩) ?_
      simp only [Act.put, List.setIfInBounds_toArray, List.set_cons_zero, List.set_cons_succ]
      refine takeD (i := 9) rfl (by kernel_rfl) (by kernel_rfl) (by kernel_rfl) (fun _ _ _ h => h) hS (Or.inl ⟨by rfl, fun w hSw => by go_simp; rfl⟩) ?_
      simp only [Act.put, List.setIfInBounds_toArray, List.set_cons_zero, List.set_cons_succ]
      refine wpAnyH_ready (rs := [11]) (by kernel_rfl) (by simp) ?_
      refine consD (i := 11) rfl (fun K hK => ?_) AllReadyH.nil
      rw [if_pos (by rfl)]
      refine wp_store_all 41 (.tmp 13) (.tmp 50) rfl _ (tcells em om) rfl rfl Z _ hT (by rw [tcells_size HL.out.2.1, hZ]) (infoR' _ HL.out.2.1) (tcells_one _ _) ?_
      intro w5 hw5 hm5 hz5
      simp only [Act.put, List.setIfInBounds_toArray, List.set_cons_zero, List.set_cons_succ]
      refine hK.out _ _ (hS.trans (hm5.to_below hS.size (fun x hx => by rw [show x = _ from hx]; exact hTge))) (fun hS => ?_)
      clear hK K
      refine takeD (i := 12) rfl (by kernel_rfl) (by kernel_rfl) (by kernel_rfl) (fun _ _ _ h => h) hS (Or.inl ⟨by rfl, fun w hSw => by go_simp; rfl⟩) ?_
      simp only [Act.put, List.setIfInBounds_toArray, List.set_cons_zero, List.set_cons_succ]
      refine wpAnyH_done (by kernel_rfl) ?_ _
      go_wp2
      go_meet
      exact ⟨_, rfl, rfl, hw5, hS⟩
  case rest =>
    obtain ⟨T13, rfl, rfl, hT13, hb8⟩ := hcut
    have H8 := Lib.hid (And.intro hT13 (And.intro ((hb8.block _ (lt_block H7.out.1)).trans H7.out.1) (And.intro ((hb8.block _ (lt_block H7.out.2.1)).trans H7.out.2.1) (And.intro ((hb8.block _ (lt_block H7.out.2.2.1)).trans H7.out.2.2.1) (And.intro ((hb8.block _ (lt_block H7.out.2.2.2.1)).trans H7.out.2.2.2.1) (And.intro ((hb8.block _ (lt_block H7.out.2.2.2.2.1)).trans H7.out.2.2.2.2.1) (And.intro ((hb8.block _ (lt_block H7.out.2.2.2.2.2.1)).trans H7.out.2.2.2.2.2.1) ((H7.out.2.2.2.2.2.2.trans (hb8.mono H7.out.2.2.2.2.2.2.size))))))))))
    clear hT13 hb8 H7
    have q1 : (cn == cn) = true := by simp
    have q2 : (cm == cm) = true := by simp
    have q3 : (kk == kk) = true := by simp
    have q4 : (x == x) = true := by simp
    go_wp2_with fail
    refine wp_region_held_drew (S := fun w' => Below wc.heap.size wc w') (by kernel_rfl) ((Below.refl _ wc).drew) (fun hS => ?_)
    refine takeD (i := 0) rfl (by kernel_rfl) (by kernel_rfl) (by kernel_rfl) (fun _ _ _ h => h) hS (yields_row (by rfl) 24 (.tmp 7) rfl T7 rfl (tcells 0 on) _ _ _ (fun w h => by rw [h.block _ (lt_block H8.out.2.2.2.1)]; exact H8.out.2.2.2.1) Tryd.underlying24 rfl (infoT' _ HL.out.1)) ?_
    simp only [Act.put, List.setIfInBounds_toArray, List.set_cons_zero, List.set_cons_succ]
    refine takeD (i := 2) rfl (by kernel_rfl) (by kernel_rfl) (by kernel_rfl) (fun _ _ _ h => h) hS (yields_row (by rfl) 41 (.tmp 9) rfl T9 rfl (tcells 0 on) _ _ _ (fun w h => by rw [h.block _ (lt_block H8.out.2.2.1)]; exact H8.out.2.2.1) Tryd.underlying41 rfl (infoR' _ HL.out.1)) ?_
    simp only [Act.put, List.setIfInBounds_toArray, List.set_cons_zero, List.set_cons_succ]
    refine wpAnyH_ready (rs := [1]) (by kernel_rfl) (by simp) ?_
    refine consD (i := 1) rfl (fun K hK => ?_) AllReadyH.nil
    rw [if_pos (by rfl)]
    go_simp
    ((with_reducible refine (HC.out.2.2.2.2.1 _).mono ?_); rintro e w' ⟨rfl, hb'⟩)
    dsimp only
    refine hK.out _ _ (hS.trans (hb'.mono hS.size)) (fun hS => ?_)
    clear hK K
    refine takeD (i := 3) rfl (by kernel_rfl) (by kernel_rfl) (by kernel_rfl) (fun _ _ _ h => h) hS (yields_eql (by rfl) 41 (.tmp 53) (.tmp 54) _ rfl (tcells 0 on) (tcells 0 on) rfl rfl (by kernel_rfl) true (eqTabR_same _ _ HL.out.1)) ?_
    simp only [Act.put, List.setIfInBounds_toArray, List.set_cons_zero, List.set_cons_succ]
    refine takeD (i := 4) rfl (by kernel_rfl) (by kernel_rfl) (by kernel_rfl) (fun _ _ _ h => h) hS (Or.inl ⟨by rfl, fun w hSw => by go_simp; rfl⟩) ?_
    simp only [Act.put, List.setIfInBounds_toArray, List.set_cons_zero, List.set_cons_succ]
    refine takeD (i := 5) rfl (by kernel_rfl) (by kernel_rfl) (by kernel_rfl) (fun _ _ _ h => h) hS (Or.inl ⟨by rfl, fun w hSw => by go_simp; rfl⟩) ?_
    simp only [Act.put, List.setIfInBounds_toArray, List.set_cons_zero, List.set_cons_succ]
    refine takeD (i := 6) rfl (by kernel_rfl) (by kernel_rfl) (by kernel_rfl) (fun _ _ _ h => h) hS (Or.inl ⟨by rfl, fun w hSw => by go_simp; rfl⟩) ?_
    simp only [Act.put, List.setIfInBounds_toArray, List.set_cons_zero, List.set_cons_succ]
    refine takeD (i := 7) rfl (by kernel_rfl) (by kernel_rfl) (by kernel_rfl) (fun _ _ _ h => h) hS (Or.inl ⟨by rfl, fun w hSw => by go_simp; rfl⟩) ?_
    simp only [Act.put, List.setIfInBounds_toArray, List.set_cons_zero, List.set_cons_succ]
    refine takeD (i := 8) rfl (by kernel_rfl) (by kernel_rfl) (by kernel_rfl) (fun _ _ _ h => h) hS (Or.inl ⟨by rfl, fun w hSw => by go_simp; rfl⟩) ?_
    simp only [Act.put, List.setIfInBounds_toArray, List.set_cons_zero, List.set_cons_succ]
    refine takeD (i := 9) rfl (by kernel_rfl) (by kernel_rfl) (by kernel_rfl) (fun _ _ _ h => h) hS (Or.inl ⟨by rfl, fun w hSw => by go_simp; rfl⟩) ?_
    simp only [Act.put, List.setIfInBounds_toArray, List.set_cons_zero, List.set_cons_succ]
    refine takeD (i := 10) rfl (by kernel_rfl) (by kernel_rfl) (by kernel_rfl) (fun _ _ _ h => h) hS (yields_row (by rfl) 24 (.tmp 11) rfl T11 rfl (tcells em om) _ _ _ (fun w h => by rw [h.block _ (lt_block H8.out.2.1)]; exact H8.out.2.1) Tryd.underlying24 rfl (infoT' _ HL.out.2.1)) ?_
    simp only [Act.put, List.setIfInBounds_toArray, List.set_cons_zero, List.set_cons_succ]
    refine takeD (i := 12) rfl (by kernel_rfl) (by kernel_rfl) (by kernel_rfl) (fun _ _ _ h => h) hS (yields_row (by rfl) 41 (.tmp 13) rfl T13 rfl (tcells em om) _ _ _ (fun w h => by rw [h.block _ (lt_block H8.out.1)]; exact H8.out.1) Tryd.underlying41 rfl (infoR' _ HL.out.2.1)) ?_
    simp only [Act.put, List.setIfInBounds_toArray, List.set_cons_zero, List.set_cons_succ]
    refine wpAnyH_ready (rs := [11]) (by kernel_rfl) (by simp) ?_
    refine consD (i := 11) rfl (fun K hK => ?_) AllReadyH.nil
    rw [if_pos (by rfl)]
    go_simp
    ((with_reducible refine (HC.out.2.2.2.2.2.1 _).mono ?_); rintro e w' ⟨rfl, hb'⟩)
    dsimp only
    refine hK.out _ _ (hS.trans (hb'.mono hS.size)) (fun hS => ?_)
    clear hK K
    refine takeD (i := 13) rfl (by kernel_rfl) (by kernel_rfl) (by kernel_rfl) (fun _ _ _ h => h) hS (yields_eql (by rfl) 41 (.tmp 63) (.tmp 64) _ rfl (tcells em om) (tcells em om) rfl rfl (by kernel_rfl) true (eqTabR_same _ _ HL.out.2.1)) ?_
    simp only [Act.put, List.setIfInBounds_toArray, List.set_cons_zero, List.set_cons_succ]
    refine takeD (i := 14) rfl (by kernel_rfl) (by kernel_rfl) (by kernel_rfl) (fun _ _ _ h => h) hS (Or.inl ⟨by rfl, fun w hSw => by go_simp; rfl⟩) ?_
    simp only [Act.put, List.setIfInBounds_toArray, List.set_cons_zero, List.set_cons_succ]
    refine takeD (i := 15) rfl (by kernel_rfl) (by kernel_rfl) (by kernel_rfl) (fun _ _ _ h => h) hS (Or.inl ⟨by rfl, fun w hSw => by go_simp; rfl⟩) ?_
    simp only [Act.put, List.setIfInBounds_toArray, List.set_cons_zero, List.set_cons_succ]
    refine takeD (i := 16) rfl (by kernel_rfl) (by kernel_rfl) (by kernel_rfl) (fun _ _ _ h => h) hS (Or.inl ⟨by rfl, fun w hSw => by go_simp; rfl⟩) ?_
    simp only [Act.put, List.setIfInBounds_toArray, List.set_cons_zero, List.set_cons_succ]
    refine takeD (i := 17) rfl (by kernel_rfl) (by kernel_rfl) (by kernel_rfl) (fun _ _ _ h => h) hS (Or.inl ⟨by rfl, fun w hSw => by go_simp; rfl⟩) ?_
    simp only [Act.put, List.setIfInBounds_toArray, List.set_cons_zero, List.set_cons_succ]
    refine takeD (i := 18) rfl (by kernel_rfl) (by kernel_rfl) (by kernel_rfl) (fun _ _ _ h => h) hS (Or.inl ⟨by rfl, fun w hSw => by go_simp; rfl⟩) ?_
    simp only [Act.put, List.setIfInBounds_toArray, List.set_cons_zero, List.set_cons_succ]
    refine takeD (i := 19) rfl (by kernel_rfl) (by kernel_rfl) (by kernel_rfl) (fun _ _ _ h => h) hS (Or.inl ⟨by rfl, fun w hSw => by go_simp; rfl⟩) ?_
    simp only [Act.put, List.setIfInBounds_toArray, List.set_cons_zero, List.set_cons_succ]
    refine takeD (i := 20) rfl (by kernel_rfl) (by kernel_rfl) (by kernel_rfl) (fun _ _ _ h => h) hS (Or.inl ⟨by rfl, fun w hSw => by go_simp; rfl⟩) ?_
    simp only [Act.put, List.setIfInBounds_toArray, List.set_cons_zero, List.set_cons_succ]
    refine takeD (i := 21) rfl (by kernel_rfl) (by kernel_rfl) (by kernel_rfl) (fun _ _ _ h => h) hS (yields_row (by rfl) 24 (.tmp 4) rfl (B + 1) rfl (tcells e os) _ _ _ (fun w h => by rw [h.block _ (lt_block H8.out.2.2.2.2.2.1)]; exact H8.out.2.2.2.2.2.1) Tryd.underlying24 rfl (infoT' _ HL.out.2.2.1)) ?_
    simp only [Act.put, List.setIfInBounds_toArray, List.set_cons_zero, List.set_cons_succ]
    refine takeD (i := 22) rfl (by kernel_rfl) (by kernel_rfl) (by kernel_rfl) (fun _ _ _ h => h) hS (Or.inl ⟨by rfl, fun w hSw => by go_simp; rfl⟩) ?_
    simp only [Act.put, List.setIfInBounds_toArray, List.set_cons_zero, List.set_cons_succ]
    refine takeD (i := 23) rfl (by kernel_rfl) (by kernel_rfl) (by kernel_rfl) (fun _ _ _ h => h) hS (v := .int .i64 n) (Or.inl ⟨by rfl, fun w hSw => by have c := cell_of (i := 0) (show w.heap[_]? = _ from by rw [(show Below wc.heap.size wc w from hSw).block _ (lt_block H8.out.2.2.2.2.1)]; exact H8.out.2.2.2.2.1) rfl; go_simp⟩) ?_
    simp only [Act.put, List.setIfInBounds_toArray, List.set_cons_zero, List.set_cons_succ]
    refine takeD (i := 25) rfl (by kernel_rfl) (by kernel_rfl) (by kernel_rfl) (fun _ _ _ h => h) hS (yields_row (by rfl) 24 (.tmp 4) rfl (B + 1) rfl (tcells e os) _ _ _ (fun w h => by rw [h.block _ (lt_block H8.out.2.2.2.2.2.1)]; exact H8.out.2.2.2.2.2.1) Tryd.underlying24 rfl (infoT' _ HL.out.2.2.1)) ?_
    simp only [Act.put, List.setIfInBounds_toArray, List.set_cons_zero, List.set_cons_succ]
    refine takeD (i := 27) rfl (by kernel_rfl) (by kernel_rfl) (by kernel_rfl) (fun _ _ _ h => h) hS (Or.inl ⟨by rfl, fun w hSw => by go_simp; rfl⟩) ?_
    simp only [Act.put, List.setIfInBounds_toArray, List.set_cons_zero, List.set_cons_succ]
    refine takeD (i := 28) rfl (by kernel_rfl) (by kernel_rfl) (by kernel_rfl) (fun _ _ _ h => h) hS (v := .int .i64 n) (Or.inl ⟨by rfl, fun w hSw => by have c := cell_of (i := 0) (show w.heap[_]? = _ from by rw [(show Below wc.heap.size wc w from hSw).block _ (lt_block H8.out.2.2.2.2.1)]; exact H8.out.2.2.2.2.1) rfl; go_simp⟩) ?_
    simp only [Act.put, List.setIfInBounds_toArray, List.set_cons_zero, List.set_cons_succ]
    refine wpAnyH_ready (rs := [24]) (by kernel_rfl) (by simp) ?_
    refine consD (i := 24) rfl (fun K hK => ?_) AllReadyH.nil
    rw [if_pos (by rfl)]
    go_simp
    ((with_reducible refine (HC.out.2.2.2.2.2.2.2.1 _).mono ?_); rintro e w' ⟨rfl, hb'⟩)
    dsimp only
    refine hK.out _ _ (hS.trans (hb'.mono hS.size)) (fun hS => ?_)
    clear hK K
    refine wpAnyH_ready (rs := [26]) (by kernel_rfl) (by simp) ?_
    refine consD (i := 26) rfl (fun K hK => ?_) AllReadyH.nil
    rw [if_pos (by rfl)]
    go_simp
    ((with_reducible refine (HC.out.2.2.2.2.2.2.1 _).mono ?_); rintro e w' ⟨rfl, hb'⟩)
    dsimp only
    refine hK.out _ _ (hS.trans (hb'.mono hS.size)) (fun hS => ?_)
    clear hK K
    refine wpAnyH_ready (rs := [29]) (by kernel_rfl) (by simp) ?_
    refine consD (i := 29) rfl (fun K hK => ?_) AllReadyH.nil
    rw [if_pos (by rfl)]
    go_simp
    ((with_reducible refine (HC.out.2.2.2.2.2.2.2.2.1 _).mono ?_); rintro e w' ⟨rfl, hb'⟩)
    dsimp only
    refine hK.out _ _ (hS.trans (hb'.mono hS.size)) (fun hS => ?_)
    clear hK K
    refine takeD (i := 30) rfl (by kernel_rfl) (by kernel_rfl) (by kernel_rfl) (fun _ _ _ h => h) hS (Or.inl ⟨by rfl, fun w hSw => by go_simp; rfl⟩) ?_
    simp only [Act.put, List.setIfInBounds_toArray, List.set_cons_zero, List.set_cons_succ]
    refine takeD (i := 31) rfl (by kernel_rfl) (by kernel_rfl) (by kernel_rfl) (fun _ _ _ h => h) hS (Or.inl ⟨by rfl, fun w hSw => by go_simp; rfl⟩) ?_
    simp only [Act.put, List.setIfInBounds_toArray, List.set_cons_zero, List.set_cons_succ]
    refine takeD (i := 32) rfl (by kernel_rfl) (by kernel_rfl) (by kernel_rfl) (fun _ _ _ h => h) hS (Or.inl ⟨by rfl, fun w hSw => by go_simp; rfl⟩) ?_
    simp only [Act.put, List.setIfInBounds_toArray, List.set_cons_zero, List.set_cons_succ]
    refine takeD (i := 33) rfl (by kernel_rfl) (by kernel_rfl) (by kernel_rfl) (fun _ _ _ h => h) hS (yields_row (by rfl) 24 (.tmp 4) rfl (B + 1) rfl (tcells e os) _ _ _ (fun w h => by rw [h.block _ (lt_block H8.out.2.2.2.2.2.1)]; exact H8.out.2.2.2.2.2.1) Tryd.underlying24 rfl (infoT' _ HL.out.2.2.1)) ?_
    simp only [Act.put, List.setIfInBounds_toArray, List.set_cons_zero, List.set_cons_succ]
    refine takeD (i := 37) rfl (by kernel_rfl) (by kernel_rfl) (by kernel_rfl) (fun _ _ _ h => h) hS (Or.inl ⟨by rfl, fun w hSw => by go_simp; rfl⟩) ?_
    simp only [Act.put, List.setIfInBounds_toArray, List.set_cons_zero, List.set_cons_succ]
    refine wpAnyH_ready (rs := [34]) (by kernel_rfl) (by simp) ?_
    refine consD (i := 34) rfl (fun K hK => ?_) AllReadyH.nil
    rw [if_pos (by rfl)]
    go_simp
    ((with_reducible refine (HC.out.2.2.2.2.2.2.2.2.2.1 _).mono ?_); rintro e w' ⟨rfl, hb'⟩)
    dsimp only
    refine hK.out _ _ (hS.trans (hb'.mono hS.size)) (fun hS => ?_)
    clear hK K
    refine wpAnyH_ready (rs := [35]) (by kernel_rfl) (by simp) ?_
    refine consD (i := 35) rfl (fun K hK => ?_) AllReadyH.nil
    rw [if_pos (by rfl)]
    go_simp
    ((with_reducible refine (HC.out.2.2.2.2.2.2.2.2.2.2 _).mono ?_); rintro e w' ⟨rfl, hb'⟩)
    dsimp only
    refine hK.out _ _ (hS.trans (hb'.mono hS.size)) (fun hS => ?_)
    clear hK K
    have hm1 := HM.out.1
    have hm2 := HM.out.2.1
    have hm3 : (0 : Int) ≤ (hi : Int) := by omega
    have hm4 : (hi : Int) < 16 := by have := HM.out.2.2.1; omega
    have hm5 : (0 : Int) ≤ (h : Int) := by omega
    have hm6 : (h : Int) < 4294967296 := by have := HM.out.2.2.2; omega
    refine takeD (i := 36) rfl (by kernel_rfl) (by kernel_rfl) (by kernel_rfl) (fun _ _ _ h => h) hS (v := .int .u64 (hi : Int)) (Or.inl ⟨by rfl, fun w hSw => by go_simp⟩) ?_
    simp only [Act.put, List.setIfInBounds_toArray, List.set_cons_zero, List.set_cons_succ]
    refine takeD (i := 38) rfl (by kernel_rfl) (by kernel_rfl) (by kernel_rfl) (fun _ _ _ h => h) hS (Or.inl ⟨by rfl, fun w hSw => by go_simp; rfl⟩) ?_
    simp only [Act.put, List.setIfInBounds_toArray, List.set_cons_zero, List.set_cons_succ]
    refine takeD (i := 39) rfl (by kernel_rfl) (by kernel_rfl) (by kernel_rfl) (fun _ _ _ h => h) hS (v := .int .i64 x) (Or.inl ⟨by rfl, fun w hSw => by have c := cell_of (show w.heap[_]? = _ from by rw [(show Below wc.heap.size wc w from hSw).block _ (lt_block H8.out.2.2.2.2.2.1)]; exact H8.out.2.2.2.2.2.1) (tcells_at e HL.out.2.2.2); go_simp⟩) ?_
    simp only [Act.put, List.setIfInBounds_toArray, List.set_cons_zero, List.set_cons_succ]
    refine takeD (i := 40) rfl (by kernel_rfl) (by kernel_rfl) (by kernel_rfl) (fun _ _ _ h => h) hS (Or.inl ⟨by rfl, fun w hSw => by go_simp; rfl⟩) ?_
    simp only [Act.put, List.setIfInBounds_toArray, List.set_cons_zero, List.set_cons_succ]
    refine takeD (i := 41) rfl (by kernel_rfl) (by kernel_rfl) (by kernel_rfl) (fun _ _ _ h => h) hS (Or.inl ⟨by rfl, fun w hSw => by go_simp; rfl⟩) ?_
    simp only [Act.put, List.setIfInBounds_toArray, List.set_cons_zero, List.set_cons_succ]
    refine takeD (i := 42) rfl (by kernel_rfl) (by kernel_rfl) (by kernel_rfl) (fun _ _ _ h => h) hS (Or.inl ⟨by rfl, fun w hSw => by go_simp; rfl⟩) ?_
    simp only [Act.put, List.setIfInBounds_toArray, List.set_cons_zero, List.set_cons_succ]
    refine wpAnyH_done (by kernel_rfl) ?_ _
    go_wp2
    go_ret
    exact ⟨rfl, H8.out.2.2.2.2.2.2.2.trans (hS.mono H8.out.2.2.2.2.2.2.2.size)⟩
theorem row {w : World} (a : Int × Int) (_ : True) (t : Int × List Int) (ht : t.2.length = 16) (m : Int × Int) (_ : True) :
    Calls Tryd.prog 6 #[.agg #[.int .i64 a.1, .int .i64 a.2], tval t.1 t.2, .agg #[.int .i64 m.1, .int .i64 m.2]] w fun e w' => e = .returned (.bool true) ∧ Below w.heap.size w w' := row0 a.1 a.2 t.1 t.2 ht m.1 m.2
end Go.Proofs.YtjccngahpafcaaaDoor.RingTables
