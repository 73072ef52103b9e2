/- porterlaw11.RingWalk answers true at every input. -/
import Derived.Test.YtjccngahpafcaaaDoorRingEq
import Derived.Test.YtjccngahpafcaaaDoorDraw
import Derived.Test.YtjccngahpafcaaaDoorRows2
import Derived.Deep.DeepCutAuto
import Derived.Deep.CutBlock
import Derived.Deep.LoopGhost
import Derived.BigQuiet
namespace Go.Proofs.YtjccngahpafcaaaDoor.RingWalk
open Go.RowKit Go.Por Go.Proofs.YtjccngahpafcaaaDoor.RingF

theorem diffs_comm (a b : List Int) (n : Nat) : diffs a b n = diffs b a n := by
  unfold diffs
  congr 1
  apply List.filter_congr
  intro s _
  simp only [decide_eq_decide]
  exact ⟨fun h e => h e.symm, fun h e => h e.symm⟩

theorem move_all (c : Nat) (hc : c ≤ 1125899906842623) (os : List Int) (hl : os.length = 16) (s nd : Int) :
    ∃ e1 o1 c1, o1.length = 16 ∧ ((c1 = 1 ∧ (s < 0 ∨ 15 < s ∨ nd < 0 ∨ 7 < nd) ∨ c1 = 5 ∧ 0 ≤ s ∧ s ≤ 15 ∧ 0 ≤ nd ∧ nd ≤ 7 ∧ os[s.toNat]? = some nd) ∧ e1 = 0 ∧ o1 = List.replicate 16 0 ∨
      c1 = 0 ∧ 0 ≤ s ∧ s ≤ 15 ∧ 0 ≤ nd ∧ nd ≤ 7 ∧ e1 = ((c + 1 : Nat) : Int) ∧ o1 = os.set s.toNat nd) ∧
      ∀ w, Calls Tryd.prog 10 #[tval (c : Int) os, .int .i64 s, .int .i64 nd] w fun r w' => r = .returned (.tuple #[tval e1 o1, .int .i64 c1]) ∧ Below w.heap.size w w' := by
  by_cases h : mvBad (c : Int) s nd
  · exact ⟨_, _, _, by simp, .inl ⟨.inl ⟨rfl, by unfold mvBad at h; omega⟩, rfl, rfl⟩, fun w => move_bad c os s nd w h⟩
  have h' : 0 ≤ s ∧ s ≤ 15 ∧ 0 ≤ nd ∧ nd ≤ 7 := by unfold mvBad at h; omega
  obtain ⟨k, rfl⟩ : ∃ k : Nat, s = k := ⟨s.toNat, by omega⟩
  obtain ⟨y, hy⟩ : ∃ y, os[k]? = some y := ⟨_, List.getElem?_eq_getElem (by omega)⟩
  by_cases hyn : y = nd
  · subst hyn
    exact ⟨_, _, _, by simp, .inl ⟨.inr ⟨rfl, h'.1, h'.2.1, h'.2.2.1, h'.2.2.2, by simpa using hy⟩, rfl, rfl⟩, fun w => move_twice c os k y w h hy⟩
  · exact ⟨_, _, _, by simp [hl], .inr ⟨rfl, h'.1, h'.2.1, h'.2.2.1, h'.2.2.2, rfl, rfl⟩, fun w => by
      have := move_good c os hl k nd y w h hy hyn
      rw [show (c : Int) + 1 = ((c + 1 : Nat) : Int) by omega] at this
      exact this⟩

set_option maxRecDepth 100000 in
set_option maxHeartbeats 800000 in
theorem bad {w : World} (n : Int) (v : Value) (h : n < 1 ∨ 8 < n) :
    Calls Tryd.prog 4 #[.int .i64 n, v] w fun e w' => e = .returned (.bool true) ∧ Below w.heap.size w w' := by
  obtain ⟨zs, hzs, hzl⟩ : ∃ zs, List.replicate 16 (0 : Int) = zs ∧ zs.length = 16 := ⟨_, rfl, by simp⟩
  have HA := Lib.hid (fun w => new_bad n 4 w (by omega))
  rw [hzs] at HA
  have HZ := Lib.hid hzl
  clear hzs hzl
  go_enter Tryd.func4, Tryd.ntmps4
  go_wp2_with fail
  refine (awake_any w).mono ?_
  rintro e w1 ⟨rfl, hb1⟩
  have H1 := Lib.hid hb1
  clear hb1
  go_wp2_with fail
  refine (HA.out w1).mono ?_
  rintro e w2 ⟨rfl, hb2⟩
  obtain ⟨T5, hT5⟩ : ∃ T, w2.heap.size = T := ⟨_, rfl⟩
  have H2 := Lib.hid (And.intro (H1.out.trans (hb2.mono H1.out.size)) (show ∀ o, (w2.alloc o).heap[T5]? = some o from fun o => by rw [← hT5]; exact block_new w2 o))
  clear hb2
  rcases h with h | h
  · go_wp2_with (first
      | (refine wpList_store_all rfl 24 (.tmp 5) (.tmp 21) rfl T5 (tcells 0 zs) rfl rfl _ _ (H2.out.2 _) (by rw [tcells_size HZ.out]; rfl) (infoT' _ HZ.out) (tcells_one _ _) ?_; intro w3 hw3 hm3 hz3; rw [World.size_alloc, hT5] at hz3; have hm23 := ((Mod.refl (fun x => x = T5) w2).alloc _).trans' hm3; have H3 := Lib.hid (H2.out.1.trans (hm23.to_below H2.out.1.size (fun x hx => by have h1 := H2.out.1.size; omega))); clear hw3 hm3 hz3 hm23))
    go_ret
    exact ⟨rfl, H3.out⟩
  · have h' : ¬ n < 1 := by omega
    go_wp2_with (first
      | (refine wpList_store_all rfl 24 (.tmp 5) (.tmp 21) rfl T5 (tcells 0 zs) rfl rfl _ _ (H2.out.2 _) (by rw [tcells_size HZ.out]; rfl) (infoT' _ HZ.out) (tcells_one _ _) ?_; intro w3 hw3 hm3 hz3; rw [World.size_alloc, hT5] at hz3; have hm23 := ((Mod.refl (fun x => x = T5) w2).alloc _).trans' hm3; have H3 := Lib.hid (H2.out.1.trans (hm23.to_below H2.out.1.size (fun x hx => by have h1 := H2.out.1.size; omega))); clear hw3 hm3 hz3 hm23))
    go_ret
    exact ⟨rfl, H3.out⟩

theorem ones (os : List Int) : (os.map (Value.int .i64)).toArray.all (·.oneCell') = true := by
  rw [Array.all_eq_true_iff_forall_mem]
  intro v hv
  simp only [List.mem_toArray, List.mem_map] at hv
  obtain ⟨n, _, rfl⟩ := hv
  rfl
theorem infoO {os : List Int} (h : os.length = 16) : (Tryd.prog.info? 22).map (·.size) = some (os.map (Value.int .i64)).toArray.size := by
  rw [List.size_toArray, List.length_map, h]; exact infoA
theorem infoOl {os : List Int} (h : os.length = 16) : (Tryd.prog.info? 22).map (·.size) = some (os.map (Value.int .i64)).length := by
  rw [List.length_map, h]; exact infoA

theorem below_drewN {w w' : World} (h : Below w.heap.size w w') (n : Nat) : Below w.heap.size w (w'.drewN n) := h.trans ((Mod.drewN (Mod.refl (fun _ => False) _) n).to_below h.size (fun _ h => h.elim))

set_option maxRecDepth 100000 in
set_option maxHeartbeats 1600000 in
theorem good {w : World} (N : Nat) (h1 : 1 ≤ N) (h2 : N ≤ 8) (v : Value) (ms : List (Int × Int)) (hs : SliceIs 2 (fun _ cs (x : Int × Int) => cs = [.int .i64 x.1, .int .i64 x.2]) w v ms) (hz : ms.length ≤ 1125899906842623) :
    Calls Tryd.prog 4 #[.int .i64 (N : Int), v] w fun e w' => e = .returned (.bool true) ∧ Below w.heap.size w w' := by
  obtain ⟨ao, cap, rfl, _, hcell⟩ := hs
  have hA := fun w => new_good N 4 w h1 h2 (by omega) (by omega)
  have hl0 := owners_length N 4
  obtain ⟨o0, ho0⟩ : ∃ o0, owners N 4 = o0 := ⟨_, rfl⟩
  rw [ho0] at hA hl0
  rw [show ((4 : Nat) : Int) = 4 from rfl] at hA
  have HA := Lib.hid (And.intro hA (And.intro hl0 hcell))
  clear hA hl0 ho0 hcell
  have k1 : ¬ (N : Int) < 1 := by omega
  have k2 : ¬ 8 < (N : Int) := by omega
  clear h1 h2
  go_enter Tryd.func4, Tryd.ntmps4
  go_wp2_with fail
  refine (awake_any w).mono ?_
  rintro e w1 ⟨rfl, hb1⟩
  have H1 := Lib.hid hb1
  clear hb1
  go_wp2_with fail
  refine (HA.out.1 w1).mono ?_
  rintro e w2 ⟨rfl, hb2⟩
  obtain ⟨T, hT⟩ : ∃ T, w2.heap.size = T := ⟨_, rfl⟩
  have H2 := Lib.hid (And.intro (H1.out.trans (hb2.mono H1.out.size)) (And.intro (show ∀ o, (w2.alloc o).heap[T]? = some o from fun o => by rw [← hT]; exact block_new w2 o) hT))
  clear hb2
  go_upto_region 6 with (refine wpList_store_all rfl 24 (.tmp 5) (.tmp 21) rfl T (tcells 0 o0) rfl rfl _ _ (H2.out.2.1 _) (by rw [tcells_size HA.out.2.1]; rfl) (infoT' _ HA.out.2.1) (tcells_one _ _) ?_; intro w3 hw3 hm3 hz3; rw [World.size_alloc, hT] at hz3; have hm23 := ((Mod.refl (fun x => T ≤ x) w2).alloc _).trans hm3 (fun x hx => .inl (Nat.le_of_eq (show x = T from hx).symm)); have H3 := Lib.hid (And.intro hw3 (And.intro hm23 (show ∀ o, (w3.alloc o).heap[T + 1]? = some o from fun o => by rw [← hz3]; exact block_new w3 o))); clear hw3 hm3 hm23)
  clear hT
  go_upto_region 8 with (first
    | (refine wpList_load_row rfl 24 (.tmp 5) rfl T rfl _ (tcells 0 o0) _ _ H3.out.1 Tryd.underlying24 rfl (infoT' _ HA.out.2.1) ?_)
    | (refine wpList_store_all rfl 24 (.tmp 7) (.tmp 31) rfl (T + 1) (tcells 0 o0) rfl rfl _ _ (H3.out.2.2 _) (by rw [tcells_size HA.out.2.1]; rfl) (infoT' _ HA.out.2.1) (tcells_one _ _) ?_; intro w4 hw4 hm4 hz4; rw [World.size_alloc, hz3] at hz4; have hm34 := ((Mod.refl (fun x => x = T + 1) w3).alloc _).trans' hm4; have H4 := Lib.hid (And.intro hw4 (And.intro (H3.out.2.1.trans hm34 (fun x hx => .inl (by have : x = T + 1 := hx; omega))) (And.intro (hm34.old H3.out.1 (by omega)) (show ∀ o, (w4.alloc o).heap[T + 1 + 1]? = some o from fun o => by rw [← hz4]; exact block_new w4 o)))); clear hw4 hm4 hm34)
    | (refine wpList_load_mid rfl 22 (.tmp 32) rfl T 1 rfl (o0.map (Value.int .i64)) _ (range_owners H4.out.2.2.1) Tryd.underlying22 rfl (infoOl HA.out.2.1) ?_)
    | (refine wpList_store_all rfl 22 (.tmp 8) (.tmp 33) rfl (T + 1 + 1) (o0.map (Value.int .i64)).toArray rfl rfl _ _ (H4.out.2.2.2 _) (by rw [List.size_toArray, List.length_map, HA.out.2.1]; rfl) (infoO HA.out.2.1) (ones _) ?_; intro w5 hw5 hm5 hz5; rw [World.size_alloc, hz4] at hz5; have hm45 := ((Mod.refl (fun x => x = T + 1 + 1) w4).alloc _).trans' hm5; have H5 := Lib.hid (And.intro hw5 (And.intro (H4.out.2.1.trans hm45 (fun x hx => .inl (by have : x = T + 1 + 1 := hx; omega))) (And.intro (hm45.old H4.out.2.2.1 (by omega)) (And.intro (hm45.old H4.out.1 (by omega)) hz5)))); clear hw5 hm5 hm45))
  have hbw : Below w.heap.size w w5 := H2.out.1.trans (H5.out.2.1.to_below H2.out.1.size (fun x hx => by have h1 := H2.out.1.size; have h2 := H2.out.2.2; omega))
  have hTw : w.heap.size ≤ T := by have h1 := H2.out.1.size; have h2 := H2.out.2.2; omega
  have H6 := Lib.hid (And.intro H5.out.1 (And.intro H5.out.2.2.1 (And.intro H5.out.2.2.2.1 (And.intro hbw hTw))))
  clear hbw hTw H5 H4 H3 H2 H1 hz3 hz4 hz5 k1 k2
  go_wp2
  go_loopg [9, 36] (ms.length) (fun g n i wx => ∃ (t c : Nat) (os : List Int), t + g = ms.length ∧ c ≤ t ∧ os.length = 16 ∧ i = .int .i64 (t : Int) ∧ n = .int .i64 (c : Int) ∧
    wx.heap[T]? = some (.cells (tcells (c : Int) os) 24 (0, 0)) ∧ wx.heap[T + 1]? = some (.cells (tcells 0 o0) 24 (0, 0)) ∧ wx.heap[T + 1 + 1]? = some (.cells (os.map (Value.int .i64)).toArray 22 (0, 0)) ∧ Below w.heap.size w wx)
  case atStart => exact ⟨0, 0, o0, by omega, by omega, HA.out.2.1, rfl, rfl, H6.out.2.1, H6.out.2.2.1, H6.out.1, H6.out.2.2.2.1⟩
  case round =>
    obtain ⟨t, c, os, htg, hct, hl, rfl, rfl, hb0, hb1, hb2, hbw⟩ := hrel
    have hTw := H6.out.2.2.2.2
    by_cases hg : gk = 0
    · have ht : ¬ ((t : Int) < (ms.length : Int)) := by omega
      have HR := Lib.hid (And.intro hl (And.intro hb0 (And.intro hb1 (And.intro hb2 (And.intro hbw hTw)))))
      have cT := cell_of HR.out.2.1 (tcells_zero (c : Int) os)
      obtain ⟨X, hX⟩ : ∃ X, wr.heap.size = X := ⟨_, rfl⟩
      have HX := Lib.hid (And.intro (show ∀ o, (wr.alloc o).heap[X]? = some o from fun o => by rw [← hX]; exact block_new wr o) hX)
      clear hl hb0 hb1 hb2 hbw htg hg hct hTw
      go_upto_region 24 with (first
        | (refine wpList_load_mid rfl 22 (.tmp 103) rfl (T + 1) 1 rfl (o0.map (Value.int .i64)) _ (range_owners HR.out.2.2.1) Tryd.underlying22 rfl (infoOl HA.out.2.1) ?_; refine wpList_build_as rfl 24 #[(0, .tmp 102), (1, .tmp 104)] rfl [(0, .int .i64 (c : Int)), (1, .agg (o0.map (Value.int .i64)).toArray)] (tcells (c : Int) o0) rfl (builtT _ HA.out.2.1) ?_)
        | (refine wpList_store_all rfl 24 (.tmp 15) (.tmp 105) rfl X (tcells (c : Int) o0) rfl rfl _ _ (HX.out.1 _) (by rw [tcells_size HA.out.2.1]; rfl) (infoT' _ HA.out.2.1) (tcells_one _ _) ?_; intro w6 hw6 hm6 hz6; have hm56 := ((Mod.refl (fun x => x = X) wr).alloc _).trans' hm6; have H7 := Lib.hid (And.intro hw6 hm56); clear hw6 hm6 hz6 hm56))
      clear cT hX
      have hne : ∀ x, x < wr.heap.size → x ≠ X := fun x hx => by have := HX.out.2; omega
      have H8 := Lib.hid (And.intro (H7.out.2.old HR.out.2.1 (hne _ (lt_block HR.out.2.1))) (And.intro (H7.out.2.old HR.out.2.2.1 (hne _ (lt_block HR.out.2.2.1))) (And.intro (H7.out.2.old HR.out.2.2.2.1 (hne _ (lt_block HR.out.2.2.2.1))) (And.intro H7.out.1 (HR.out.2.2.2.2.1.trans (H7.out.2.to_below HR.out.2.2.2.2.1.size (fun x hx => by have h1 := HR.out.2.2.2.2.1.size; have h2 := HX.out.2; have h3 : x = X := hx; omega)))))))
      clear hne H7 HX
      have heq : ∀ w, (Op.equalIn 10000 22 (.agg (os.map (Value.int .i64)).toArray) (.agg (os.map (Value.int .i64)).toArray)).run Tryd.prog w = .ok true w := fun w => by
        have h := eqOwn 9998 os os HR.out.1 HR.out.1 w
        rw [decide_eq_true rfl] at h
        exact h
      have hDl := diffs_le os o0 16
      have d1 := fun w => diff_any (c : Int) os (c : Int) o0 HR.out.1 HA.out.2.1 w
      have d2 := fun w => diff_any 0 o0 (c : Int) os HA.out.2.1 HR.out.1 w
      rw [diffs_comm o0 os] at d2
      obtain ⟨D, hDD⟩ : ∃ D, diffs os o0 16 = D := ⟨_, rfl⟩
      rw [hDD] at d1 d2 hDl
      have HD := Lib.hid (And.intro d1 d2)
      clear d1 d2 hDD
      have q1 : ((c : Int) == (c : Int)) = true := by simp
      refine wp_region_held_drew (S := fun w' => w'.heap[T]? = some (.cells (tcells (c : Int) os) 24 (0, 0)) ∧ w'.heap[T + 1]? = some (.cells (tcells 0 o0) 24 (0, 0)) ∧ w'.heap[T + 1 + 1]? = some (.cells (os.map (Value.int .i64)).toArray 22 (0, 0)) ∧ w'.heap[X]? = some (.cells (tcells (c : Int) o0) 24 (0, 0))) (by kernel_rfl) ⟨H8.out.1, H8.out.2.1, H8.out.2.2.1, H8.out.2.2.2.1⟩ (fun hS => ?_)
      refine takeD (i := 0) rfl (by kernel_rfl) (by kernel_rfl) (by kernel_rfl) (fun _ _ _ h => h) hS (Or.inl ⟨by rfl, fun w hSw => by go_simp; rfl⟩) ?_
      simp only [Act.put, List.setIfInBounds_toArray, List.set_cons_zero, List.set_cons_succ]
      refine takeD (i := 1) rfl (by kernel_rfl) (by kernel_rfl) (by kernel_rfl) (fun _ _ _ h => h) hS (yieldsIf_load_mid (by rfl) 22 (.tmp 106) rfl T 1 rfl (os.map (Value.int .i64)) _ (fun _ h => range_owners h.1) Tryd.underlying22 rfl (infoOl HR.out.1)) ?_
      simp only [Act.put, List.setIfInBounds_toArray, List.set_cons_zero, List.set_cons_succ]
      refine takeD (i := 2) rfl (by kernel_rfl) (by kernel_rfl) (by kernel_rfl) (fun _ _ _ h => h) hS (yields_row (by rfl) 22 (.tmp 8) rfl (T + 1 + 1) rfl (os.map (Value.int .i64)).toArray _ _ _ (fun _ h => h.2.2.1) Tryd.underlying22 rfl (infoO HR.out.1)) ?_
      simp only [Act.put, List.setIfInBounds_toArray, List.set_cons_zero, List.set_cons_succ]
      refine takeD (i := 3) rfl (by kernel_rfl) (by kernel_rfl) (by kernel_rfl) (fun _ _ _ h => h) hS (Or.inl ⟨by rfl, fun w hSw => by go_simp; rfl⟩) ?_
      simp only [Act.put, List.setIfInBounds_toArray, List.set_cons_zero, List.set_cons_succ]
      refine takeD (i := 4) rfl (by kernel_rfl) (by kernel_rfl) (by kernel_rfl) (fun _ _ _ h => h) hS (Or.inl ⟨by rfl, fun w hSw => by go_simp; rfl⟩) ?_
      simp only [Act.put, List.setIfInBounds_toArray, List.set_cons_zero, List.set_cons_succ]
      refine takeD (i := 5) rfl (by kernel_rfl) (by kernel_rfl) (by kernel_rfl) (fun _ _ _ h => h) hS (Or.inl ⟨by rfl, fun w hSw => by go_simp; rfl⟩) ?_
      simp only [Act.put, List.setIfInBounds_toArray, List.set_cons_zero, List.set_cons_succ]
      refine takeD (i := 6) rfl (by kernel_rfl) (by kernel_rfl) (by kernel_rfl) (fun _ _ _ h => h) hS (v := .int .i64 (c : Int)) (Or.inl ⟨by rfl, fun w hSw => by have cT := cell_of hSw.1 (tcells_zero (c : Int) os); go_simp⟩) ?_
      simp only [Act.put, List.setIfInBounds_toArray, List.set_cons_zero, List.set_cons_succ]
      refine takeD (i := 7) rfl (by kernel_rfl) (by kernel_rfl) (by kernel_rfl) (fun _ _ _ h => h) hS (Or.inl ⟨by rfl, fun w hSw => by go_simp; rfl⟩) ?_
      simp only [Act.put, List.setIfInBounds_toArray, List.set_cons_zero, List.set_cons_succ]
      refine takeD (i := 8) rfl (by kernel_rfl) (by kernel_rfl) (by kernel_rfl) (fun _ _ _ h => h) hS (Or.inl ⟨by rfl, fun w hSw => by go_simp; rfl⟩) ?_
      simp only [Act.put, List.setIfInBounds_toArray, List.set_cons_zero, List.set_cons_succ]
      refine takeD (i := 9) rfl (by kernel_rfl) (by kernel_rfl) (by kernel_rfl) (fun _ _ _ h => h) hS (Or.inl ⟨by rfl, fun w hSw => by go_simp; rfl⟩) ?_
      simp only [Act.put, List.setIfInBounds_toArray, List.set_cons_zero, List.set_cons_succ]
      refine takeD (i := 10) rfl (by kernel_rfl) (by kernel_rfl) (by kernel_rfl) (fun _ _ _ h => h) hS (Or.inl ⟨by rfl, fun w hSw => by go_simp; rfl⟩) ?_
      simp only [Act.put, List.setIfInBounds_toArray, List.set_cons_zero, List.set_cons_succ]
      refine takeD (i := 11) rfl (by kernel_rfl) (by kernel_rfl) (by kernel_rfl) (fun _ _ _ h => h) hS (yields_row (by rfl) 24 (.tmp 5) rfl T rfl (tcells (c : Int) os) _ _ _ (fun _ h => h.1) Tryd.underlying24 rfl (infoT' _ HR.out.1)) ?_
      simp only [Act.put, List.setIfInBounds_toArray, List.set_cons_zero, List.set_cons_succ]
      refine takeD (i := 12) rfl (by kernel_rfl) (by kernel_rfl) (by kernel_rfl) (fun _ _ _ h => h) hS (yields_row (by rfl) 24 (.tmp 15) rfl X rfl (tcells (c : Int) o0) _ _ _ (fun _ h => h.2.2.2) Tryd.underlying24 rfl (infoT' _ HA.out.2.1)) ?_
      simp only [Act.put, List.setIfInBounds_toArray, List.set_cons_zero, List.set_cons_succ]
      refine takeD (i := 15) rfl (by kernel_rfl) (by kernel_rfl) (by kernel_rfl) (fun _ _ _ h => h) hS (yields_row (by rfl) 24 (.tmp 7) rfl (T + 1) rfl (tcells 0 o0) _ _ _ (fun _ h => h.2.1) Tryd.underlying24 rfl (infoT' _ HA.out.2.1)) ?_
      simp only [Act.put, List.setIfInBounds_toArray, List.set_cons_zero, List.set_cons_succ]
      refine takeD (i := 16) rfl (by kernel_rfl) (by kernel_rfl) (by kernel_rfl) (fun _ _ _ h => h) hS (yields_row (by rfl) 24 (.tmp 5) rfl T rfl (tcells (c : Int) os) _ _ _ (fun _ h => h.1) Tryd.underlying24 rfl (infoT' _ HR.out.1)) ?_
      simp only [Act.put, List.setIfInBounds_toArray, List.set_cons_zero, List.set_cons_succ]
      refine wpAnyH_ready (rs := [13]) (by kernel_rfl) (by simp) ?_
      refine consD (i := 13) rfl (fun K hK => ?_) AllReadyH.nil
      rw [if_pos (by rfl)]
      go_simp
      ((with_reducible refine (HD.out.1 _).mono ?_); rintro e w7 ⟨v7, rfl, hown7, hb7⟩)
      obtain ⟨a7, cap7, rfl, _⟩ := own_ints hown7
      dsimp only
      have hm7 := Mod.of_below hb7 (fun _ => False)
      refine hK.out _ _ ⟨hm7.old hS.1 id, hm7.old hS.2.1 id, hm7.old hS.2.2.1 id, hm7.old hS.2.2.2 id⟩ (fun hS => ?_)
      clear hK K hown7
      refine takeD (i := 14) rfl (by kernel_rfl) (by kernel_rfl) (by kernel_rfl) (fun _ _ _ h => h) hS (Or.inl ⟨by rfl, fun w hSw => by go_simp; rfl⟩) ?_
      simp only [Act.put, List.setIfInBounds_toArray, List.set_cons_zero, List.set_cons_succ]
      refine wpAnyH_ready (rs := [17]) (by kernel_rfl) (by simp) ?_
      refine consD (i := 17) rfl (fun K hK => ?_) AllReadyH.nil
      rw [if_pos (by rfl)]
      go_simp
      ((with_reducible refine (HD.out.2 _).mono ?_); rintro e w8 ⟨v8, rfl, hown8, hb8⟩)
      obtain ⟨a8, cap8, rfl, _⟩ := own_ints hown8
      dsimp only
      have hm8 := Mod.of_below hb8 (fun _ => False)
      refine hK.out _ _ ⟨hm8.old hS.1 id, hm8.old hS.2.1 id, hm8.old hS.2.2.1 id, hm8.old hS.2.2.2 id⟩ (fun hS => ?_)
      clear hK K hown8
      refine takeD (i := 18) rfl (by kernel_rfl) (by kernel_rfl) (by kernel_rfl) (fun _ _ _ h => h) hS (Or.inl ⟨by rfl, fun w hSw => by go_simp; rfl⟩) ?_
      simp only [Act.put, List.setIfInBounds_toArray, List.set_cons_zero, List.set_cons_succ]
      refine takeD (i := 19) rfl (by kernel_rfl) (by kernel_rfl) (by kernel_rfl) (fun _ _ _ h => h) hS (Or.inl ⟨by rfl, fun w hSw => by go_simp; rfl⟩) ?_
      simp only [Act.put, List.setIfInBounds_toArray, List.set_cons_zero, List.set_cons_succ]
      refine takeD (i := 20) rfl (by kernel_rfl) (by kernel_rfl) (by kernel_rfl) (fun _ _ _ h => h) hS (Or.inl ⟨by rfl, fun w hSw => by go_simp; rfl⟩) ?_
      simp only [Act.put, List.setIfInBounds_toArray, List.set_cons_zero, List.set_cons_succ]
      refine takeD (i := 21) rfl (by kernel_rfl) (by kernel_rfl) (by kernel_rfl) (fun _ _ _ h => h) hS (Or.inl ⟨by rfl, fun w hSw => by go_simp; rfl⟩) ?_
      simp only [Act.put, List.setIfInBounds_toArray, List.set_cons_zero, List.set_cons_succ]
      refine wpAnyH_done (by kernel_rfl) ?_ _
      go_wp2
      go_ret
      exact ⟨rfl, H8.out.2.2.2.2.trans (((Below.refl _ _).drew.trans (hb7.trans (hb8.mono hb7.size))).mono H8.out.2.2.2.2.size)⟩
    · have ht : (t : Int) < (ms.length : Int) := by omega
      obtain ⟨⟨s, nd⟩, hx⟩ : ∃ x, ms[t]? = some x := ⟨_, List.getElem?_eq_getElem (by omega)⟩
      obtain ⟨b, o, cs, rfl, _, hcs, rfl⟩ := HA.out.2.2 t _ hx
      have q0 := hcs 0 (.int .i64 s) rfl
      have q1 := hcs 1 (.int .i64 nd) rfl
      have hbb := World.block_lt_of_cell? w _ q0
      have c0 : wr.cell? ⟨b, o + t * 2, none⟩ = some (.int .i64 s) := by rw [hbw.cell (p := ⟨b, o + t * 2, none⟩) hbb]; exact q0
      have c1 : wr.cell? ⟨b, o + t * 2 + 1, none⟩ = some (.int .i64 nd) := by rw [hbw.cell (p := ⟨b, o + t * 2 + 1, none⟩) hbb]; exact q1
      obtain ⟨e1, o1, c1', hl1, hcase, hmv⟩ := move_all c (by omega) os hl s nd
      have HR := Lib.hid (And.intro hl (And.intro hb0 (And.intro hb1 (And.intro hb2 (And.intro hbw (And.intro hTw (And.intro htg hct)))))))
      have HM := Lib.hid (And.intro hl1 (And.intro hcase hmv))
      obtain ⟨U, hU⟩ : ∃ U, wr.heap.size = U := ⟨_, rfl⟩
      have HU := Lib.hid hU
      have HN := Lib.hid (show ∀ o, (wr.alloc o).heap[U]? = some o from fun o => by rw [← hU]; exact block_new wr o)
      clear hl hb0 hb1 hb2 hbw htg hg hct hTw hl1 hcase hmv hx hcs q0 q1 hbb
      go_upto_region 12 with (first
        | (refine wpList_store_all rfl 33 (.tmp 11) (.tmp 39) rfl U #[.int .i64 s, .int .i64 nd] rfl rfl _ _ (HN.out _) rfl (by kernel_rfl) rfl ?_; intro w4 hw4 hm4 hz4; rw [World.size_alloc, hU] at hz4))
      generalize hw4 : World.alloc wr _ = w4
      have g4 : w4.heap[U]? = some (.cells #[.int .i64 s, .int .i64 nd] 33 (0, 0)) ∧ Below wr.heap.size wr w4 := ⟨by rw [← hw4]; exact HN.out _, by rw [← hw4]; exact (Below.refl _ _).alloc (Nat.le_refl _) _⟩
      have m4 := Mod.of_below g4.2 (fun _ => False)
      have t0 := m4.old HR.out.2.1 id
      have t1 := m4.old HR.out.2.2.1 id
      have t2 := m4.old HR.out.2.2.2.1 id
      have c2 := cell_of (i := 0) g4.1 rfl
      have c3 := cell_of (i := 1) g4.1 rfl
      have H4 := Lib.hid (And.intro g4.1 (And.intro t0 (And.intro t1 (And.intro t2 (HR.out.2.2.2.2.1.trans (g4.2.mono HR.out.2.2.2.2.1.size))))))
      clear g4 m4 t0 t1 t2 hw4 c0 c1 hU HN
      go_wp2_with (refine wpList_load_row rfl 24 (.tmp 5) rfl T rfl _ (tcells (c : Int) os) _ _ H4.out.2.1 Tryd.underlying24 rfl (infoT' _ HR.out.1) ?_)
      ((with_reducible refine (HM.out.2.2 w4).mono ?_); rintro e w5 ⟨rfl, hb5⟩)
      have m5 := Mod.of_below hb5 (fun _ => False)
      obtain ⟨V, hV⟩ : ∃ V, w5.heap.size = V := ⟨_, rfl⟩
      have H5 := Lib.hid (And.intro (m5.old H4.out.1 id) (And.intro (m5.old H4.out.2.1 id) (And.intro (m5.old H4.out.2.2.1 id) (And.intro (m5.old H4.out.2.2.2.1 id) (And.intro (H4.out.2.2.2.2.trans (hb5.mono H4.out.2.2.2.2.size)) (And.intro (show ∀ o, (w5.alloc o).heap[V]? = some o from fun o => by rw [← hV]; exact block_new w5 o) hV))))))
      clear hb5 m5 c2 c3
      go_upto_region 13 with (refine wpList_store_all rfl 24 (.tmp 12) (.tmp 47) rfl V (tcells e1 o1) rfl rfl _ _ (H5.out.2.2.2.2.2.1 _) (by rw [tcells_size HM.out.1]; rfl) (infoT' _ HM.out.1) (tcells_one _ _) ?_; intro w6 hw6 hm6 hz6; have hm56 := ((Mod.refl (fun x => x = V) w5).alloc _).trans' hm6; have H6' := Lib.hid (And.intro hw6 hm56); clear hw6 hm6 hz6 hm56)
      have hne : ∀ x, x < w5.heap.size → x ≠ V := fun x hx => by have := H5.out.2.2.2.2.2.2; omega
      have H7 := Lib.hid (And.intro H6'.out.1 (And.intro (H6'.out.2.old H5.out.1 (hne _ (lt_block H5.out.1))) (And.intro (H6'.out.2.old H5.out.2.1 (hne _ (lt_block H5.out.2.1))) (And.intro (H6'.out.2.old H5.out.2.2.1 (hne _ (lt_block H5.out.2.2.1))) (And.intro (H6'.out.2.old H5.out.2.2.2.1 (hne _ (lt_block H5.out.2.2.2.1))) (H5.out.2.2.2.2.1.trans (H6'.out.2.to_below H5.out.2.2.2.2.1.size (fun x hx => by have h1 := H5.out.2.2.2.2.1.size; have h2 := H5.out.2.2.2.2.2.2; have h3 : x = V := hx; omega))))))))
      clear hne H6' H5 H4 hV
      have c2 := cell_of (i := 0) H7.out.2.1 rfl
      have c3 := cell_of (i := 1) H7.out.2.1 rfl
      have hcase := HM.out.2.1
      rcases hcase with ⟨hcase, rfl, rfl⟩ | ⟨rfl, h1, h2, h3, h4, rfl, rfl⟩
      · have hZ : tcells 0 (List.replicate 16 0) = #[.int .i64 0, .int .i64 0, .int .i64 0, .int .i64 0, .int .i64 0, .int .i64 0, .int .i64 0, .int .i64 0, .int .i64 0, .int .i64 0, .int .i64 0, .int .i64 0, .int .i64 0, .int .i64 0, .int .i64 0, .int .i64 0, .int .i64 0] := rfl
        have heq : ∀ w, (Op.equalIn 9999 22 (.agg #[.int .i64 0, .int .i64 0, .int .i64 0, .int .i64 0, .int .i64 0, .int .i64 0, .int .i64 0, .int .i64 0, .int .i64 0, .int .i64 0, .int .i64 0, .int .i64 0, .int .i64 0, .int .i64 0, .int .i64 0, .int .i64 0]) (.agg #[.int .i64 0, .int .i64 0, .int .i64 0, .int .i64 0, .int .i64 0, .int .i64 0, .int .i64 0, .int .i64 0, .int .i64 0, .int .i64 0, .int .i64 0, .int .i64 0, .int .i64 0, .int .i64 0, .int .i64 0, .int .i64 0])).run Tryd.prog w = .ok true w := fun w => by
          have h := eqOwn 9997 (List.replicate 16 0) (List.replicate 16 0) (by simp) (by simp) w
          rw [decide_eq_true rfl] at h
          exact h
        have HV := H7.out.1
        rw [hZ] at HV
        have HV := Lib.hid HV
        clear hZ
        rcases hcase with ⟨rfl, h⟩ | ⟨rfl, h1, h2, h3, h4, hk⟩
        · have h' : s < 0 ∨ (¬ s < 0 ∧ decide (s < 16) = false) ∨ (¬ s < 0 ∧ s < 16 ∧ nd < 0) ∨ (¬ s < 0 ∧ s < 16 ∧ ¬ nd < 0 ∧ decide (nd < 8) = false) := by simp only [decide_eq_false_iff_not]; omega
          clear h
          rcases h' with h | ⟨h, h'⟩ | ⟨h, h', h2'⟩ | ⟨h, h', h2', h3'⟩
          all_goals
            go_wp2_with (refine wpList_load_row_w rfl 24 (.tmp 12) rfl V rfl _ _ _ _ HV.out Tryd.underlying24 rfl (by kernel_rfl) ?_)
            go_quiet (fail)
            go_wp2
            go_roundg (gk - 1)
            case measure => have := HR.out.2.2.2.2.2.2.1; omega
            case rel => exact ⟨t + 1, c, os, by have := HR.out.2.2.2.2.2.2.1; omega, by have := HR.out.2.2.2.2.2.2.2; omega, HR.out.1, by go_num, rfl, H7.out.2.2.1, H7.out.2.2.2.1, H7.out.2.2.2.2.1, below_drewN H7.out.2.2.2.2.2 _⟩
        · obtain ⟨k, rfl⟩ : ∃ k : Nat, s = k := ⟨s.toNat, by omega⟩
          have n1 : ¬ (k : Int) < 0 := by omega
          have n2 : (k : Int) < 16 := by omega
          have n3 : ¬ nd < 0 := by omega
          have n4 : nd < 8 := by omega
          rw [Int.toNat_natCast] at hk
          have c4 : w6.cell? ⟨T + 1 + 1, k, none⟩ = some (.int .i64 nd) := cell_of H7.out.2.2.2.2.1 (by simp [hk])
          have q : (nd != nd) = false := by simp
          clear h2 h4 hk
          go_wp2_with (refine wpList_load_row_w rfl 24 (.tmp 12) rfl V rfl _ _ _ _ HV.out Tryd.underlying24 rfl (by kernel_rfl) ?_)
          go_quiet (fail)
          go_wp2
          go_roundg (gk - 1)
          case measure => have := HR.out.2.2.2.2.2.2.1; omega
          case rel => exact ⟨t + 1, c, os, by have := HR.out.2.2.2.2.2.2.1; omega, by have := HR.out.2.2.2.2.2.2.2; omega, HR.out.1, by go_num, rfl, H7.out.2.2.1, H7.out.2.2.2.1, H7.out.2.2.2.2.1, below_drewN H7.out.2.2.2.2.2 _⟩
      · obtain ⟨k, rfl⟩ : ∃ k : Nat, s = k := ⟨s.toNat, by omega⟩
        have n1 : ¬ (k : Int) < 0 := by omega
        have n2 : (k : Int) < 16 := by omega
        have n3 : ¬ nd < 0 := by omega
        have n4 : nd < 8 := by omega
        have hcc := HR.out.2.2.2.2.2.2.2
        have hcn : (c : Int) < 9223372036854775807 := by omega
        clear h2 h4 hcc
        have H8 := Lib.hid (And.intro H7.out.1 H7.out.2.2.1)
        obtain ⟨y, hy⟩ : ∃ y, os[k]? = some y := ⟨_, List.getElem?_eq_getElem (by have := HR.out.1; omega)⟩
        have HY := Lib.hid hy
        have HUT : ¬ U = T := fun e => by have h1 := lt_block HR.out.2.1; have h2 := HU.out; omega
        clear hy
        go_wp2_with (first
          | (refine wpList_load_row rfl 24 (.tmp 12) rfl V rfl _ (tcells ((c + 1 : Nat) : Int) (os.set (k : Int).toNat nd)) _ _ H8.out.1 Tryd.underlying24 rfl (infoT' _ HM.out.1) ?_)
          | (refine wpList_store_all rfl 24 (.tmp 5) (.tmp 92) rfl T (tcells ((c + 1 : Nat) : Int) (os.set (k : Int).toNat nd)) rfl rfl _ _ H8.out.2 (by rw [tcells_size HM.out.1, tcells_size HR.out.1]) (infoT' _ HM.out.1) (tcells_one _ _) ?_; intro w7 hw7 hm7 hz7; have H9 := Lib.hid (And.intro hw7 hm7); clear hw7 hm7 hz7 c2 c3; have c2 : w7.cell? ⟨U, 0, none⟩ = some (.int .i64 (k : Int)) := cell_of (H9.out.2.old H7.out.2.1 (fun e => HUT e)) rfl; have c3 : w7.cell? ⟨U, 1, none⟩ = some (.int .i64 nd) := cell_of (H9.out.2.old H7.out.2.1 (fun e => HUT e)) rfl; have b2 := H9.out.2.old H7.out.2.2.2.2.1 (by omega); have c4 : w7.cell? ⟨T + 1 + 1, k, none⟩ = some (.int .i64 y) := cell_of b2 (by simp [HY.out]); have cf := fun i => free_of (i := i) b2; have B2 := Lib.hid b2; clear b2))
        go_roundg (gk - 1)
        case measure => have := HR.out.2.2.2.2.2.2.1; omega
        case rel =>
          have hb2 := block_setCell B2.out (i := k) (.int .i64 nd)
          rw [List.setIfInBounds_toArray, ← List.map_set] at hb2
          refine ⟨t + 1, c + 1, os.set k nd, by have := HR.out.2.2.2.2.2.2.1; omega, by have := HR.out.2.2.2.2.2.2.2; omega, by rw [List.length_set]; exact HR.out.1, by go_num, by go_num, ?_, ?_, hb2, ?_⟩
          · have h := block_setCell_ne H9.out.1 (b' := T + 1 + 1) (i := k) (by omega) (.int .i64 nd)
            rw [Int.toNat_natCast] at h
            exact h
          · exact block_setCell_ne (H9.out.2.old H7.out.2.2.2.1 (by omega)) (by omega) _
          · have h1 := HR.out.2.2.2.2.2.1
            exact (H7.out.2.2.2.2.2.trans (H9.out.2.to_below H7.out.2.2.2.2.2.size (fun x hx => by have h3 : x = T := hx; omega))).setCell (by show w.heap.size ≤ T + 1 + 1; omega) _
theorem row {w : World} (n : Int) (v : Value) (ms : List (Int × Int)) (hs : SliceIs 2 (fun _ cs (x : Int × Int) => cs = [.int .i64 x.1, .int .i64 x.2]) w v ms) (hz : ms.length ≤ 1125899906842623) :
    Calls Tryd.prog 4 #[.int .i64 n, v] w fun e w' => e = .returned (.bool true) ∧ Below w.heap.size w w' := by
  by_cases h : n < 1 ∨ 8 < n
  · exact bad n v h
  · have := good (w := w) n.toNat (by omega) (by omega) v ms hs hz
    rwa [show (n.toNat : Int) = n by omega] at this
end Go.Proofs.YtjccngahpafcaaaDoor.RingWalk
