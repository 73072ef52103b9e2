/- porterlaw11.RingMoves answers true at every input. -/
import Derived.Test.YtjccngahpafcaaaDoorRingG
import Derived.Deep.DeepCutAuto
import Derived.Deep.CutBlock
import Derived.Deep.LoopGhost
namespace Go.Proofs.YtjccngahpafcaaaDoor.RingMoves
open Go.RowKit Go.Por Go.Proofs.YtjccngahpafcaaaDoor.RingF


set_option maxRecDepth 100000 in
set_option maxHeartbeats 800000 in
theorem bad {w : World} (n p : Int) (h1 : 1 ≤ n) (h2 : n ≤ 7) (hp : p < 1 ∨ 64 < p) :
    Calls Tryd.prog 7 #[.int .i64 n, .int .i64 p] w fun e w' => e = .returned (.bool true) ∧ Below w.heap.size w w' := by
  obtain ⟨zs, hzs, hzl⟩ : ∃ zs, List.replicate 16 (0 : Int) = zs ∧ zs.length = 16 := ⟨_, rfl, by simp⟩
  have HA := Lib.hid (fun w => new_bad n p w (by omega))
  have HB := Lib.hid (fun w => new_bad (n + 1) p w (by omega))
  rw [hzs] at HA HB
  have HZ := Lib.hid hzl
  clear hzs hzl
  have k1 : ¬ n < 1 := by omega
  have k2 : ¬ 7 < n := by omega
  go_enter Tryd.func7, Tryd.ntmps7
  go_wp2_with fail
  refine (awake_any w).mono ?_
  rintro e w1 ⟨rfl, hb1⟩
  have H1 := Lib.hid hb1
  clear hb1
  go_wp2_with fail
  refine (HA.out w1).mono ?_
  rintro e w2 ⟨rfl, hb2⟩
  obtain ⟨T5, hT5⟩ : ∃ T, w2.heap.size = T := ⟨_, rfl⟩
  have H2 := Lib.hid (And.intro (H1.out.trans (hb2.mono H1.out.size)) (show ∀ o, (w2.alloc o).heap[T5]? = some o from fun o => by rw [← hT5]; exact block_new w2 o))
  clear hb2
  have hn1 : n + 1 ≤ 8 := by omega
  go_wp2_with (first
    | (refine wpList_store_all rfl 24 (.tmp 5) (.tmp 28) rfl T5 (tcells 0 zs) rfl rfl _ _ (H2.out.2 _) (by rw [tcells_size HZ.out]; rfl) (infoT' _ HZ.out) (tcells_one _ _) ?_; intro w3 hw3 hm3 hz3; rw [World.size_alloc, hT5] at hz3; have hm23 := ((Mod.refl (fun x => x = T5) w2).alloc _).trans' hm3; have H3 := Lib.hid (H2.out.1.trans (hm23.to_below H2.out.1.size (fun x hx => by have h1 := H2.out.1.size; omega))); clear hw3 hm3 hz3 hm23))
  refine (HB.out w3).mono ?_
  rintro e w4 ⟨rfl, hb4⟩
  obtain ⟨T7, hT7⟩ : ∃ T, w4.heap.size = T := ⟨_, rfl⟩
  have H4 := Lib.hid (And.intro (H3.out.trans (hb4.mono H3.out.size)) (show ∀ o, (w4.alloc o).heap[T7]? = some o from fun o => by rw [← hT7]; exact block_new w4 o))
  clear hb4 hT5
  rcases hp with hp | hp
  · have k3 : ¬ 1 ≤ p := by omega
    have k4 : p ≤ 0 := by omega
    go_wp2_with (first
      | (refine wpList_store_all rfl 24 (.tmp 7) (.tmp 35) rfl T7 (tcells 0 zs) rfl rfl _ _ (H4.out.2 _) (by rw [tcells_size HZ.out]; rfl) (infoT' _ HZ.out) (tcells_one _ _) ?_; intro w5 hw5 hm5 hz5; rw [World.size_alloc, hT7] at hz5; have hm45 := ((Mod.refl (fun x => x = T7) w4).alloc _).trans' hm5; have H5 := Lib.hid (H4.out.1.trans (hm45.to_below H4.out.1.size (fun x hx => by have h1 := H4.out.1.size; omega))); clear hw5 hm5 hz5 hm45))
    go_ret
    exact ⟨rfl, H5.out⟩
  · have k3 : 1 ≤ p := by omega
    have k4 : ¬ p ≤ 64 := by omega
    go_wp2_with (first
      | (refine wpList_store_all rfl 24 (.tmp 7) (.tmp 35) rfl T7 (tcells 0 zs) rfl rfl _ _ (H4.out.2 _) (by rw [tcells_size HZ.out]; rfl) (infoT' _ HZ.out) (tcells_one _ _) ?_; intro w5 hw5 hm5 hz5; rw [World.size_alloc, hT7] at hz5; have hm45 := ((Mod.refl (fun x => x = T7) w4).alloc _).trans' hm5; have H5 := Lib.hid (H4.out.1.trans (hm45.to_below H4.out.1.size (fun x hx => by have h1 := H4.out.1.size; omega))); clear hw5 hm5 hz5 hm45))
    go_ret
    exact ⟨rfl, H5.out⟩

set_option maxRecDepth 100000 in
set_option maxHeartbeats 1600000 in
theorem good {w : World} (N M : Nat) (h1 : 1 ≤ N) (h2 : N ≤ 7) (hp1 : 1 ≤ M) (hp2 : M ≤ 64) :
    Calls Tryd.prog 7 #[.int .i64 (N : Int), .int .i64 (M : Int)] w fun e w' => e = .returned (.bool true) ∧ Below w.heap.size w w' := by
  have hA := fun w => new_good N M w h1 (by omega) hp1 hp2
  have hB := fun w => new_good (N + 1) M w (by omega) (by omega) hp1 hp2
  rw [show ((N + 1 : Nat) : Int) = (N : Int) + 1 by omega] at hB
  have hla := owners_length N M
  have hlb := owners_length (N + 1) M
  have hdiff : ∀ (k : Nat) (x : Int), (diffs (owners N M) (owners (N + 1) M) 16)[k]? = some x → ∃ s : Nat, x = s ∧ s < 16 ∧ (owners (N + 1) M)[s]? = some (N : Int) := by
    intro k x hx
    obtain ⟨s, rfl, hs, hne⟩ := mem_diffs (List.mem_of_getElem? hx)
    exact ⟨s, rfl, hs, owners_more N M h1 hp1 hs hne⟩
  have hcnt := cnt_owners (N + 1) M (by omega) hp1
  have hck := chk_owners (N + 1) M (by omega) hp1
  have hck0 := chk_none (N + 1) M (by omega) hp1
  rw [show ((N + 1 : Nat) : Int) = (N : Int) + 1 by omega] at hck
  obtain ⟨oa, hoa⟩ : ∃ oa, owners N M = oa := ⟨_, rfl⟩
  obtain ⟨ob, hob⟩ : ∃ ob, owners (N + 1) M = ob := ⟨_, rfl⟩
  rw [hoa] at hA hla hdiff
  rw [hob] at hB hlb hdiff hcnt hck hck0
  have hD := fun w => diff_any 0 oa 0 ob hla hlb w
  have hDl := diffs_le oa ob 16
  obtain ⟨D, hDD⟩ : ∃ D, diffs oa ob 16 = D := ⟨_, rfl⟩
  rw [hDD] at hD hdiff hDl
  have hK := fun w => check_any 0 ob hlb ((N : Int) + 1) w
  have hK0 := fun w => check_any 0 ob hlb 0 w
  rw [hck] at hK
  rw [hck0] at hK0
  have HA := Lib.hid (And.intro hA (And.intro hB (And.intro hD (And.intro hK hK0))))
  have HF := Lib.hid (And.intro hla (And.intro hlb (And.intro hdiff hcnt)))
  clear hA hB hD hK hK0 hla hlb hdiff hcnt hck hck0 hoa hob hDD
  have k1 : ¬ (N : Int) < 1 := by omega
  have k2 : ¬ 7 < (N : Int) := by omega
  have k3 : 1 ≤ (M : Int) := by omega
  have k4 : (M : Int) ≤ 64 := by omega
  have k5 : (N : Int) + 1 ≤ 8 := by omega
  clear h1 h2 hp1 hp2
  go_enter Tryd.func7, Tryd.ntmps7
  go_wp2_with fail
  refine (awake_any w).mono ?_
  rintro e w1 ⟨rfl, hb1⟩
  have H1 := Lib.hid hb1
  clear hb1
  go_wp2_with fail
  refine (HA.out.1 w1).mono ?_
  rintro e w2 ⟨rfl, hb2⟩
  obtain ⟨T5, hT5⟩ : ∃ T, w2.heap.size = T := ⟨_, rfl⟩
  have H2 := Lib.hid (And.intro (H1.out.trans (hb2.mono H1.out.size)) (show ∀ o, (w2.alloc o).heap[T5]? = some o from fun o => by rw [← hT5]; exact block_new w2 o))
  have HT5 := Lib.hid hT5
  clear hb2
  go_wp2_with (first
    | (refine wpList_store_all rfl 24 (.tmp 5) (.tmp 28) rfl T5 (tcells 0 oa) rfl rfl _ _ (H2.out.2 _) (by rw [tcells_size HF.out.1]; rfl) (infoT' _ HF.out.1) (tcells_one _ _) ?_; intro w3 hw3 hm3 hz3; rw [World.size_alloc, hT5] at hz3; have hm23 := ((Mod.refl (fun x => x = T5) w2).alloc _).trans' hm3; have H3 := Lib.hid (And.intro (H2.out.1.trans (hm23.to_below H2.out.1.size (fun x hx => by have h1 := H2.out.1.size; omega))) (And.intro hw3 hz3)); clear hw3 hm3 hz3 hm23))
  refine (HA.out.2.1 w3).mono ?_
  rintro e w4 ⟨rfl, hb4⟩
  obtain ⟨T7, hT7⟩ : ∃ T, w4.heap.size = T := ⟨_, rfl⟩
  have hx5 := (Mod.of_below hb4 (fun _ => False)).old H3.out.2.1 id
  have H4 := Lib.hid (And.intro (H3.out.1.trans (hb4.mono H3.out.1.size)) (And.intro (show ∀ o, (w4.alloc o).heap[T7]? = some o from fun o => by rw [← hT7]; exact block_new w4 o) (And.intro hx5 (show T5 ≠ T7 from fun e => by have := lt_block hx5; omega))))
  have HT7 := Lib.hid hT7
  clear hb4 hT5 hx5
  go_wp2_with (first
    | (refine wpList_store_all rfl 24 (.tmp 7) (.tmp 35) rfl T7 (tcells 0 ob) rfl rfl _ _ (H4.out.2.1 _) (by rw [tcells_size HF.out.2.1]; rfl) (infoT' _ HF.out.2.1) (tcells_one _ _) ?_; intro w5 hw5 hm5 hz5; rw [World.size_alloc, hT7] at hz5; have hm45 := ((Mod.refl (fun x => x = T7) w4).alloc _).trans' hm5; have H5 := Lib.hid (And.intro (H4.out.1.trans (hm45.to_below H4.out.1.size (fun x hx => by have h1 := H4.out.1.size; have h2 := HT7.out; omega))) (And.intro hw5 (And.intro hz5 (hm45.old H4.out.2.2.1 H4.out.2.2.2)))); clear hw5 hm5 hz5 hm45)
    | (refine wpList_load_row rfl 24 (.tmp 5) rfl T5 rfl _ (tcells 0 oa) _ _ H5.out.2.2.2 Tryd.underlying24 rfl (infoT' _ HF.out.1) ?_)
    | (refine wpList_load_row rfl 24 (.tmp 7) rfl T7 rfl _ (tcells 0 ob) _ _ H5.out.2.1 Tryd.underlying24 rfl (infoT' _ HF.out.2.1) ?_))
  ((with_reducible refine (HA.out.2.2.1 w5).mono ?_); rintro e w6 ⟨v6, rfl, hown6, hb6⟩)
  obtain ⟨a6, cap6, rfl, hread6⟩ := own_ints hown6
  have h67 := (Mod.of_below hb6 (fun _ => False)).old H5.out.2.1 id
  have H6 := Lib.hid (And.intro (H5.out.1.trans (hb6.mono H5.out.1.size)) (And.intro h67 hread6))
  clear hown6 hb6 h67 hread6 hT7
  go_wp2
  go_loopg [57] (D.length) (fun g i wx => ∃ t : Nat, t + g = D.length ∧ i = .int .i64 (t : Int) ∧ wx = w6)
  case atStart => exact ⟨0, by omega, rfl, rfl⟩
  case round =>
    obtain ⟨t, htg, rfl, rfl⟩ := hrel
    by_cases hg : gk = 0
    · have ht : ¬ ((t : Int) < (D.length : Int)) := by omega
      clear htg hg
      go_wp2
      have HW6 := Lib.hid (And.intro H6.out.1 H6.out.2.1)
      clear H6 H5 H4 H3 H2 H1
      go_loopg [11, 12] (N + 1) (fun g c i wx => ∃ q : Nat, q + g = N + 1 ∧ i = .int .i64 (q : Int) ∧ c = .int .i64 (cnt ob q : Int) ∧ wx.heap[T7]? = some (.cells (tcells 0 ob) 24 (0, 0)) ∧ Below w.heap.size w wx)
      case atStart => exact ⟨0, by omega, rfl, rfl, HW6.out.2, HW6.out.1⟩
      case round =>
        obtain ⟨q, hqg, rfl, rfl, ht7, hbr⟩ := hrel
        have hcl := cnt_le ob q
        by_cases hg : gk = 0
        · have hq : ¬ ((q : Int) ≤ (N : Int)) := by omega
          have hqe : q = N + 1 := by omega
          subst hqe
          rw [HF.out.2.2.2, show ((16 : Nat) : Int) = 16 from rfl]
          have HR := Lib.hid (And.intro ht7 hbr)
          clear hqg hg ht7 hbr hcl
          go_wp2_with (first
            | (refine wpList_load_row_w rfl 24 (.tmp 7) rfl T7 rfl _ (tcells 0 ob) _ _ HR.out.1 Tryd.underlying24 rfl (infoT' _ HF.out.2.1) ?_))
          ((with_reducible refine (HA.out.2.2.2.1 wr).mono ?_); rintro e w8 ⟨rfl, hb8⟩)
          have h87 := (Mod.of_below hb8 (fun _ => False)).old HR.out.1 id
          have H8 := Lib.hid (And.intro (HR.out.2.trans (hb8.mono HR.out.2.size)) h87)
          clear hb8 h87
          go_wp2_with (first
            | (refine wpList_load_row_w rfl 24 (.tmp 7) rfl T7 rfl _ (tcells 0 ob) _ _ H8.out.2 Tryd.underlying24 rfl (infoT' _ HF.out.2.1) ?_))
          ((with_reducible refine (HA.out.2.2.2.2 w8).mono ?_); rintro e w9 ⟨rfl, hb9⟩)
          have H9 := Lib.hid (H8.out.1.trans (hb9.mono H8.out.1.size))
          clear hb9
          go_wp2
          go_ret
          exact ⟨rfl, H9.out⟩
        · have hq : (q : Int) ≤ (N : Int) := by omega
          have hS := slots_any 0 ob HF.out.2.1 (q : Int) wr
          have hsl := slotsOf_le ob (q : Int) 16
          have hcs : cnt ob (q + 1) = cnt ob q + (slotsOf ob (q : Int) 16).length := rfl
          have hcl2 := cnt_le ob (q + 1)
          have hmem : ∀ (k : Nat) (x : Int), (slotsOf ob (q : Int) 16)[k]? = some x → ∃ s : Nat, x = s ∧ s < 16 ∧ ob[s]? = some (q : Int) := fun k x hx => mem_slots (List.mem_of_getElem? hx)
          have hnext : ∀ (k : Nat) (x z : Int), (slotsOf ob (q : Int) 16)[k]? = some x → (slotsOf ob (q : Int) 16)[k + 1]? = some z → x < z := fun k x z h1 h2 => slots_next h1 h2
          obtain ⟨S, hSS⟩ : ∃ S, slotsOf ob (q : Int) 16 = S := ⟨_, rfl⟩
          rw [hSS] at hS hsl hcs hmem hnext
          obtain ⟨cq, hcq⟩ : ∃ cq, cnt ob q = cq := ⟨_, rfl⟩
          rw [hcq] at hcs hcl ⊢
          have HR := Lib.hid (And.intro ht7 (And.intro hbr (And.intro hS (And.intro hmem (And.intro hnext (And.intro hcs hqg))))))
          have hcap : cq + S.length ≤ 16 := by omega
          clear hqg hg ht7 hbr hcl hS hsl hcs hmem hnext hSS hcq hcl2
          go_wp2_with (first
            | (refine wpList_load_row rfl 24 (.tmp 7) rfl T7 rfl _ (tcells 0 ob) _ _ HR.out.1 Tryd.underlying24 rfl (infoT' _ HF.out.2.1) ?_))
          ((with_reducible refine HR.out.2.2.1.mono ?_); rintro e w7 ⟨v7, rfl, hown7, hb7⟩)
          obtain ⟨a7, cap7, rfl, hread7⟩ := own_ints hown7
          have h77 := (Mod.of_below hb7 (fun _ => False)).old HR.out.1 id
          have H7 := Lib.hid (And.intro (HR.out.2.1.trans (hb7.mono HR.out.2.1.size)) (And.intro h77 hread7))
          clear hown7 hb7 h77 hread7
          go_wp2
          go_loopg [11, 13, 77] (S.length) (fun g c la i wx => ∃ (j : Nat) (ll : Int), j + g = S.length ∧ i = .int .i64 (j : Int) ∧ c = .int .i64 ((cq : Int) + (j : Int)) ∧ la = .int .i64 ll ∧ (∀ x, S[j]? = some x → ll < x) ∧ wx = w7)
          case atStart =>
            refine ⟨0, -1, by omega, rfl, by simp, rfl, fun x hx => ?_, rfl⟩
            obtain ⟨s, rfl, _⟩ := HR.out.2.2.2.1 0 x hx
            omega
          case round =>
            obtain ⟨j, ll, hjg, rfl, rfl, rfl, hlast, rfl⟩ := hrel
            by_cases hg2 : gk = 0
            · have hj : ¬ ((j : Int) < (S.length : Int)) := by omega
              have hje : j = S.length := by omega
              subst hje
              clear hjg hg2 hlast
              go_wp2
              go_roundg (N - q)
              case measure => have := HR.out.2.2.2.2.2.2; omega
              case rel =>
                have h1 := HR.out.2.2.2.2.2.1
                exact ⟨q + 1, by omega, by go_num, by rw [h1]; simp, H7.out.2.1, H7.out.1⟩
            · have hj : j < S.length := by omega
              obtain ⟨x, hx⟩ : ∃ x, S[j]? = some x := ⟨_, List.getElem?_eq_getElem hj⟩
              obtain ⟨g7, rfl, _, cx⟩ := H7.out.2.2 j x hx
              obtain ⟨s, rfl, hs, hbs⟩ := HR.out.2.2.2.1 j x hx
              have cs := cell_of H7.out.2.1 (tcells_at 0 hbs)
              have hll := hlast _ hx
              have hll2 : ¬ (s : Int) ≤ ll := by omega
              have HJ := Lib.hid (And.intro hjg (fun y hy => HR.out.2.2.2.2.1 j _ y hx hy))
              clear hjg hg2 hx hbs hlast
              go_wp2
              go_roundg (gk - 1)
              case measure => have := HJ.out.1; omega
              case rel => exact ⟨j + 1, (s : Int), by have := HJ.out.1; omega, by go_num, by go_num, rfl, HJ.out.2, rfl⟩
    · have ht : t < D.length := by omega
      obtain ⟨x, hx⟩ : ∃ x, D[t]? = some x := ⟨_, List.getElem?_eq_getElem ht⟩
      obtain ⟨g6, rfl, _, cx⟩ := H6.out.2.2 t x hx
      obtain ⟨s, rfl, hs, hbs⟩ := HF.out.2.2.1 t x hx
      have cs := cell_of H6.out.2.1 (tcells_at 0 hbs)
      have HJ := Lib.hid htg
      clear htg hg hx hbs
      go_wp2
      go_roundg (gk - 1)
      case measure => have := HJ.out; omega
      case rel => exact ⟨t + 1, by have := HJ.out; omega, by go_num, rfl⟩

set_option maxRecDepth 100000 in
set_option maxHeartbeats 800000 in
theorem out {w : World} (n p : Int) (h : n < 1 ∨ 7 < n) :
    Calls Tryd.prog 7 #[.int .i64 n, .int .i64 p] w fun e w' => e = .returned (.bool true) ∧ Below w.heap.size w w' := by
  rcases h with h | h
  · go_enter Tryd.func7, Tryd.ntmps7
    go_wp2_with fail
    refine (awake_any w).mono ?_
    rintro e w1 ⟨rfl, hb1⟩
    have H1 := Lib.hid hb1
    clear hb1
    go_wp2
    go_ret
    exact ⟨rfl, H1.out⟩
  · have h' : ¬ n < 1 := by omega
    go_enter Tryd.func7, Tryd.ntmps7
    go_wp2_with fail
    refine (awake_any w).mono ?_
    rintro e w1 ⟨rfl, hb1⟩
    have H1 := Lib.hid hb1
    clear hb1
    go_wp2
    go_ret
    exact ⟨rfl, H1.out⟩

theorem row {w : World} (n p : Int) :
    Calls Tryd.prog 7 #[.int .i64 n, .int .i64 p] w fun e w' => e = .returned (.bool true) ∧ Below w.heap.size w w' := by
  by_cases h : n < 1 ∨ 7 < n
  · exact out n p h
  · by_cases hp : p < 1 ∨ 64 < p
    · exact bad n p (by omega) (by omega) hp
    · have := good (w := w) n.toNat p.toNat (by omega) (by omega) (by omega) (by omega)
      rwa [show (n.toNat : Int) = n by omega, show (p.toNat : Int) = p by omega] at this
end Go.Proofs.YtjccngahpafcaaaDoor.RingMoves
