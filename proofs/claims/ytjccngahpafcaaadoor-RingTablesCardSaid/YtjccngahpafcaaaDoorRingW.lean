/- ring.New: the first table of so many nodes. -/
import Derived.Test.YtjccngahpafcaaaDoorRingN
import Derived.Deep.CutBlock
namespace Go.Proofs.YtjccngahpafcaaaDoor.RingF
open Go.RowKit Go.Por Go.Sort

theorem infoPt : (Tryd.prog.info? 54).map (fun i => (i.zero, i.size, i.bytes)) = some (some (.agg #[.int .u32 0, .int .i64 0]), 2, 16) := by kernel_rfl
theorem aggPt : ∀ w, (isAgg 54).run Tryd.prog w = .ok true w := fun w => by kernel_rfl
theorem sizePt : ∀ w, (Go.sizeOf 54).run Tryd.prog w = .ok 2 w := fun w => by kernel_rfl

theorem cells_new (w : World) (cs : List Value) (t : TypeId) : ∀ j u, cs[j]? = some u → (w.alloc (.cells cs.toArray t)).cell? ((⟨w.heap.size, 0, none⟩ : Addr).add j) = some u := by
  intro j u hu
  have e : (⟨w.heap.size, 0, none⟩ : Addr).add j = ⟨w.heap.size, j, none⟩ := by
    unfold Addr.add; split
    · rename_i e; subst e; rfl
    · simp
  rw [e]
  exact cell_of (block_new w _) (by simpa using hu)
/-- A row of points of the call's own is sorted in place. -/
theorem sort_any {w : World} {g cap : Nat} {l : List Pt} (h : OwnS ptc 2 w 54 (.slice (some ⟨g, 0, none⟩) l.length cap) l) (hl : l.length ≤ 1000) :
    Calls Tryd.prog 23 #[.slice (some ⟨g, 0, none⟩) l.length cap, .func (.func 24) #[] #[]] w fun e w' =>
      e = .returned (.tuple #[]) ∧ OwnS ptc 2 w' 54 (.slice (some ⟨g, 0, none⟩) l.length cap) (l.mergeSort ptLe) ∧ Mod (fun x => x = g) w w' := by
  have eg : ∀ args w, (callFunc 24 args).run Tryd.prog w = .ok (.enter 24 args) w := enters_of Tryd.func24 (by kernel_rfl) rfl
  have hcon := AnyQ.slices_SortFunc_total Tryd.laysSortPoint 2 aggPt sizePt ptc ptc2 ptc1 ptCmp ptSwo 24 #[] g 0 cap l.toArray w eg (fun _ _ _ _ x y => closure1 x y _) (h.holds ptc2) h.lt (by simp; omega) ptTotal
  refine hcon.mono ?_
  rintro e w' ⟨he, n, os, rfl⟩
  have := h.sorted ptc2 (l' := l.mergeSort ptLe) (List.mergeSort_perm _ _).length_eq n os
  exact ⟨he, this.1, this.2⟩

set_option maxRecDepth 100000 in
set_option maxHeartbeats 1600000 in
theorem new_bad (n p : Int) (w : World) (h : n < 1 ∨ 8 < n ∨ p < 1 ∨ 64 < p) :
    Calls Tryd.prog 11 #[.int .i64 n, .int .i64 p] w fun x w' => x = .returned (.tuple #[tval 0 (List.replicate 16 0), .int .i64 1]) ∧ Below w.heap.size w w' := by
  have HH := Lib.hid h
  clear h
  unfold tval
  go_enter Tryd.func11, Tryd.ntmps11
  go_upto_region 1 with fail
  obtain ⟨B, hB⟩ : ∃ B, w.heap.size = B := ⟨_, rfl⟩
  generalize hW2 : w.alloc (.cells #[.int .i64 0, .int .i64 0, .int .i64 0, .int .i64 0, .int .i64 0, .int .i64 0, .int .i64 0, .int .i64 0, .int .i64 0, .int .i64 0, .int .i64 0, .int .i64 0, .int .i64 0, .int .i64 0, .int .i64 0, .int .i64 0, .int .i64 0] 24) = W2 at *
  rw [hB]
  have hr1 : W2.heap[B]? = some (.cells (tcells 0 (List.replicate 16 0)) 24 (0, 0)) := by
    rw [← hW2, ← hB, zeros16]
    exact block_new w _
  have hb2 : Below w.heap.size w W2 := by rw [← hW2]; exact (Below.refl _ w).alloc (Nat.le_refl _) _
  have HW := Lib.hid (And.intro hr1 (And.intro hb2 hB))
  clear hr1 hb2 hW2 hB
  go_wp2_with (first
    | (refine wpList_store_mid rfl 24 (.tmp 4) (.tmp 28) rfl B 0 (tcells 0 (List.replicate 16 0)) rfl rfl (there_block HW.out.1 (Nat.le_refl _)) (infoT' 0 (by simp)) (tcells_one _ _) ?_))
  all_goals first
    | (exfalso; have h := HH.out; omega)
    | (refine bodyPost_ret (results_cell2 Tryd.results11 _ _ B _ (tcells 0 (List.replicate 16 0)) _ _ (.int .i64 1) (by rfl) (by rfl) (setb HW.out.1 0 (by simp)) Tryd.underlying24 rfl (infoT' 0 (by simp))) rfl ⟨rfl, ?_⟩
       exact HW.out.2.1.trans ((Mod.setCells (S := fun x => x = B) (.inl rfl) _ 0 (Mod.refl _ W2)).to_below HW.out.2.1.size (fun x hx => by rw [show x = B from hx, HW.out.2.2]; exact Nat.le_refl _)))

theorem owner_at (n m s : Nat) {i : Nat} {x : Pt} (hi : from' (sorted n m) (slotAt s) = i) (hx : (sorted n m)[i % (sorted n m).length]? = some x) : ownerOf n m s = x.2 := by
  unfold ownerOf
  rw [hi, List.getD_eq_getElem?_getD, hx]
  rfl
/-- The owners of the slots below s; the others are still 0. -/
def upto (n m s : Nat) : List Int := (List.range s).map (ownerOf n m) ++ List.replicate (16 - s) 0
theorem upto_length {n m s : Nat} (h : s ≤ 16) : (upto n m s).length = 16 := by simp [upto]; omega
theorem upto_set {n m s : Nat} (h : s < 16) : (upto n m s).set s (ownerOf n m s) = upto n m (s + 1) := by
  unfold upto
  rw [List.range_succ, List.map_append, List.set_append_right _ _ (by simp), List.length_map, List.length_range, Nat.sub_self]
  have : List.replicate (16 - s) (0 : Int) = 0 :: List.replicate (16 - (s + 1)) 0 := by
    rw [show 16 - s = (16 - (s + 1)) + 1 by omega]
    rfl
  rw [this, List.append_assoc]
  rfl
theorem upto_all (n m : Nat) : upto n m 16 = owners n m := by simp [upto, owners]

set_option maxRecDepth 100000 in
set_option maxHeartbeats 4000000 in
theorem new_good (n p : Nat) (w : World) (hn1 : 1 ≤ n) (hn2 : n ≤ 8) (hp1 : 1 ≤ p) (hp2 : p ≤ 64) :
    Calls Tryd.prog 11 #[.int .i64 (n : Int), .int .i64 (p : Int)] w fun x w' => x = .returned (.tuple #[tval 0 (owners n p), .int .i64 0]) ∧ Below w.heap.size w w' := by
  obtain ⟨i0, hi, hz0, hz1, hz2⟩ := info_parts infoPt
  have q1 : ¬ (n : Int) < 1 := by omega
  have q2 : ¬ (8 : Int) < (n : Int) := by omega
  have q3 : ¬ (p : Int) < 1 := by omega
  have q4 : ¬ (64 : Int) < (p : Int) := by omega
  unfold tval
  go_enter Tryd.func11, Tryd.ntmps11
  go_upto_region 1 with fail
  obtain ⟨B, hB⟩ : ∃ B, w.heap.size = B := ⟨_, rfl⟩
  generalize hW2 : w.alloc (.cells #[.int .i64 0, .int .i64 0, .int .i64 0, .int .i64 0, .int .i64 0, .int .i64 0, .int .i64 0, .int .i64 0, .int .i64 0, .int .i64 0, .int .i64 0, .int .i64 0, .int .i64 0, .int .i64 0, .int .i64 0, .int .i64 0, .int .i64 0] 24) = W2 at *
  rw [hB]
  have hr1 : W2.heap[B]? = some (.cells (tcells 0 (List.replicate 16 0)) 24 (0, 0)) := by
    rw [← hW2, ← hB, zeros16]
    exact block_new w _
  have hb2 : Below w.heap.size w W2 := by rw [← hW2]; exact (Below.refl _ w).alloc (Nat.le_refl _) _
  have HW := Lib.hid (And.intro hr1 (And.intro hb2 hB))
  clear hr1 hb2 hW2 hB
  go_upto_block 0 with fail
  -- the points
  go_cut [6] (fun v wx => wx.ownsRow (B + 1) 54 2 v (allPts n p).length ((allPts n p).flatMap ptc) ∧ Mod (fun x => B + 1 ≤ x) W2 wx)
  case first =>
    go_wp2
    go_loopg [6, 30] n (fun g v i wx => ∃ a : Nat, a + g = n ∧ i = .int .i64 (a : Int) ∧ wx.ownsRow (B + 1) 54 2 v (allPts a p).length ((allPts a p).flatMap ptc) ∧ Mod (fun x => B + 1 ≤ x) W2 wx)
    case atStart => exact ⟨0, by omega, rfl, World.ownsRow_nil _ _ _ _, Mod.refl _ _⟩
    case round =>
      obtain ⟨a, hag, rfl, hown, hmod⟩ := hrel
      by_cases hg : gk = 0
      · have hk : ¬ ((a : Int) < (n : Int)) := by omega
        obtain rfl : a = n := by omega
        have HE := Lib.hid (And.intro hown hmod)
        clear hown hmod hag hg
        go_wp2
        go_meet
        exact HE.out
      have ha : (a : Int) < (n : Int) := by omega
      obtain ⟨wo, rfl⟩ : ∃ wo : World, wo = wr := ⟨_, rfl⟩
      have HO := Lib.hid (And.intro hown (And.intro hmod hag))
      clear hown hmod hag
      go_wp2
      go_loopg [6, 34] p (fun g v i wx => ∃ b : Nat, b + g = p ∧ i = .int .i64 (b : Int) ∧ wx.ownsRow (B + 1) 54 2 v (allPts a p ++ nodePts a b).length ((allPts a p ++ nodePts a b).flatMap ptc) ∧ Mod (fun x => B + 1 ≤ x) W2 wx)
      case atStart => exact ⟨0, by omega, rfl, by rw [show nodePts a 0 = [] from rfl, List.append_nil]; exact HO.out.1, HO.out.2.1⟩
      case round =>
        obtain ⟨b, hbg, rfl, hown, hmod⟩ := hrel
        by_cases hg2 : gk = 0
        · have hk : ¬ ((b : Int) < (p : Int)) := by omega
          obtain rfl : b = p := by omega
          rw [← allPts_succ] at hown
          have HE := Lib.hid (And.intro hown hmod)
          clear hown hmod hbg hg2
          go_wp2
          go_roundg (n - a - 1)
          case measure => have := HO.out.2.2; omega
          case rel => exact ⟨a + 1, by have := HO.out.2.2; omega, by go_num, HE.out⟩
        have hb : (b : Int) < (p : Int) := by omega
        have hlen : (allPts a p ++ nodePts a b).length ≤ 1000 := by
          rw [List.length_append, allPts_length, nodePts_length]
          have := Nat.mul_le_mul (show a ≤ 8 by omega) (show p ≤ 64 by omega)
          omega
        have s1 : (dec a).size ≤ 2 := dec_size (by omega)
        have s2 : (dec b).size ≤ 2 := dec_size (by omega)
        have s3 : ((⟨#[110, 111, 100, 101, 32]⟩ : ByteArray) ++ dec a).size ≤ 9 := by rw [append_size]; show 5 + _ ≤ 9; omega
        have s4 : ((⟨#[110, 111, 100, 101, 32]⟩ : ByteArray) ++ dec a ++ (⟨#[32, 112, 111, 105, 110, 116, 32]⟩ : ByteArray)).size ≤ 20 := by rw [append_size]; show _ + 7 ≤ 20; omega
        have HI := Lib.hid (And.intro hown (And.intro hmod hbg))
        clear hown hmod hbg
        go_wp2_with fail
        refine (itoa_any a (by omega) _).mono ?_
        rintro e w1 ⟨rfl, rfl⟩
        go_wp2_with fail
        refine (itoa_any b (by omega) _).mono ?_
        rintro e w1 ⟨rfl, rfl⟩
        go_wp2_with fail
        refine (hash_any (nodeT a b) (by have := nodeT_size (n := a) (p := b) (by omega) (by omega); omega) _).mono ?_
        rintro e w1 ⟨rfl, hm1, hz1'⟩
        have HZ := Lib.hid (And.intro (hm1.row HI.out.1 (fun _ _ h => h)) (And.intro (HI.out.2.1.trans hm1 (fun x h => h.elim)) (And.intro hz1' HI.out.2.1.size)))
        clear hm1 hz1'
        go_wp2_with (first
            | (at_builtin; refine wpList_append_own _ rfl _ _ 51 rfl (B + 1) 54 i0 (.agg #[.int .u32 0, .int .i64 0]) 2 16 Tryd.underlying51 hi hz0 hz1 hz2 rfl (by decide) _ _ _ rfl (HZ.out.1.alloc _) ⟨w1.heap.size, 0, none⟩ 1 1 [.int .u32 ((place (nodeT a b) : Nat) : Int), .int .i64 (a : Int)] rfl rfl ?c1 ?c2 ?c3 ?c4 ?c5 ?_))
        case c1 => exact cells_new w1 [.int .u32 ((place (nodeT a b) : Nat) : Int), .int .i64 (a : Int)] _
        case c2 =>
          intro u hu
          simp only [List.mem_cons, List.not_mem_nil, or_false] at hu
          rcases hu with rfl | rfl <;> rfl
        case c3 => unfold maxLen; omega
        case c4 => omega
        case c5 =>
          have h1 := lt_block HW.out.1
          have h2 := HZ.out.2.1.size
          rw [World.size_alloc]
          omega
        · intro v' w2 hown' hgrow _
          have HS := Lib.hid (And.intro hown' hgrow)
          clear hown' hgrow
          go_wp2
          go_roundg (gk - 1)
          case measure => have := HI.out.2.2; omega
          case rel =>
            refine ⟨b + 1, by have := HI.out.2.2; omega, by go_num, ?_, (HZ.out.2.1.alloc (.cells #[.int .u32 ((place (nodeT a b) : Nat) : Int), .int .i64 (a : Int)] 54)).trans (Mod.of_grown HS.out.2) (fun y hy => .inl ((HZ.out.1.lt y hy.symm).1))⟩
            have h := HS.out.1
            rw [← List.append_assoc, ← List.flatMap_append, ← List.length_append] at h
            rw [nodePts_succ, ← List.append_assoc, List.length_append, List.flatMap_append]
            exact h
  case rest =>
    obtain ⟨hown, hmod⟩ := hcut
    have hL : 1 ≤ (allPts n p).length ∧ (allPts n p).length ≤ 1000 := by
      rw [allPts_length]
      have h1 := Nat.mul_le_mul hn1 hp1
      have h2 := Nat.mul_le_mul hn2 hp2
      omega
    obtain ⟨g, cap, rfl⟩ : ∃ g cap, u6 = .slice (some ⟨g, 0, none⟩) (allPts n p).length cap := by
      rcases OwnS.form (own_lower hown (Nat.zero_le _)) with ⟨_, h2⟩ | ⟨g, cp, h1, _⟩
      · rw [h2] at hL; simp at hL
      · exact ⟨g, cp, h1⟩
    have hgB := hown.lt g rfl
    have HP := Lib.hid (And.intro hown (And.intro hmod hgB))
    clear hown hmod hgB
    go_wp2_with fail
    refine (sort_any (own_lower HP.out.1 (Nat.zero_le _)) hL.2).mono ?_
    rintro e w3 ⟨rfl, hS3, hm3⟩
    have hsl : (sorted n p).length = (allPts n p).length := (sorted_perm n p).length_eq
    obtain ⟨sl, hsd⟩ : ∃ sl, sorted n p = sl := ⟨_, rfl⟩
    rw [show (allPts n p).mergeSort ptLe = sl from hsd] at hS3
    rw [hsd] at hsl
    rw [← hsl] at hS3 hL ⊢
    have hm03 : Mod (fun x => B + 1 ≤ x) W2 w3 := HP.out.2.1.trans hm3 (fun x hx => .inl (by rw [show x = g from hx]; exact HP.out.2.2.1))
    have hg3 : g < w3.heap.size := Nat.lt_of_lt_of_le HP.out.2.2.2 hm3.size
    have H3 := Lib.hid (And.intro hS3 (And.intro hm03 (And.intro hg3 hsd)))
    clear hS3 hm3 hsl hm03 hg3 hsd
    go_upto_region 15 with fail
    obtain ⟨T, hT⟩ : ∃ T, w3.heap.size = T := ⟨_, rfl⟩
    generalize hW4 : w3.alloc (.cells #[.int .i64 0, .int .i64 0, .int .i64 0, .int .i64 0, .int .i64 0, .int .i64 0, .int .i64 0, .int .i64 0, .int .i64 0, .int .i64 0, .int .i64 0, .int .i64 0, .int .i64 0, .int .i64 0, .int .i64 0, .int .i64 0, .int .i64 0] 24) = W4 at *
    rw [hT]
    have hr4 : W4.heap[T]? = some (.cells (tcells 0 (upto n p 0)) 24 (0, 0)) := by
      rw [← hW4, ← hT, show upto n p 0 = List.replicate 16 0 from rfl, zeros16]
      exact block_new w3 _
    have hS4 : OwnS ptc 2 W4 54 (.slice (some ⟨g, 0, none⟩) sl.length cap) sl := by rw [← hW4]; exact H3.out.1.alloc _
    have hm4 : Mod (fun x => B + 1 ≤ x) W2 W4 := by rw [← hW4]; exact H3.out.2.1.alloc _
    have hgT : g < T ∧ B + 1 ≤ T := by
      have := H3.out.2.2.1
      have h1 := HP.out.2.2.1
      omega
    have H4 := Lib.hid (And.intro hr4 (And.intro hS4 (And.intro hm4 (And.intro hgT H3.out.2.2.2))))
    clear hr4 hS4 hm4 hgT hW4 hT
    go_wp2
    go_loopg [54] 16 (fun g2 i wx => ∃ s : Nat, s + g2 = 16 ∧ i = .int .i64 (s : Int) ∧ wx.heap[T]? = some (.cells (tcells 0 (upto n p s)) 24 (0, 0)) ∧ Mod (fun x => x = T ∨ W4.heap.size ≤ x) W4 wx)
    case atStart => exact ⟨0, by omega, rfl, H4.out.1, Mod.refl _ _⟩
    case round =>
      obtain ⟨s, hsg, rfl, hT, hmod⟩ := hrel
      by_cases hg : gk = 0
      · have hk : ¬ ((s : Int) < 16) := by omega
        obtain rfl : s = 16 := by omega
        have hB5 : wr.heap[B]? = some (.cells (tcells 0 (List.replicate 16 0)) 24 (0, 0)) :=
          hmod.old (H4.out.2.2.1.old HW.out.1 (by omega)) (fun hS => by
            have h1 := lt_block (H4.out.2.2.1.old HW.out.1 (by omega))
            have h2 := H4.out.2.2.2.1
            omega)
        rw [upto_all] at hT
        have hb5 : Below w.heap.size w wr := by
          have h1 := H4.out.2.2.2.1
          have h2 := HW.out.2.2
          have h3 := HW.out.2.1.trans (H4.out.2.2.1.to_below HW.out.2.1.size (fun x hx => by omega))
          exact h3.trans (hmod.to_below h3.size (fun x hx => by
            have := h3.size
            omega))
        have H5 := Lib.hid (And.intro hT (And.intro hB5 hb5))
        clear hT hB5 hb5 hmod hsg hg
        go_wp2_with (first
          | (refine wpList_load_row rfl 24 (.tmp 9) rfl T rfl _ (tcells 0 (owners n p)) _ _ H5.out.1 Tryd.underlying24 rfl (infoT' _ (owners_length n p)) ?_)
          | (refine wpList_store_mid rfl 24 (.tmp 4) (.tmp 79) rfl B 0 (tcells 0 (owners n p)) rfl rfl (there_block H5.out.2.1 (by rw [tcells_size (owners_length n p), tcells_size (by simp)]; exact Nat.le_refl _)) (infoT' _ (owners_length n p)) (tcells_one _ _) ?_))
        refine bodyPost_ret (results_cell2 Tryd.results11 _ _ B _ (tcells 0 (owners n p)) _ _ (.int .i64 0) (by rfl) (by rfl) (setb H5.out.2.1 _ (owners_length n p)) Tryd.underlying24 rfl (infoT' _ (owners_length n p))) rfl ⟨rfl, ?_⟩
        exact H5.out.2.2.trans ((Mod.setCells (S := fun x => x = B) (.inl rfl) _ 0 (Mod.refl _ wr)).to_below H5.out.2.2.size (fun x hx => by rw [show x = B from hx, HW.out.2.2]; exact Nat.le_refl _))
      have hs : (s : Int) < 16 := by omega
      have hs0 : (0 : Int) ≤ (s : Int) := by omega
      have s1 : (dec s).size ≤ 2 := dec_size (by omega)
      have HI := Lib.hid (And.intro hT (And.intro hmod hsg))
      clear hT hmod hsg
      go_wp2_with fail
      refine (itoa_any s (by omega) _).mono ?_
      rintro e w5 ⟨rfl, rfl⟩
      go_wp2_with fail
      refine (hash_any (slotT s) (by have := slotT_size (s := s) (by omega); omega) _).mono ?_
      rintro e w5 ⟨rfl, hm5, hz5⟩
      have hm45 : Mod (fun x => x = T ∨ W4.heap.size ≤ x) W4 w5 := HI.out.2.1.trans hm5 (fun x h => h.elim)
      have hS5 : OwnS ptc 2 w5 54 (.slice (some ⟨g, 0, none⟩) sl.length cap) sl := OwnS.mod H4.out.2.1 hm45 (fun x hx hS => by
        simp only [Value.ownBlock, Option.some.injEq] at hx
        have h2 := H4.out.2.2.2.1
        have h3 := lt_block H4.out.1
        omega)
      have hT5 := hm5.old HI.out.1 id
      have H5 := Lib.hid (And.intro hm45 (And.intro hS5 hT5))
      clear hm5 hz5 hm45 hS5 hT5
      go_wp2_with fail
      refine (bsearch_any H5.out.2.1 hL.2 ((place (slotT s) : Nat) : Int) (fun i j x y hij hx hy => by
        have h := H4.out.2.2.2.2
        rw [← h] at hx hy
        have := sorted_le n p hij hx hy
        omega)).mono ?_
      rintro e w6 ⟨i, b, rfl, hil, hlo, hhi, hb6⟩
      have hfrom : from' sl (slotAt s) = i := from_eq hil hlo hhi
      have hm6 : Mod (fun x => x = T ∨ W4.heap.size ≤ x) W4 w6 := H5.out.1.trans (Mod.of_below hb6 (fun _ => False)) (fun x h => h.elim)
      have hT6 := (Mod.of_below hb6 (fun _ => False)).old H5.out.2.2 id
      have hS6 : OwnS ptc 2 w6 54 (.slice (some ⟨g, 0, none⟩) sl.length cap) sl := OwnS.mod H5.out.2.1 (Mod.of_below hb6 (fun _ => False)) (fun _ _ h => h)
      obtain ⟨m, hm⟩ : ∃ m, i % sl.length = m := ⟨_, rfl⟩
      have hml : m < sl.length := by rw [← hm]; exact Nat.mod_lt _ (by omega)
      obtain ⟨x, hx⟩ : ∃ x, sl[m]? = some x := ⟨_, List.getElem?_eq_getElem hml⟩
      have y1 : w6.cell? ⟨g, m * 2 + 1, none⟩ = some (.int .i64 x.2) := OwnS.cell ptc2 hS6 hx (j := 1) (by omega) rfl
      have hmi : (i : Int) % (sl.length : Int) = (m : Int) := by rw [← hm]; rfl
      have hmi2 : (i : Int).tmod (sl.length : Int) = (m : Int) := by rw [Int.tmod_eq_emod_of_nonneg (by omega)]; exact hmi
      have ct : w6.cell? ⟨T, 1 + s, none⟩ = some (.int .i64 0) := cell_of hT6 (tcells_at 0 (by
        unfold upto
        rw [List.getElem?_append_right (by simp), List.length_map, List.length_range, Nat.sub_self, List.getElem?_replicate, if_pos (by omega)]))
      have cf := fun i => free_of (i := i) hT6
      have hTlt := lt_block hT6
      have how : ownerOf n p s = x.2 := owner_at n p s (i := i) (by rw [H4.out.2.2.2.2]; exact hfrom) (by rw [H4.out.2.2.2.2, hm]; exact hx)
      have H6 := Lib.hid (And.intro hm6 (And.intro hT6 how))
      clear hfrom hm6 hT6 hS6 hm hx how hlo hhi hb6 hil
      go_wp2
      go_roundg (gk - 1)
      case measure => have := HI.out.2.2; omega
      case rel =>
        obtain ⟨hm6, hT6, how⟩ := H6.out
        refine ⟨s + 1, by have := HI.out.2.2; omega, by go_num, ?_, hm6.setCell (p := ⟨T, 1 + s, none⟩) (.inl (.inl rfl)) _⟩
        have := block_setCell hT6 (i := 1 + s) (.int .i64 x.2)
        rw [tcells_set, ← how, upto_set (by omega)] at this
        rw [← how]
        exact this
end Go.Proofs.YtjccngahpafcaaaDoor.RingF
