/- The law WatchDoes of the watch, where what came in is of bulk at most 1048576: raw changes done to raw tuples, the rows : part 18 of 38: what it leans on. -/
import Derived.RangeFuncNested
import Derived.RangeFuncBound
import Derived.RangeFuncCalls
import Derived.RangeFuncLeaves
import Derived.RangeFuncBox
import Derived.Shelf.Abstract
import Derived.Shelf.RegionOpen
import Derived.OwnWalkIn
import Derived.TacticsInMore
import Derived.LoopNIn
import Derived.LoopIn
import Derived.Handy
import Derived.Test.YtobcakjlfdejjaaDoA
import Derived.Test.YtobcakjlfdejjaaDoB
import Derived.Test.YtobcakjlfdejjaaDoC
import Derived.Test.YtobcakjlfdejjaaDoD
import Derived.Test.YtobcakjlfdejjaaDoE
import Derived.Test.YtobcakjlfdejjaaDoF
import Derived.Test.YtobcakjlfdejjaaDoG
import Derived.Test.YtobcakjlfdejjaaDoH
import Derived.Test.YtobcakjlfdejjaaDoI
import Derived.Test.YtobcakjlfdejjaaDoJ
import Derived.Test.YtobcakjlfdejjaaDoK
import Derived.Test.YtobcakjlfdejjaaDoL
import Derived.Test.YtobcakjlfdejjaaDoM
import Derived.Test.YtobcakjlfdejjaaDoN
import Derived.Test.YtobcakjlfdejjaaDoO
import Derived.Test.YtobcakjlfdejjaaDoP
import Derived.Test.YtobcakjlfdejjaaDoQ
section
set_option linter.unusedVariables false
set_option linter.unusedSimpArgs false
namespace Go.Proofs.Ytobcakjlfdejjaa.Watch
open Go.RowKit Go.Por Go.Sort

theorem MapIs.own_ne {κ α : Type} {enc : κ → Value} {w : World} {M : Nat} {lm : List (κ × Value)} (h : MapIs w M enc lm) {f : α → List Value} {c : Nat} {E : TypeId} {v : Value} {l : List α} (ho : OwnS f c w E v l) : v.ownBlock ≠ some M := by
  obtain ⟨es, ck, h1, _⟩ := h
  rcases ho.form with ⟨rfl, _⟩ | ⟨g, cap, rfl, _, _⟩
  · simp [Value.ownBlock]
  · obtain ⟨cur, h2, _⟩ := ho.block
    intro e
    simp only [Value.ownBlock, Option.some.injEq] at e
    subst e
    rw [h1] at h2
    cases h2
theorem mv_filter (lm : List (Tup × Nat)) (t : Tup) : mv (lm.filter (fun p => decide (p.1 ≠ t))) = mdel (mv lm) t := by
  unfold mv mdel
  rw [List.filter_map]
  rfl
theorem mv_snoc (lm : List (Tup × Nat)) (t : Tup) (n : Nat) : mv lm ++ [(t, Value.int .i64 (n : Int))] = mv (lm ++ [(t, n)]) := by
  unfold mv
  rw [List.map_append]
  rfl
theorem zeroInt (w : World) : (zeroValue 3).run Try.prog w = .ok (.int .i64 0) w := by
  have h1 : Try.t3.zero = some (.int .i64 0) := by kernel_rfl
  simp [zeroValue, h1]
theorem room64 {a n : Nat} (h : a ≤ n) (h2 : (n + 1) * 64 ≤ 140737488355328) : (a + 1) * 64 ≤ 140737488355328 ∧ a + 1 ≤ maxLen ∧ a < 576460752303423488 := by
  have h1 : (a + 1) * 64 ≤ 140737488355328 := Nat.le_trans (Nat.mul_le_mul_right 64 (by omega)) h2
  have : a + 1 ≤ (a + 1) * 64 := Nat.le_mul_of_pos_right _ (by decide)
  unfold maxLen
  exact ⟨h1, by omega, by omega⟩

set_option maxRecDepth 100000 in
set_option maxHeartbeats 3200000 in
theorem rows_any {w : World} {v : Value} {cs : List Chg} (hr : ReadS chgC 5 w v cs) (hb : (cs.length + 1) * 64 ≤ 140737488355328) :
    Calls Try.prog 15 #[v] w fun e w' =>
      ∃ v' l, e = .returned v' ∧ Stab.Sorted (ltOf rcmp) l ∧ Stab.Stab (ltOf rcmp) (rowsF cs) l ∧ OwnS rowC 5 w' 39 v' l ∧ Below w.heap.size w w' ∧ ∀ k, v'.ownBlock = some k → w.heap.size ≤ k := by
  obtain ⟨ao, cap, rfl, hlen⟩ := hr.form
  obtain ⟨B, hB⟩ : ∃ B, w.heap.size = B := ⟨_, rfl⟩
  obtain ⟨n, hn⟩ : ∃ n, cs.length = n := ⟨_, rfl⟩
  rw [hn] at hr hlen hb ⊢
  have HH := Lib.hid (And.intro hr (And.intro hb (And.intro hlen (And.intro hB hn))))
  clear hr hb
  go_enter Try.func15, Try.ntmps15
  have hmm := @run_makeMap Try.prog
  go_wp2
  clear hmm
  have hM0 := MapIs.made w encT
  have hbel0 := (Below.refl B w).alloc (by omega) (.map #[] 0)
  have hB0 : (w.alloc (.map #[] 0)).heap.size = B + 1 := by simp [hB]
  rw [hB] at hM0
  generalize hW3 : w.alloc (.map #[] 0) = W3 at *
  have HW := Lib.hid (And.intro hM0 (And.intro hbel0 hB0))
  clear hM0 hbel0 hB0 hW3
  go_loopg [3, 12] n (fun gg sv vi wx => ∃ (t : Nat) (lm : List (Tup × Nat)), t + gg = n ∧ vi = .int .i64 (t : Int) ∧ OwnS rowC 5 wx 39 sv (rowsF (cs.take t)) ∧ MapIs wx B encT (mv lm) ∧ Told (rowsF (cs.take t)) lm ∧ Below B w wx ∧ B + 1 ≤ wx.heap.size ∧ ∀ k, sv.ownBlock = some k → B + 1 ≤ k)
  case atStart => exact ⟨0, [], by omega, rfl, OwnS.nil _ _ _ _, HW.out.1, fun t i => by simp [rowsF], HW.out.2.1, by rw [HW.out.2.2]; exact Nat.le_refl _, fun k h => by simp [Value.ownBlock] at h⟩
  case round =>
    obtain ⟨t, lm, htg, rfl, hown, hmap, htold, hbel, hsz, hwh⟩ := hrel
    have HI := Lib.hid (And.intro hown (And.intro hmap (And.intro htold (And.intro hbel (And.intro hsz (And.intro hwh htg))))))
    by_cases hc : t < n
    · obtain ⟨r, hx⟩ : ∃ r, cs[t]? = some r := ⟨_, List.getElem?_eq_getElem (by omega)⟩
      obtain ⟨b, o, rfl, hrange, hbl⟩ := HH.out.1.lt (by decide) chgC_len hx
      have hrange2 : wr.rangeAt b (o + t * 5) (chgC r) := range_below hrange hbel (by omega)
      obtain ⟨rev, del, x0, x1, x2⟩ := r
      have hci : (t : Int) < (n : Int) := by omega
      have hti : (t : Int) < 9223372036854775807 := by omega
      have HC := Lib.hid (And.intro hx (And.intro hrange2 (And.intro hc hbl)))
      clear hown hmap htold hbel hsz hwh htg hx hrange hrange2 hbl hc
      go_upto_region 6 with (first
        | (refine wpList_load_mid rfl 43 (.tmp 14) rfl b (o + t * 5) rfl (chgC (rev, del, x0, x1, x2)) _ HC.out.2.1 Try.underlying43 rfl infoC ?_; unfold chgC))
      obtain ⟨R, hR⟩ : ∃ R, wr.heap.size = R := ⟨_, rfl⟩
      have hRb := block_new wr (.cells #[.int .i64 rev, .bool del, .string x0, .string x1, .string x2] 43)
      rw [hR] at hRb ⊢
      obtain ⟨i1, i2, i3, i4, i5, i6, i7⟩ := HI.out
      have j1 : OwnS rowC 5 (wr.alloc (.cells #[.int .i64 rev, .bool del, .string x0, .string x1, .string x2] 43)) 39 u3 (rowsF (cs.take t)) := i1.mod (S := fun _ => False) ((Mod.refl _ wr).alloc _) (fun _ _ h => h)
      have j2 := i2.alloc (.cells #[.int .i64 rev, .bool del, .string x0, .string x1, .string x2] 43)
      have j4 := i4.alloc (by omega) (.cells #[.int .i64 rev, .bool del, .string x0, .string x1, .string x2] 43)
      have j5 : R + 1 = (wr.alloc (.cells #[.int .i64 rev, .bool del, .string x0, .string x1, .string x2] 43)).heap.size := by simp [hR]
      generalize hW4 : wr.alloc (.cells #[.int .i64 rev, .bool del, .string x0, .string x1, .string x2] 43) = W4 at *
      have c0 : W4.cell? ⟨R, 0, none⟩ = some (.int .i64 rev) := cell_of hRb rfl
      have c1 : W4.cell? ⟨R, 1, none⟩ = some (.bool del) := cell_of hRb rfl
      have c2 : W4.cell? ⟨R, 2, none⟩ = some (.string x0) := cell_of hRb rfl
      have c3 : W4.cell? ⟨R, 3, none⟩ = some (.string x1) := cell_of hRb rfl
      have c4 : W4.cell? ⟨R, 4, none⟩ = some (.string x2) := cell_of hRb rfl
      have hout := rowsF_succ cs t _ HC.out.1
      have hle : (rowsF (cs.take t)).length ≤ n := by
        have h1 := rowsF_le (cs.take t)
        have h2 := HH.out.2.2.2.2
        rw [List.length_take] at h1
        omega
      have hroom := room64 hle HH.out.2.1
      have hMR : B < R := by omega
      obtain ⟨O1, hO1⟩ : ∃ O1, rowsF (cs.take t) = O1 := ⟨_, rfl⟩
      rw [hO1] at i3 j1 hout hle hroom
      have hnd : (lm.map Prod.fst).Nodup := by
        obtain ⟨es, ck, _, _, hnd, _⟩ := j2
        rw [mv_fst] at hnd
        exact hnd
      have HJ := Lib.hid (And.intro j1 (And.intro j2 (And.intro j4 (And.intro (show B + 1 ≤ R by omega) (And.intro i6 (And.intro i7 (And.intro j5 (And.intro hroom (And.intro i3 (And.intro hnd hRb))))))))))
      clear i1 i2 i4 i5 i6 i7 j4 j5 hW4 hR hle hroom hO1 HI
      by_cases hk : (x0, x1, x2) ∈ lm.map Prod.fst
      · obtain ⟨⟨_, i⟩, hm, rfl⟩ := List.mem_map.1 hk
        have hit := i3.hit hnd hm
        have hlook := MapIs.look_hit keyTup Try.underlying69 j2 (mem_mv hm) true
        unfold encT tupC at hlook
        simp only [if_true] at hlook
        obtain ⟨rr, hrr, _, hr0⟩ := (i3 _ i).1 hm
        have hiO : i < O1.length := (List.getElem?_eq_some_iff.1 hrr).1
        cases del with
        | true =>
          have ho2 : stepR O1 (rev, true, x0, x1, x2) = shutAt O1 i rev := by unfold stepR; rw [hit]
          have HO := Lib.hid (And.intro (hout.trans ho2) (And.intro hrr (And.intro hm (And.intro hiO hr0))))
          clear hit hrr hr0 hk hout ho2 hnd i3 j2 hm
          rcases j1.form with ⟨_, h0⟩ | ⟨g, cap3, rfl, hc1, hc2⟩
          · rw [h0] at hiO; simp at hiO
          obtain ⟨n3, hn3⟩ : ∃ n3, O1.length = n3 := ⟨_, rfl⟩
          have hi0 : (0 : Int) ≤ (i : Int) := by omega
          have hin : (i : Int) < (n3 : Int) := by omega
          have hiw : IntKind.i64.wrap (i : Int) = (i : Int) := by
            have := HJ.out.2.2.2.2.2.2.2.1.2.2
            simp [IntKind.wrap, IntKind.bits, IntKind.signed]; omega
          rw [hn3] at j1
          rw [hn3]
          have hcell4 := OwnS.cell (f := rowC) rowC_len' j1 HO.out.2.1 (j := 4) (u := .int .i64 rr.2.2) (by decide) rfl
          have hfree := OwnS.free j1 (i * 5 + 4)
          have HL := Lib.hid (And.intro j1 hn3)
          have hRb2 := hRb
          clear hiO hn3 hc1 hc2 j1 hRb
          have hrel0 := HJ.out.2.1
          have hgne : g ≠ B := fun e => by
            subst e
            exact (MapIs.own_ne HJ.out.2.1 HJ.out.1) rfl
          by_cases hz : rev = 0
          · have q : (rev != 0) = false := by simp [hz]
            have HZ := Lib.hid (And.intro hz hgne)
            clear hz hgne hrel0
            go_wp2
            go_roundg (gk - 1)
            case measure => have h1 := HJ.out; have h2 := HC.out; omega
            case rel =>
              obtain ⟨j1, j2, j3, j4, j5, j6, j7, j8, j9, j10, j11⟩ := HJ.out
              obtain ⟨o1, o2, o3, o4, o5⟩ := HO.out
              obtain ⟨l1, l2⟩ := HL.out
              have h2 := HC.out
              have hz := HZ.out.1
              have hO2 : shutAt O1 i rev = O1 := by rw [hz]; exact j9.zero o3
              have hsame : OwnS rowC 5 (W4.setCell ⟨g, i * 5 + 4, none⟩ (.int .i64 rev)) 39 (.slice (some ⟨g, 0, none⟩) n3 cap3) (O1.set i (rr.1, rr.2.1, rev)) := OwnS.set rowC_len' l1 o2 (j := 4) (by decide) rfl
              rw [← shutAt_some o2, hO2] at hsame
              exact ⟨t + 1, lm, by omega, by go_num, by rw [o1, hO2]; exact hsame, j2.setCell _ HZ.out.2, by rw [o1, hO2]; exact j9, j3.trans (((Mod.refl (fun x => x = g) W4).setCell (p := ⟨g, i * 5 + 4, none⟩) (.inl rfl) (.int .i64 rev)).to_below (by omega) (fun k hk => by have := j5 g rfl; rw [hk]; omega)), by simp only [World.size_setCell]; omega, j5⟩
          · have q : (rev != 0) = true := by rw [bne_iff_ne]; exact hz
            have hm5 : MapIs (W4.setCell ⟨g, i * 5 + 4, none⟩ (.int .i64 rev)) B encT (mv lm) := hrel0.setCell (a := ⟨g, i * 5 + 4, none⟩) (.int .i64 rev) hgne
            obtain ⟨od, hdel, hmd⟩ := hm5.delete (ty := 0) (t2 := 37) keyTup Try.underlying69 (x0, x1, x2)
            unfold encT tupC at hdel
            have hgR : ¬ g = R := fun e => by
              subst e
              exact own_ne HL.out.1 hRb2 (by decide) rfl
            have hRg : ¬ R = g := fun e => hgR e.symm
            have HZ := Lib.hid (And.intro hz (And.intro hgne hmd))
            clear hz hgne hm5 hmd hrel0 hRb2
            go_upto_region 10 with fail
            clear hlook
            go_wp2
            go_roundg (gk - 1)
            case measure => have h1 := HJ.out; have h2 := HC.out; omega
            case rel =>
              obtain ⟨j1, j2, j3, j4, j5, j6, j7, j8, j9, j10, j11⟩ := HJ.out
              obtain ⟨o1, o2, o3, o4, o5⟩ := HO.out
              obtain ⟨l1, l2⟩ := HL.out
              have h2 := HC.out
              obtain ⟨hz, hgne, hmd⟩ := HZ.out
              have hs := OwnS.set rowC_len' l1 o2 (j := 4) (u := .int .i64 rev) (y := (rr.1, rr.2.1, rev)) (by decide) rfl
              rw [← shutAt_some o2] at hs
              have hs2 := hs.mod (setB_mod (W4.setCell ⟨g, i * 5 + 4, none⟩ (.int .i64 rev)) B od) (fun k hk e => by
                simp only [Value.ownBlock, Option.some.injEq] at hk
                exact hgne (hk.trans e))
              have hb1 := ((Mod.refl (fun x => x = g) W4).setCell (p := ⟨g, i * 5 + 4, none⟩) (.inl rfl) (.int .i64 rev)).to_below (B := B) (by omega) (fun k hk => by have := j5 g rfl; rw [hk]; omega)
              have hb2 := (setB_mod (W4.setCell ⟨g, i * 5 + 4, none⟩ (.int .i64 rev)) B od).to_below (B := B) (by simp only [World.size_setCell]; omega) (fun k hk => by rw [hk]; exact Nat.le_refl _)
              have hsz := (setB_mod (W4.setCell ⟨g, i * 5 + 4, none⟩ (.int .i64 rev)) B od).size
              simp only [World.size_setCell] at hsz
              refine ⟨t + 1, lm.filter (fun p => decide (p.1 ≠ (x0, x1, x2))), by omega, by go_num, by rw [o1]; exact hs2, ?_, by rw [o1]; exact j9.shut j10 o3 hz, (j3.trans hb1).trans hb2, by omega, j5⟩
              rw [mv_filter]
              exact hmd
        | false =>
          have ho2 : stepR O1 (rev, false, x0, x1, x2) = O1 := by unfold stepR; rw [hit]
          have HO := Lib.hid (hout.trans ho2)
          clear hit hrr hr0 hk hout ho2 hnd i3 j2 hm hiO j1 hRb
          go_wp2
          go_roundg (gk - 1)
          case measure => have h1 := HJ.out; have h2 := HC.out; omega
          case rel =>
            obtain ⟨j1, j2, j3, j4, j5, j6, j7, j8, j9, j10, j11⟩ := HJ.out
            have h2 := HC.out
            exact ⟨t + 1, lm, by omega, by go_num, by rw [HO.out]; exact j1, j2, by rw [HO.out]; exact j9, j3, by omega, j5⟩
      · have hmiss := i3.miss hk
        have hlook := MapIs.look_miss keyTup Try.underlying69 j2 (k := (x0, x1, x2)) (by rw [mv_fst]; exact hk) (zeroInt W4) true
        unfold encT tupC at hlook
        simp only [if_true] at hlook
        cases del with
        | true =>
          have ho2 : stepR O1 (rev, true, x0, x1, x2) = O1 := by unfold stepR; rw [hmiss]
          have HO := Lib.hid (hout.trans ho2)
          clear hmiss hk hout ho2 hnd i3 j2 j1 hRb
          go_wp2
          go_roundg (gk - 1)
          case measure => have h1 := HJ.out; have h2 := HC.out; omega
          case rel =>
            obtain ⟨j1, j2, j3, j4, j5, j6, j7, j8, j9, j10, j11⟩ := HJ.out
            have h2 := HC.out
            exact ⟨t + 1, lm, by omega, by go_num, by rw [HO.out]; exact j1, j2, by rw [HO.out]; exact j9, j3, by omega, j5⟩
        | false =>
          have ho2 : stepR O1 (rev, false, x0, x1, x2) = O1 ++ [((x0, x1, x2), rev, 0)] := by unfold stepR; rw [hmiss]
          have HO := Lib.hid (And.intro (hout.trans ho2) hk)
          obtain ⟨ao3, n3, cap3, rfl, hn3⟩ := j1.sl
          have hn3b : (n3 : Int) < 9223372036854775807 := by have := HJ.out.2.2.2.2.2.2.2.1.2.2; omega
          obtain ⟨W5, hst, hmap5, hm5⟩ : ∃ W5, (Instr.mapUpdate 69 (.map (some B)) (encT (x0, x1, x2)) (.int .i64 (n3 : Int))).run Try.prog W4 = .ok () W5 ∧ MapIs W5 B encT (mput (mv lm) (x0, x1, x2) (.int .i64 (n3 : Int))) ∧ Mod (fun x => x = B) W4 W5 := by
            obtain ⟨od, h1, h2⟩ := j2.store keyTup Try.underlying69 (x0, x1, x2) (.int .i64 (n3 : Int))
            exact ⟨_, h1, h2, setB_mod _ _ _⟩
          unfold encT tupC at hst
          have hown5 : OwnS rowC 5 W5 39 (.slice ao3 n3 cap3) O1 := j1.mod hm5 (fun k hk e => MapIs.own_ne j2 j1 (by rw [hk, show k = B from e]))
          have hR5 := hm5.old hRb (fun e => by omega)
          have d0 : W5.cell? ⟨R, 0, none⟩ = some (.int .i64 rev) := cell_of hR5 rfl
          have d2 : W5.cell? ⟨R, 2, none⟩ = some (.string x0) := cell_of hR5 rfl
          have d3 : W5.cell? ⟨R, 3, none⟩ = some (.string x1) := cell_of hR5 rfl
          have d4 : W5.cell? ⟨R, 4, none⟩ = some (.string x2) := cell_of hR5 rfl
          have HL := Lib.hid (And.intro hown5 (And.intro hmap5 (And.intro hm5 hn3)))
          clear hmiss hk hout ho2 hnd i3 j2 j1 hRb hown5 hmap5 hm5 hR5 hn3
          go_wp2_with (first
            | (at_builtin; refine wpList_push elemRow rfl _ _ rfl rfl (OwnS.mod HL.out.1 ((Mod.refl (fun _ => False) W5).alloc _) (fun _ _ h => h)) W5.heap.size ((x0, x1, x2), rev, 0) rfl (block_new _ _) HJ.out.2.2.2.2.2.2.2.1.1 HJ.out.2.2.2.2.2.2.2.1.2.1 ?_))
          intro v' w' hown' hm' hb'
          have HK := Lib.hid (And.intro hown' (And.intro hm' hb'))
          clear hown' hm' hb'
          go_wp2
          go_roundg (gk - 1)
          case measure => have h1 := HJ.out; have h2 := HC.out; omega
          case rel =>
            obtain ⟨j1, j2, j3, j4, j5, j6, j7, j8, j9, j10, j11⟩ := HJ.out
            obtain ⟨o1, o2⟩ := HO.out
            obtain ⟨l1, l2, l3, l4⟩ := HL.out
            obtain ⟨k1, k2, k3⟩ := HK.out
            have h2 := HC.out
            have hs1 := l3.size
            have hs2 := k2.size
            simp only [World.size_alloc] at hs2
            have hb1 : Below B W4 W5 := l3.to_below (by omega) (fun k hk => by rw [show k = B from hk]; exact Nat.le_refl _)
            have hmB : MapIs w' B encT (mput (mv lm) (x0, x1, x2) (.int .i64 (n3 : Int))) := (l2.alloc _).mod k2 (fun e => MapIs.own_ne l2 l1 e.symm)
            rw [mput, if_neg (by rw [mv_fst]; exact o2), mv_snoc, ← l4] at hmB
            have ht := j9.new o2 rev
            refine ⟨t + 1, _, by omega, by go_num, by rw [o1]; exact k1, hmB, by rw [o1]; exact ht, ((j3.trans hb1).alloc (by omega) _).trans (k2.to_below (by simp only [World.size_alloc]; omega) (fun k hk => by have := j5 k hk.symm; omega)), by omega, fun k hk => by
              rcases k3 k hk with h | h
              · exact j5 k h
              · omega⟩
    · have hci : ¬ (t : Int) < (n : Int) := by omega
      have HC := Lib.hid hc
      clear hown hmap htold hbel hsz hwh htg hc
      go_wp2_with fail
      obtain ⟨i1, i2, i3, i4, i5, i6, i7⟩ := HI.out
      have hcc := HC.out
      have ht : cs.take t = cs := List.take_of_length_le (by omega)
      rw [ht] at i1
      have hle : (rowsF cs).length ≤ n := by have h1 := rowsF_le cs; omega
      refine (sortStable_row i1 (room64 hle HH.out.2.1).2.2).mono ?_
      rintro e w5 ⟨rfl, l, hs, hst, hown5, hm5⟩
      have k3 : Below B wr w5 := hm5.to_below (by omega) (fun k hk => by have := i6 k hk.symm; omega)
      have HK := Lib.hid (And.intro hs (And.intro hst (And.intro hown5 (And.intro (i4.trans k3) i6))))
      clear hs hst hown5 hm5 k3 i1 i2 i3 i4 i5 i6 i7 hcc ht hle
      go_wp2
      go_ret
      obtain ⟨h1, h2, h3, h4, h5⟩ := HK.out
      exact ⟨u3, l, rfl, h1, h2, h3, by rw [hB]; exact h4, fun k hk => by have := h5 k hk; omega⟩
end Go.Proofs.Ytobcakjlfdejjaa.Watch
end
section
set_option linter.unusedVariables false
set_option linter.unusedSimpArgs false
namespace Go.Proofs.Ytobcakjlfdejjaa.Back
open Go.RowKit Go.Por Go.Sort Go.Shelf Go.Proofs.Ytobcakjlfdejjaa.Watch

attribute [local go_sem] Oper.semAt_some

/-- What has come behind k rounds: from the last on. -/
def upto (l : List Chg) (k : Nat) : List (Nat × Chg) := (List.range k).map (fun j => (l.length - 1 - j, (l[l.length - 1 - j]?).getD (0, false, ByteArray.empty, ByteArray.empty, ByteArray.empty)))
theorem upto_succ (l : List Chg) (k : Nat) : upto l (k + 1) = upto l k ++ [(l.length - 1 - k, (l[l.length - 1 - k]?).getD (0, false, ByteArray.empty, ByteArray.empty, ByteArray.empty))] := by simp [upto, List.range_succ]
theorem upto_length (l : List Chg) (k : Nat) : (upto l k).length = k := by simp [upto]
theorem upto_snd (l : List Chg) : ∀ k, k ≤ l.length → (upto l k).map Prod.snd = l.reverse.take k
  | 0, _ => by simp [upto]
  | k + 1, h => by
    rw [upto_succ, List.map_append, upto_snd l k (by omega), List.take_add_one]
    congr 1
    rw [List.getElem?_reverse (by omega)]
    have hi : l.length - 1 - k < l.length := by omega
    rw [List.getElem?_eq_getElem hi]
    rfl
/-- What lay below n₀, and block Bs, lie as they lay. -/
def KB (n₀ Bs : Nat) (A B : World) : Prop := Below n₀ A B ∧ B.heap[Bs]? = A.heap[Bs]?
theorem KB.refl (n₀ Bs : Nat) (A : World) : KB n₀ Bs A A := ⟨Below.refl _ _, rfl⟩
theorem KB.trans {n₀ Bs : Nat} {A B C : World} (h : KB n₀ Bs A B) (k : KB n₀ Bs B C) : KB n₀ Bs A C := ⟨h.1.trans k.1, k.2.trans h.2⟩
def encP (x : Nat × Chg) : Array Value := #[.int .i64 (x.1 : Int), .agg (chgC x.2).toArray]

set_option maxRecDepth 100000 in
set_option maxHeartbeats 2000000 in
theorem back1_in (F : Fence) (n : Nat) (hf : F.fn 53) (hro : F.round = none) (hn : 1 ≤ n) (l Bs n₀ b off len cap : Nat) (cs : List Chg) (hlen : cs.length = len) (hl63 : len < 4611686018427387904) (hb : b < n₀) (J Jx : List (Nat × Chg) → World → Prop)
    (hY : ∀ pre x W, J pre W → pre.length < len → YieldAt F (n - 1) Try.prog l (encP x) W fun e W' =>
      (e = .returned (.bool true) ∧ J (pre ++ [x]) W' ∧ KB n₀ Bs W W') ∨ (e = .returned (.bool false) ∧ Jx (pre ++ [x]) W'))
    (W : World) (hBc : W.cell? ⟨Bs, 0, none⟩ = some (.slice (some ⟨b, off, none⟩) len cap)) (hc : ∀ i x, cs[i]? = some x → W.rangeAt b (off + i * 5) (chgC x)) (h0 : J [] W) :
    CallsIn F n Try.prog 53 #[.func (.yield l) #[] #[], .pointer (some ⟨Bs, 0, none⟩)] W fun e W' => (∃ v, e = .returned v) ∧
      ((∃ ys, ys = upto cs len ∧ J ys W') ∨ (∃ pre, (∃ k, k ≤ len ∧ pre = upto cs k) ∧ Jx pre W')) := by
  refine callsIn_of_wp Try.func53 rfl hf ?_ hro
  simp only [Try.ntmps53, List.size_toArray, List.length_cons, List.length_nil, Nat.reduceAdd, Nat.reduceSub, Array.replicate_succ, Array.replicate_zero, List.push_toArray, List.append_toArray, List.nil_append, List.cons_append]
  gi_wp2
  gi_loopw [3] (fun i wr => ∃ k : Nat, k ≤ len ∧ i = .int .i64 ((len : Int) - 1 - (k : Int)) ∧ J (upto cs k) wr ∧ KB n₀ Bs W wr)
    (fun i _ => (intOf i + 1).toNat)
  case atStart => exact ⟨0, Nat.zero_le _, by simp, h0, KB.refl _ _ _⟩
  case round =>
    obtain ⟨k, hk, rfl, hJs, hnx⟩ := hrel
    by_cases hlt : k < len
    · obtain ⟨p, hp⟩ : ∃ p, len - 1 - k = p := ⟨_, rfl⟩
      have hpi : (len : Int) - 1 - (k : Int) = (p : Int) := by omega
      obtain ⟨x, hx⟩ : ∃ x, cs[p]? = some x := ⟨_, List.getElem?_eq_getElem (by omega)⟩
      have hup : upto cs (k + 1) = upto cs k ++ [(p, x)] := by rw [upto_succ, hlen, hp, hx]; rfl
      obtain ⟨fn, tmps, assign, body, hy, hR⟩ := hY _ (p, x) wr hJs (by rw [upto_length]; exact hlt)
      have hrng := hc p x hx
      obtain ⟨rev, del, x0, x1, x2⟩ := x
      simp only [encP, chgC] at hy
      have hq : ∀ j u, (chgC (rev, del, x0, x1, x2))[j]? = some u → wr.cell? ⟨b, off + p * 5 + j, none⟩ = some u := fun j u hu => (hnx.1.cell (p := ⟨b, _, none⟩) hb).trans (hrng j u hu)
      have q0 : wr.cell? ⟨b, off + p * 5, none⟩ = some (.int .i64 rev) := hq 0 _ rfl
      have q1 : wr.cell? ⟨b, off + p * 5 + 1, none⟩ = some (.bool del) := hq 1 _ rfl
      have q2 : wr.cell? ⟨b, off + p * 5 + 2, none⟩ = some (.string x0) := hq 2 _ rfl
      have q3 : wr.cell? ⟨b, off + p * 5 + 3, none⟩ = some (.string x1) := hq 3 _ rfl
      have q4 : wr.cell? ⟨b, off + p * 5 + 4, none⟩ = some (.string x2) := hq 4 _ rfl
      have qB : wr.cell? ⟨Bs, 0, none⟩ = some (.slice (some ⟨b, off, none⟩) len cap) := (World.cell?_of_block (w := W) (w' := wr) (a := ⟨Bs, 0, none⟩) hnx.2).trans hBc
      have p0 : (0 : Int) ≤ (p : Int) := by omega
      have p1 : (p : Int) < (len : Int) := by omega
      have p2 : (p : Int) < 4611686018427387904 := by omega
      rw [hpi]
      clear hq hrng
      gi_wp2
      refine hR.mono ?_
      rintro e W3 (⟨rfl, hJ3, hk3⟩ | ⟨rfl, hJx3⟩)
      · gi_wp2
        go_roundw
        case rel => exact ⟨k + 1, by omega, by congr 1; omega, by rw [hup]; exact hJ3, hnx.trans hk3⟩
        case measure => simp only [intOf]; omega
      · gi_wp2
        refine bodyPost_ret (results_none rfl _ _ _) rfl ?_
        exact ⟨⟨_, rfl⟩, .inr ⟨_, ⟨k + 1, by omega, hup.symm⟩, hJx3⟩⟩
    · obtain rfl : k = len := by omega
      have hneg : ¬ (0 : Int) ≤ (k : Int) - 1 - (k : Int) := by omega
      gi_wp2
      go_end0
      exact ⟨⟨_, rfl⟩, .inl hJs⟩

set_option maxRecDepth 100000 in
set_option maxHeartbeats 1000000 in
theorem back1_nil_in (F : Fence) (n : Nat) (hf : F.fn 53) (hro : F.round = none) (l Bs : Nat) (ao : Option Addr) (cap : Nat) (J : List (Nat × Chg) → World → Prop) (W : World) (hBs : W.cell? ⟨Bs, 0, none⟩ = some (.slice ao 0 cap)) (h0 : J [] W) :
    CallsIn F n Try.prog 53 #[.func (.yield l) #[] #[], .pointer (some ⟨Bs, 0, none⟩)] W fun e W' => (∃ v, e = .returned v) ∧ J [] W' := by
  refine callsIn_of_wp Try.func53 rfl hf ?_ hro
  simp only [Try.ntmps53, List.size_toArray, List.length_cons, List.length_nil, Nat.reduceAdd, Nat.reduceSub, Array.replicate_succ, Array.replicate_zero, List.push_toArray, List.append_toArray, List.nil_append, List.cons_append]
  gi_wp2
  gi_loopw [3] (fun i wr => i = .int .i64 (-1) ∧ J [] wr) (fun _ _ => 0)
  case atStart => exact ⟨rfl, h0⟩
  case round =>
    obtain ⟨rfl, hJs⟩ := hrel
    gi_wp2
    go_end0
    exact ⟨⟨_, rfl⟩, hJs⟩

set_option maxHeartbeats 1000000 in
theorem backward_in (F : Fence) (n : Nat) (hf : F.fn 39) (hro : F.round = none) (a : Option Addr) (len cap : Nat) (w : World) :
    CallsIn F n Try.prog 39 #[.slice a len cap] w fun e w' => e = .returned (.func (.func 53) #[] #[.pointer (some ⟨w.heap.size, 0, none⟩)]) ∧ w' = w.alloc (.cells #[.slice a len cap] 25) := by
  refine callsIn_of_wp Try.func39 rfl hf ?_ hro
  simp only [Try.ntmps39, List.size_toArray, List.length_cons, List.length_nil, Nat.reduceAdd, Nat.reduceSub, Array.replicate_succ, Array.replicate_zero, List.push_toArray, List.append_toArray, List.nil_append, List.cons_append]
  gi_wp2
  go_ret
  exact ⟨rfl, rfl⟩

/-- slices.Backward(s) hands back a value that stops: all of s, the last first. -/
theorem back_stops (F : Fence) (n : Nat) (hf : F.fn 53) (hro : F.round = none) (hn : 1 ≤ n) (Bs n₀ : Nat) (sv : Value) (cs : List Chg) (w : World) (hl63 : cs.length < 4611686018427387904) (hBn : Bs < w.heap.size) (hn₀ : n₀ ≤ w.heap.size)
    (hc : w.cell? ⟨Bs, 0, none⟩ = some sv) (hI : ReadS chgC 5 w sv cs) (hlt : ∀ b o m c, sv = .slice (some ⟨b, o, none⟩) m c → 0 < cs.length → b < n₀) :
    SeqStopsK F n Try.prog 53 #[.pointer (some ⟨Bs, 0, none⟩)] encP (KB n₀ Bs) (fun ys => ys.map Prod.snd = cs.reverse) (fun pre => ∃ k, k ≤ cs.length ∧ pre = upto cs k) cs.length w := fun l J Jx W hW _ _ hY h0 => by
  have hc' := (hW.cell (p := ⟨Bs, 0, none⟩) (by show Bs < w.heap.size; omega)).trans hc
  obtain ⟨ao, cap, rfl, _⟩ := hI.form
  by_cases h0l : cs.length = 0
  · have e := List.length_eq_zero_iff.1 h0l
    subst e
    exact (back1_nil_in F n hf hro l Bs ao cap J W hc' h0).mono fun e W' ⟨he, hj⟩ => ⟨he, .inl ⟨_, rfl, hj⟩⟩
  · obtain ⟨x0, hx0⟩ : ∃ x, cs[0]? = some x := ⟨_, List.getElem?_eq_getElem (by omega)⟩
    obtain ⟨b, o, rfl, _⟩ := hI.at hx0
    have hbn := hlt b o _ _ rfl (by omega)
    refine (back1_in F n hf hro hn l Bs n₀ b o cs.length cap cs rfl hl63 hbn J Jx hY W hc' (fun i x hx => ?_) h0).mono ?_
    · obtain ⟨b2, o2, e2, hr⟩ := hI.at hx
      cases e2
      exact range_below hr hW (by omega)
    · rintro e W' ⟨he, ⟨ys, rfl, hj⟩ | ⟨pre, ⟨k, hk, rfl⟩, hj⟩⟩
      · exact ⟨he, .inl ⟨_, by show (upto cs cs.length).map Prod.snd = cs.reverse; rw [upto_snd cs _ (Nat.le_refl _)]; exact List.take_of_length_le (by simp), hj⟩⟩
      · exact ⟨he, .inr ⟨_, ⟨k, hk, rfl⟩, hj⟩⟩
end Go.Proofs.Ytobcakjlfdejjaa.Back
end
section
set_option linter.unusedVariables false
set_option linter.unusedSimpArgs false
namespace Go.Proofs.Ytobcakjlfdejjaa.Back
open Go.RowKit Go.Por Go.Sort Go.Shelf Go.Proofs.Ytobcakjlfdejjaa.Watch

attribute [local go_sem] Oper.semAt_some

theorem wpListIn_push {F : Fence} {n : Nat} {P : Program} {α : Type} {t E : TypeId} {f : α → List Value} {c bytes : Nat} {w : World} {v : Value} {l : List α} {ops : Array Oper} {rest : List Oper} {o : Oper} {a : Act} {Q : Exit → Act → World → Prop} (H : Elem P t E f c bytes) (hgd : o.guard = none) (s x0 : Operand)
    (ho : o.op = .call { callee := .builtin .append, args := #[s, x0], argTypes := #[t, t] }) (hs : a.eval s = v) (hown : OwnS f c w E v l) (B : Nat) (x : α) (hx : a.eval x0 = .slice (some ⟨B, 0, none⟩) 1 1)
    (hB : w.heap[B]? = some (.cells (f x).toArray E (0, 0))) (hb : (l.length + 1) * bytes ≤ 140737488355328) (h63 : l.length + 1 ≤ maxLen)
    (h : ∀ v' w', OwnS f c w' E v' (l ++ [x]) → Mod (fun k => some k = v.ownBlock) w w' → (∀ k, v'.ownBlock = some k → v.ownBlock = some k ∨ w.heap.size ≤ k) → wpListIn F n P ops Q rest (a.put o.dst v') w') : wpListIn F n P ops Q (o :: rest) a w := by
  refine wpListIn_plain hgd fun K hK' => ?_
  obtain ⟨v', w', hrun, r1, r2, r3⟩ := run_push H o.type hown hB hb h63
  unfold Oper.wpIn
  refine ⟨?_, ?_⟩
  · simp [Oper.about, ho, resolve, Target.leads, Sem.run_pure]
  · rw [Oper.semAt_plain F _ _ (by rw [ho]; intro c hc'; cases hc')]
    simp [execOp, ho, resolve, invoke, builtin, hs, hx, hrun, Result.andThen]
    exact hK' _ _ (h v' w' r1 r2 r3)
/-- A change undone. -/
def flipC (c : Chg) : Chg := (c.1, !c.2.1, c.2.2)
def backL (cs : List Chg) : List Chg := cs.reverse.map flipC
def Iv (w : World) (O : Nat) (pre : List (Nat × Chg)) (W : World) : Prop := ∃ v, BoxC W O v (pre.map (fun p => flipC p.2)) ∧ (∀ k, v.ownBlock = some k → O + 2 ≤ k) ∧ Below O w W ∧ O + 2 ≤ W.heap.size
theorem own_cells {α : Type} {f : α → List Value} {c : Nat} {w : World} {E : TypeId} {v : Value} {l : List α} (h : OwnS f c w E v l) {k : Nat} (hk : v.ownBlock = some k) {o : Obj} (ho : w.heap[k]? = some o) (hc : o.isCells = false) : False := by
  rcases h.form with ⟨rfl, _⟩ | ⟨g, cap, rfl, _, _⟩
  · simp [Value.ownBlock] at hk
  · obtain ⟨cur, h1, _⟩ := h.block
    simp only [Value.ownBlock, Option.some.injEq] at hk
    subst hk
    rw [h1] at ho
    cases ho
    simp [Obj.isCells] at hc
theorem own_lt {α : Type} {f : α → List Value} {c : Nat} {w : World} {E : TypeId} {v : Value} {l : List α} (h : OwnS f c w E v l) {k : Nat} (hk : v.ownBlock = some k) : k < w.heap.size := by
  rcases h.form with ⟨rfl, _⟩ | ⟨g, cap, rfl, _, _⟩
  · simp [Value.ownBlock] at hk
  · simp only [Value.ownBlock, Option.some.injEq] at hk
    rw [← hk]
    exact h.lt
theorem Iv_own (w : World) (O : Nat) : OwnFrom (O + 2) (Iv w O) := by
  rintro s A B row ⟨v, hb, hv, hbel, hsz⟩ hg hr
  have hne : row ≠ some O := fun e => by have := (hr O e).1; omega
  refine ⟨v, ⟨(hg.block O (lt_block hb.box) (fun e => hne e.symm)).trans hb.box, hb.own.mod (Mod.of_grown hg) (fun k hk e => ?_)⟩, hv, hbel.trans ((Mod.of_grown hg).to_below (by omega) (fun k e => by have := (hr k e.symm).1; omega)), by have := hg.size; omega⟩
  obtain ⟨_, o, ho, hc⟩ := hr k e.symm
  exact own_cells hb.own hk ho hc
theorem keepsFrom_mod {S : Nat → Prop} {W W' : World} (B : Nat) (hm : Mod S W W') (hS : ∀ k o, S k → W.heap[k]? = some o → o.isCells = true) : KeepsFrom B W W' :=
  ⟨hm.size, fun k o _ hk ho => (hm.block k (lt_block hk) (fun h => by rw [hS k o h hk] at ho; cases ho)).trans hk⟩

set_option maxRecDepth 100000 in
set_option maxHeartbeats 4000000 in
theorem back_in (F : Fence) (n : Nat) (hf0 : F.fn 16) (hf1 : F.fn 39) (hf2 : F.fn 53) (hro : F.round = none) (hn : 6 ≤ n) {w : World} {v : Value} {cs : List Chg} (hr : ReadS chgC 5 w v cs) (hb : (cs.length + 1) * 64 ≤ 140737488355328) :
    CallsIn F n Try.prog 16 #[v] w fun e W' => ∃ v', e = .returned v' ∧ OwnS chgC 5 W' 43 v' (backL cs) ∧ Below w.heap.size w W' ∧ ∀ k, v'.ownBlock = some k → w.heap.size ≤ k := by
  have h1 : 1 ≤ n := by omega
  obtain ⟨ao, cap, rfl, hlen⟩ := hr.form
  obtain ⟨O, hO⟩ : ∃ O, w.heap.size = O := ⟨_, rfl⟩
  obtain ⟨m, hm⟩ : ∃ m, cs.length = m := ⟨_, rfl⟩
  rw [hm] at hr ⊢
  rw [hO]
  have HH := Lib.hid (And.intro hr (And.intro hb (And.intro hlen (And.intro hO hm))))
  clear hr hb hlen
  refine callsIn_of_wp_marks Try.func16 rfl hf0 ?_ hro
  simp only [Try.ntmps16, List.size_toArray, List.length_cons, List.length_nil, Nat.reduceAdd, Nat.reduceSub, Array.replicate_succ, Array.replicate_zero, List.push_toArray, List.append_toArray, List.nil_append, List.cons_append]
  gi_wp2_with (gi_at_call 39; refine (backward_in F (n - 1) hf1 hro _ _ _ _).mono ?_; rintro e w' ⟨rfl, rfl⟩)
  have hb1 := block_alloc (block_new w (.cells #[.slice none 0 0] 25)) (.cells #[.slice ao m cap] 25)
  have hb2 := block_new (w.alloc (.cells #[.slice none 0 0] 25)) (.cells #[.slice ao m cap] 25)
  rw [hO] at hb1
  rw [World.size_alloc, hO] at hb2
  have hsz : ((w.alloc (.cells #[.slice none 0 0] 25)).alloc (.cells #[.slice ao m cap] 25)).heap.size = O + 2 := by simp [hO]
  have hB0 : Below O w ((w.alloc (.cells #[.slice none 0 0] 25)).alloc (.cells #[.slice ao m cap] 25)) := ((Below.refl _ w).alloc (by omega) _).alloc (by simp; omega) _
  have hread : ReadS chgC 5 ((w.alloc (.cells #[.slice none 0 0] 25)).alloc (.cells #[.slice ao m cap] 25)) (.slice ao m cap) cs := HH.out.1.mod (S := fun _ => False) (by decide) chgC_len (((Mod.refl _ w).alloc _).alloc _) (fun _ _ h => h)
  generalize hW0 : (w.alloc (.cells #[.slice none 0 0] 25)).alloc (.cells #[.slice ao m cap] 25) = W0 at *
  clear hW0
  refine wpIn_rangeFunc_ownH (α := Nat × Chg) hro h1 (gf := 53) (lb := #[.pointer (some ⟨O + 1, 0, none⟩)]) rfl hf2 (enters_of Try.func53 (by kernel_rfl) rfl)
    (back_stops F (n - 1) hf2 hro (by omega) (O + 1) O (.slice ao m cap) cs W0 (by have := room64 (Nat.le_refl cs.length) HH.out.2.1; omega) (by omega) (by omega) (cell_of hb2 rfl) hread (fun b o mm c e hpos => by
      obtain ⟨x0, hx0⟩ : ∃ x, cs[0]? = some x := ⟨_, List.getElem?_eq_getElem hpos⟩
      obtain ⟨b2, o2, e2, _, hl2⟩ := HH.out.1.lt (by decide) chgC_len hx0
      simp only [Value.slice.injEq] at e
      rw [e2] at e
      cases e.1
      omega))
    (fun h k => KB.trans h k) (fun W l o o' hl h hc hw => ⟨belowK_b (by omega) W l o o' hl h hc hw, (belowK_b (n₀ := O + 2) (by omega) W l o o' hl h hc hw).block (O + 1) (by omega)⟩) (Below.refl _ _) (fun _ => rfl)
    (Iv w O) (fun _ _ _ => False) (by rw [hsz]; exact Iv_own w O) (fun _ _ _ _ _ hs _ _ => hs)
    ⟨_, ⟨hb1, OwnS.nil _ _ _ _⟩, fun k h => by simp [Value.ownBlock] at h, hB0, by omega⟩
    (fun x a' W => ∃ X, O + 2 ≤ X ∧ W.heap[X]? = some (.cells (chgC x.2).toArray 43 (0, 0)) ∧ (∀ v, W.heap[O]? = some (.cells #[v] 25 (0, 0)) → v.ownBlock ≠ some X) ∧ a' = { tmps := #[.slice ao m cap, undef, .slice none 0 0, .pointer (some ⟨O, 0, none⟩), undef, .pointer (some ⟨X, 0, none⟩), .slice ao m cap, .func (.func 53) #[] #[.pointer (some ⟨O + 1, 0, none⟩)], .int .i64 (x.1 : Int), .agg (chgC x.2).toArray, undef, undef, undef, undef, undef, undef, undef, undef, undef, undef, undef], defers := [] })
    (fun x a' _ A B row hs hg hr => by
      obtain ⟨X, g1, g2, g3, g4⟩ := hs
      have hne : row ≠ some X := fun e => by
        obtain ⟨_, o, ho, hc⟩ := hr X e
        rw [g2] at ho
        cases ho
        simp [Obj.isCells] at hc
      have hO2 : B.heap[O]? = A.heap[O]? := hg.block O (by have := lt_block g2; omega) (fun e => by have := (hr O e.symm).1; omega)
      exact ⟨X, g1, (hg.block X (lt_block g2) (fun e => hne e.symm)).trans g2, fun v h => g3 v (by rw [← hO2]; exact h), g4⟩)
    ?assign ?body ?done ?stop
  case assign =>
    rintro l pre ⟨i, rev, del, x0, x1, x2⟩ W K ⟨v, hbx, hv, hbel, hs2⟩ hK
    simp only [encP, chgC]
    gi_wp2
    refine hK _ _ ((KeepsOthers.alloc _ _).from _) ⟨(Below.refl O W).alloc (by omega) _, Below.heap_alloc _ _ _ (by omega)⟩ ⟨v, ⟨block_alloc hbx.box _, hbx.own.mod ((Mod.refl (fun _ => False) W).alloc _) (fun _ _ h => h)⟩, hv, hbel.alloc (by omega) _, by simp; omega⟩ ⟨W.heap.size, hs2, block_new _ _, fun v2 h2 e => ?_, rfl⟩
    have h3 := block_alloc hbx.box (.cells #[.int .i64 rev, .bool del, .string x0, .string x1, .string x2] 43)
    rw [h3] at h2
    simp only [Option.some.injEq, Obj.cells.injEq, Array.mk.injEq, List.cons.injEq, and_true] at h2
    rw [← h2] at e
    exact Nat.lt_irrefl _ (own_lt hbx.own e)
  case body =>
    rintro l pre ⟨i, rev, del, x0, x1, x2⟩ a' W hl ⟨r, hr⟩ ⟨v, hbx, hv, hbel, hs2⟩ ⟨X, g1, g2, g3, rfl⟩ hlt
    have c0 : W.cell? ⟨X, 0, none⟩ = some (.int .i64 rev) := cell_of g2 rfl
    have c1 : W.cell? ⟨X, 1, none⟩ = some (.bool del) := cell_of g2 rfl
    have c2 : W.cell? ⟨X, 2, none⟩ = some (.string x0) := cell_of g2 rfl
    have c3 : W.cell? ⟨X, 3, none⟩ = some (.string x1) := cell_of g2 rfl
    have c4 : W.cell? ⟨X, 4, none⟩ = some (.string x2) := cell_of g2 rfl
    have cf := free_of (i := 1) g2
    have cO : W.cell? ⟨O, 0, none⟩ = some v := cell_of hbx.box rfl
    have hXO : ¬ X = O := by omega
    have hOX : ¬ O = X := by omega
    have hroom := room64 (a := pre.length) (n := cs.length) (by omega) HH.out.2.1
    have hlen2 : (pre.map (fun p => flipC p.2)).length = pre.length := List.length_map _
    have HB := Lib.hid (And.intro hbx (And.intro hv (And.intro hbel (And.intro hs2 (And.intro g2 (And.intro g1 (And.intro (g3 v hbx.box) (And.intro hroom hlen2))))))))
    clear hbx hv hbel hs2 g2 g1 g3 hroom hlen2 hlt hr hl
    have hoo := OwnS.mod HB.out.1.own (((Mod.refl (fun x => x = X) W).setCell (p := ⟨X, 1, none⟩) (.inl rfl) (.bool (!del))).alloc (.cells #[.int .i64 rev, .bool (!del), .string x0, .string x1, .string x2] 43)) (fun k hk e => HB.out.2.2.2.2.2.2.1 (by rw [hk, show k = X from e]))
    gi_wp2_with (gi_at_builtin; refine wpListIn_push elemChg rfl _ _ rfl rfl hoo W.heap.size (rev, !del, x0, x1, x2) rfl ?c1 ?c2 ?c3 ?_)
    case c1 =>
      have := block_new (W.setCell ⟨X, 1, none⟩ (.bool (!del))) (.cells #[.int .i64 rev, .bool (!del), .string x0, .string x1, .string x2] 43)
      rw [World.size_setCell] at this
      exact (Array.getElem?_eq_some_iff.1 this).2
    case c2 => exact HB.out.2.2.2.2.2.2.2.1.1
    case c3 => exact HB.out.2.2.2.2.2.2.2.1.2.1
    intro v' w' hown' hm' hb'
    obtain ⟨ao', n', cap', rfl, hn'⟩ := hown'.sl
    clear hn' hoo
    obtain ⟨hbx, hv, hbel, hs2, g2, g1, g3, hroom, hlen2⟩ := HB.out
    have hO5 : w'.heap[O]? = some (.cells #[v] 25 (0, 0)) := hm'.old (block_alloc (block_setCell_ne hbx.box hOX _) _) (fun e => own_ne hbx.own hbx.box (by decide) e.symm)
    have cO5 : w'.cell? ⟨O, 0, none⟩ = some v := cell_of hO5 rfl
    have fO5 := free_of (i := 0) hO5
    have HC := Lib.hid (And.intro hown' (And.intro hm' (And.intro hb' hO5)))
    clear hown' hm' hb' hO5 hbx hv hbel hs2 g2 g1 g3 hroom hlen2
    gi_wp2
    obtain ⟨hbx, hv, hbel, hs2, g2, g1, g3, hroom, hlen2⟩ := HB.out
    obtain ⟨hown', hm', hb', hO5⟩ := HC.out
    have hsz1 := hm'.size
    simp only [World.size_alloc, World.size_setCell] at hsz1 hb'
    have hmall : Mod (fun k => k = X ∨ some k = v.ownBlock ∨ k = O) W (w'.setCell ⟨O, 0, none⟩ (.slice ao' n' cap')) := by
      refine Mod.setCell (Mod.trans (((Mod.refl (fun k => k = X ∨ some k = v.ownBlock ∨ k = O) W).setCell (p := ⟨X, 1, none⟩) (.inl (.inl rfl)) _).alloc _) hm' (fun k hk => .inl (.inr (.inl hk)))) (.inl (.inr (.inr rfl))) _
    have hne' : (Value.slice ao' n' cap').ownBlock ≠ some O := fun e => by
      rcases hb' O e with h | h
      · exact own_ne hbx.own hbx.box (by decide) h
      · omega
    refine ⟨keepsFrom_mod _ hmall (fun k o hS ho => ?_), ⟨hmall.to_below (by omega) (fun k hS => ?_), ?_⟩, _, ⟨block_setCell hO5 _, ?_⟩, fun k hk => ?_, hbel.trans (hmall.to_below (by omega) (fun k hS => ?_)), by simp only [World.size_setCell]; omega⟩
    · cases hcc : o.isCells with
      | true => rfl
      | false =>
        rcases hS with rfl | hS | rfl
        · rw [g2] at ho; cases ho; simp [Obj.isCells] at hcc
        · exact (own_cells hbx.own hS.symm ho hcc).elim
        · rw [hbx.box] at ho; cases ho; simp [Obj.isCells] at hcc
    · rcases hS with rfl | hS | rfl
      · omega
      · have := hv k hS.symm; omega
      · omega
    · refine hmall.block (O + 1) (by omega) (fun hS => ?_)
      rcases hS with h | h | h
      · omega
      · have := hv _ h.symm; omega
      · omega
    · rw [List.map_append]
      exact hown'.mod (S := fun k => k = O) ((Mod.refl (fun k => k = O) w').setCell (p := ⟨O, 0, none⟩) (.inl rfl) _) (fun k hk e => hne' (by rw [hk, show k = O from e]))
    · rcases hb' k hk with h | h
      · exact hv k h
      · omega
    · rcases hS with rfl | hS | rfl
      · omega
      · have := hv k hS.symm; omega
      · omega
  case done =>
    rintro D ys W hD hys ⟨v, hbx, hv, hbel, hs2⟩ hK
    have cO : W.cell? ⟨O, 0, none⟩ = some v := cell_of hbx.box rfl
    have HB := Lib.hid (And.intro hbx (And.intro hv (And.intro hbel hs2)))
    clear hbx hv hbel hs2
    gi_wp2
    refine ⟨by simp, .inl ⟨_, _, rfl, run_takeDeferred hK, ?_⟩⟩
    have hI := (Iv_own w O).putObj (l := D) (.deferred none) ⟨v, HB.out⟩ (by omega) hK rfl
    obtain ⟨v2, hb2, hv2, hbel2, hs3⟩ := hI
    have hv : v2 = v := by
      have h3 := (belowK_b (n₀ := O + 1) (w := W0) (by omega) W D _ (.deferred none) (by omega) hK rfl rfl).block O (by omega)
      have h4 := hb2.box
      rw [h3, HB.out.1.box] at h4
      simp only [Option.some.injEq, Obj.cells.injEq, Array.mk.injEq, List.cons.injEq, and_true] at h4
      exact h4.symm
    subst hv
    have hmap : ys.map (fun p => flipC p.2) = backL cs := by
      unfold backL
      rw [← hys, List.map_map]
      rfl
    have ho := hb2.own
    rw [hmap] at ho
    exact ⟨_, results_tmp rfl _ _ _, v2, rfl, ho, hbel2, fun k hk => by have := hv2 k hk; omega⟩
  case stop =>
    rintro D c pre W _ _ h _
    exact h.elim

/-- watch.Back: the changes undone, the last first; new memory. -/
theorem back_any {w : World} {v : Value} {cs : List Chg} (hr : ReadS chgC 5 w v cs) (hb : (cs.length + 1) * 64 ≤ 140737488355328) :
    Calls Try.prog 16 #[v] w fun e W' => ∃ v', e = .returned v' ∧ OwnS chgC 5 W' 43 v' (backL cs) ∧ Below w.heap.size w W' ∧ ∀ k, v'.ownBlock = some k → w.heap.size ≤ k :=
  (callsIn_wide (n := 6)).1 (back_in Fence.wide 6 trivial trivial trivial rfl (Nat.le_refl _) hr hb)
end Go.Proofs.Ytobcakjlfdejjaa.Back
end
section
set_option linter.unusedVariables false
set_option linter.unusedSimpArgs false
namespace Go.Proofs.Ytobcakjlfdejjaa.Watch
open Go.RowKit Go.Por Go.Sort

def docA : ByteArray := { data := #[100, 111, 99, 58, 97] }
def viewerS : ByteArray := { data := #[118, 105, 101, 119, 101, 114] }
set_option maxRecDepth 100000 in
theorem viewer_any (u : ByteArray) (w : World) : Calls Try.prog 25 #[.string u] w fun e w' =>
    e = .returned (.agg #[.string docA, .string viewerS, .string u]) ∧ Gr w w' := by
  go_enter Try.func25, Try.ntmps25
  go_wp2
  go_returns
  exact ⟨rfl, (Gr.refl w).alloc _⟩
def annS : ByteArray := { data := #[117, 115, 101, 114, 58, 97, 110, 110] }
def annT : Tup := (docA, viewerS, annS)
def annRows : List RowT := [(annT, 3, 5)]
theorem ann_out : outL 0 9 annRows = [(3, false, annT), (5, true, annT)] := by
  simp [outL, annRows, rowAdd, addL]
theorem ann_sorted : Stab.Sorted (ltOf ccmp) [((3, false, annT) : Chg), (5, true, annT)] := by
  simp [Stab.Sorted, ltOf, ccmp, or2v, Lib.compareInt]
theorem ann_at : atL annRows 4 = [annT] := by
  simp [atL, annRows, thereL, isAt, compactL, compactP]
theorem ann_rows : rowsF [(3, false, annT), (5, true, annT)] = [(annT, 3, 5)] := by
  simp [rowsF, stepR, isOpen, shutAt, List.findIdx?_cons]
theorem OwnS.one {α : Type} {f : α → List Value} {c : Nat} {w : World} {E : TypeId} {g : Nat} {x : α} (hc : (f x).length = c) (h : w.heap[g]? = some (.cells (f x).toArray E (0, 0))) : OwnS f c w E (.slice (some ⟨g, 0, none⟩) 1 1) [x] := by
  refine ⟨by simp [hc], .inr ⟨g, 1, _, rfl, Nat.zero_le _, h, Nat.le_refl _, by unfold maxLen; omega, by simp [hc], ?_⟩⟩
  rw [List.flatMap_cons, List.flatMap_nil, List.append_nil, List.length_singleton, Nat.one_mul]
  exact List.take_of_length_le (by simp [hc])
theorem sorted_one {α : Type} {lt : α → α → Bool} (x : α) : Stab.Sorted lt [x] := by simp [Stab.Sorted]

set_option maxRecDepth 100000 in
set_option maxHeartbeats 1600000 in
theorem awake_any (w : World) : Calls Try.prog 8 #[] w fun e w' => e = .returned (.bool true) ∧ Below w.heap.size w w' := by
  have hdoc : ({ data := #[117, 115, 101, 114, 58, 97, 110, 110] } : ByteArray) = annS := rfl
  go_enter Try.func8, Try.ntmps8
  go_wp2_with fail
  refine (viewer_any _ _).mono ?_
  rintro e w1 ⟨rfl, hg1⟩
  have H1 := Lib.hid hg1.below
  clear hg1
  go_wp2_with fail
  have hr2 : ReadS rowC 5 (w1.alloc (.cells #[.string docA, .string viewerS, .string annS, .int .i64 3, .int .i64 5] 39)) (.slice (some ⟨w1.heap.size, 0, none⟩) 1 1) annRows := OwnS.read rowC_len' (OwnS.one (E := 39) rfl (block_new w1 (.cells (rowC (annT, 3, 5)).toArray 39)))
  have hb2 := H1.out.alloc H1.out.size (.cells #[.string docA, .string viewerS, .string annS, .int .i64 3, .int .i64 5] 39)
  generalize hW2 : w1.alloc (.cells #[.string docA, .string viewerS, .string annS, .int .i64 3, .int .i64 5] 39) = w2 at *
  have H2 := Lib.hid (And.intro hr2 hb2)
  clear hr2 hb2 hW2
  refine (changes_any H2.out.1 0 9 (by rw [ann_out]; decide)).mono ?_
  rintro e w3 ⟨v3, l3, rfl, hs3, hst3, hown3, hb3, hv3⟩
  rw [ann_out] at hst3
  have e3 := Stab.uniq chgSwo l3 _ hs3 ann_sorted hst3.symm
  subst e3
  obtain ⟨g, cap, rfl, _, _⟩ : ∃ g cap, v3 = .slice (some ⟨g, 0, none⟩) 2 cap ∧ True ∧ True := by
    rcases hown3.form with ⟨_, h⟩ | ⟨g, cap, rfl, _, _⟩
    · cases h
    · exact ⟨g, cap, rfl, trivial, trivial⟩
  have d0 : w3.cell? ⟨g, 0, none⟩ = some (.int .i64 3) := OwnS.cell chgC_len hown3 (i := 0) (j := 0) rfl (by decide) rfl
  have d1 : w3.cell? ⟨g, 1, none⟩ = some (.bool false) := OwnS.cell chgC_len hown3 (i := 0) (j := 1) rfl (by decide) rfl
  have d5 : w3.cell? ⟨g, 5, none⟩ = some (.int .i64 5) := OwnS.cell chgC_len hown3 (i := 1) (j := 0) rfl (by decide) rfl
  have d6 : w3.cell? ⟨g, 6, none⟩ = some (.bool true) := OwnS.cell chgC_len hown3 (i := 1) (j := 1) rfl (by decide) rfl
  have hr3 : ReadS rowC 5 w3 (.slice (some ⟨w1.heap.size, 0, none⟩) 1 1) annRows := H2.out.1.mod (by decide) rowC_len' (Mod.of_below hb3 (fun _ => False)) (fun _ _ h => h)
  have hb3' : Below w.heap.size w w3 := H2.out.2.trans (hb3.mono H2.out.2.size)
  have H3 := Lib.hid (And.intro hown3 (And.intro hr3 hb3'))
  clear hown3 hr3 hb3' hb3 hv3 hs3 hst3
  go_wp2_with fail
  refine (at_any H3.out.2.1 4 (by decide)).mono ?_
  rintro e w4 ⟨v4, rfl, hown4, hb4, _⟩
  rw [ann_at] at hown4
  obtain ⟨ao4, n4, cap4, rfl, hn4⟩ := hown4.sl
  simp only [List.length_singleton] at hn4
  subst hn4
  have H4 := Lib.hid (And.intro ((H3.out.1.read chgC_len).mod (by decide) chgC_len (Mod.of_below hb4 (fun _ => False)) (fun _ _ h => h)) (H3.out.2.2.trans (hb4.mono H3.out.2.2.size)))
  clear hown4 hb4 d0 d1 d5 d6
  go_wp2_with fail
  refine (rows_any H4.out.1 (by decide)).mono ?_
  rintro e w5 ⟨v5, l5, rfl, hs5, hst5, hown5, hb5, _⟩
  rw [ann_rows] at hst5
  have e5 := Stab.uniq rowSwo l5 _ hs5 (sorted_one _) hst5.symm
  subst e5
  obtain ⟨ao5, n5, cap5, rfl, hn5⟩ := hown5.sl
  simp only [List.length_singleton] at hn5
  subst hn5
  have H5 := Lib.hid (And.intro (H4.out.1.mod (by decide) chgC_len (Mod.of_below hb5 (fun _ => False)) (fun _ _ h => h)) (H4.out.2.trans (hb5.mono H4.out.2.size)))
  clear hown5 hb5 hs5 hst5
  go_wp2_with fail
  refine (Back.back_any H5.out.1 (by decide)).mono ?_
  rintro e w6 ⟨v6, rfl, hown6, hb6, _⟩
  obtain ⟨ao6, n6, cap6, rfl, hn6⟩ := hown6.sl
  have hn6' : n6 = 2 := by rw [← hn6]; rfl
  subst hn6'
  have H6 := Lib.hid (H5.out.2.trans (hb6.mono H5.out.2.size))
  clear hown6 hb6 hn6
  go_wp2
  go_ret
  exact ⟨rfl, H6.out⟩
end Go.Proofs.Ytobcakjlfdejjaa.Watch
end
