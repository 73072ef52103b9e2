/- watch.Rows. -/
import Derived.Test.YtobcakjlfdejjaaRowsP
set_option linter.unusedVariables false
set_option linter.unusedSimpArgs false
namespace Go.Proofs.Ytobcakjlfdejjaa.Watch
open Go.RowKit Go.Por Go.Sort

theorem MapIs.own_ne {κ α : Type} {enc : κ → Value} {w : World} {M : Nat} {lm : List (κ × Value)} (h : MapIs w M enc lm) {f : α → List Value} {c : Nat} {E : TypeId} {v : Value} {l : List α} (ho : OwnS f c w E v l) : v.ownBlock ≠ some M := by
  obtain ⟨es, ck, h1, _⟩ := h
  rcases ho.form with ⟨rfl, _⟩ | ⟨g, cap, rfl, _, _⟩
  · simp [Value.ownBlock]
  · obtain ⟨cur, h2, _⟩ := ho.block
    intro e
    simp only [Value.ownBlock, Option.some.injEq] at e
    subst e
    rw [h1] at h2
    cases h2
theorem mv_filter (lm : List (Tup × Nat)) (t : Tup) : mv (lm.filter (fun p => decide (p.1 ≠ t))) = mdel (mv lm) t := by
  unfold mv mdel
  rw [List.filter_map]
  rfl
theorem mv_snoc (lm : List (Tup × Nat)) (t : Tup) (n : Nat) : mv lm ++ [(t, Value.int .i64 (n : Int))] = mv (lm ++ [(t, n)]) := by
  unfold mv
  rw [List.map_append]
  rfl
theorem zeroInt (w : World) : (zeroValue 3).run Try.prog w = .ok (.int .i64 0) w := by
  have h1 : Try.t3.zero = some (.int .i64 0) := by kernel_rfl
  simp [zeroValue, h1]
theorem room64 {a n : Nat} (h : a ≤ n) (h2 : (n + 1) * 64 ≤ 140737488355328) : (a + 1) * 64 ≤ 140737488355328 ∧ a + 1 ≤ maxLen ∧ a < 576460752303423488 := by
  have h1 : (a + 1) * 64 ≤ 140737488355328 := Nat.le_trans (Nat.mul_le_mul_right 64 (by omega)) h2
  have : a + 1 ≤ (a + 1) * 64 := Nat.le_mul_of_pos_right _ (by decide)
  unfold maxLen
  exact ⟨h1, by omega, by omega⟩

set_option maxRecDepth 100000 in
set_option maxHeartbeats 3200000 in
theorem rows_any {w : World} {v : Value} {cs : List Chg} (hr : ReadS chgC 5 w v cs) (hb : (cs.length + 1) * 64 ≤ 140737488355328) :
    Calls Try.prog 15 #[v] w fun e w' =>
      ∃ v' l, e = .returned v' ∧ Stab.Sorted (ltOf rcmp) l ∧ Stab.Stab (ltOf rcmp) (rowsF cs) l ∧ OwnS rowC 5 w' 39 v' l ∧ Below w.heap.size w w' ∧ ∀ k, v'.ownBlock = some k → w.heap.size ≤ k := by
  obtain ⟨ao, cap, rfl, hlen⟩ := hr.form
  obtain ⟨B, hB⟩ : ∃ B, w.heap.size = B := ⟨_, rfl⟩
  obtain ⟨n, hn⟩ : ∃ n, cs.length = n := ⟨_, rfl⟩
  rw [hn] at hr hlen hb ⊢
  have HH := Lib.hid (And.intro hr (And.intro hb (And.intro hlen (And.intro hB hn))))
  clear hr hb
  go_enter Try.func15, Try.ntmps15
  have hmm := @run_makeMap Try.prog
  go_wp2
  clear hmm
  have hM0 := MapIs.made w encT
  have hbel0 := (Below.refl B w).alloc (by omega) (.map #[] 0)
  have hB0 : (w.alloc (.map #[] 0)).heap.size = B + 1 := by simp [hB]
  rw [hB] at hM0
  generalize hW3 : w.alloc (.map #[] 0) = W3 at *
  have HW := Lib.hid (And.intro hM0 (And.intro hbel0 hB0))
  clear hM0 hbel0 hB0 hW3
  go_loopg [3, 12] n (fun gg sv vi wx => ∃ (t : Nat) (lm : List (Tup × Nat)), t + gg = n ∧ vi = .int .i64 (t : Int) ∧ OwnS rowC 5 wx 39 sv (rowsF (cs.take t)) ∧ MapIs wx B encT (mv lm) ∧ Told (rowsF (cs.take t)) lm ∧ Below B w wx ∧ B + 1 ≤ wx.heap.size ∧ ∀ k, sv.ownBlock = some k → B + 1 ≤ k)
  case atStart => exact ⟨0, [], by omega, rfl, OwnS.nil _ _ _ _, HW.out.1, fun t i => by simp [rowsF], HW.out.2.1, by rw [HW.out.2.2]; exact Nat.le_refl _, fun k h => by simp [Value.ownBlock] at h⟩
  case round =>
    obtain ⟨t, lm, htg, rfl, hown, hmap, htold, hbel, hsz, hwh⟩ := hrel
    have HI := Lib.hid (And.intro hown (And.intro hmap (And.intro htold (And.intro hbel (And.intro hsz (And.intro hwh htg))))))
    by_cases hc : t < n
    · obtain ⟨r, hx⟩ : ∃ r, cs[t]? = some r := ⟨_, List.getElem?_eq_getElem (by omega)⟩
      obtain ⟨b, o, rfl, hrange, hbl⟩ := HH.out.1.lt (by decide) chgC_len hx
      have hrange2 : wr.rangeAt b (o + t * 5) (chgC r) := range_below hrange hbel (by omega)
      obtain ⟨rev, del, x0, x1, x2⟩ := r
      have hci : (t : Int) < (n : Int) := by omega
      have hti : (t : Int) < 9223372036854775807 := by omega
      have HC := Lib.hid (And.intro hx (And.intro hrange2 (And.intro hc hbl)))
      clear hown hmap htold hbel hsz hwh htg hx hrange hrange2 hbl hc
      go_upto_region 6 with (first
        | (refine wpList_load_mid rfl 43 (.tmp 14) rfl b (o + t * 5) rfl (chgC (rev, del, x0, x1, x2)) _ HC.out.2.1 Try.underlying43 rfl infoC ?_; unfold chgC))
      obtain ⟨R, hR⟩ : ∃ R, wr.heap.size = R := ⟨_, rfl⟩
      have hRb := block_new wr (.cells #[.int .i64 rev, .bool del, .string x0, .string x1, .string x2] 43)
      rw [hR] at hRb ⊢
      obtain ⟨i1, i2, i3, i4, i5, i6, i7⟩ := HI.out
      have j1 : OwnS rowC 5 (wr.alloc (.cells #[.int .i64 rev, .bool del, .string x0, .string x1, .string x2] 43)) 39 u3 (rowsF (cs.take t)) := i1.mod (S := fun _ => False) ((Mod.refl _ wr).alloc _) (fun _ _ h => h)
      have j2 := i2.alloc (.cells #[.int .i64 rev, .bool del, .string x0, .string x1, .string x2] 43)
      have j4 := i4.alloc (by omega) (.cells #[.int .i64 rev, .bool del, .string x0, .string x1, .string x2] 43)
      have j5 : R + 1 = (wr.alloc (.cells #[.int .i64 rev, .bool del, .string x0, .string x1, .string x2] 43)).heap.size := by simp [hR]
      generalize hW4 : wr.alloc (.cells #[.int .i64 rev, .bool del, .string x0, .string x1, .string x2] 43) = W4 at *
      have c0 : W4.cell? ⟨R, 0, none⟩ = some (.int .i64 rev) := cell_of hRb rfl
      have c1 : W4.cell? ⟨R, 1, none⟩ = some (.bool del) := cell_of hRb rfl
      have c2 : W4.cell? ⟨R, 2, none⟩ = some (.string x0) := cell_of hRb rfl
      have c3 : W4.cell? ⟨R, 3, none⟩ = some (.string x1) := cell_of hRb rfl
      have c4 : W4.cell? ⟨R, 4, none⟩ = some (.string x2) := cell_of hRb rfl
      have hout := rowsF_succ cs t _ HC.out.1
      have hle : (rowsF (cs.take t)).length ≤ n := by
        have h1 := rowsF_le (cs.take t)
        have h2 := HH.out.2.2.2.2
        rw [List.length_take] at h1
        omega
      have hroom := room64 hle HH.out.2.1
      have hMR : B < R := by omega
      obtain ⟨O1, hO1⟩ : ∃ O1, rowsF (cs.take t) = O1 := ⟨_, rfl⟩
      rw [hO1] at i3 j1 hout hle hroom
      have hnd : (lm.map Prod.fst).Nodup := by
        obtain ⟨es, ck, _, _, hnd, _⟩ := j2
        rw [mv_fst] at hnd
        exact hnd
      have HJ := Lib.hid (And.intro j1 (And.intro j2 (And.intro j4 (And.intro (show B + 1 ≤ R by omega) (And.intro i6 (And.intro i7 (And.intro j5 (And.intro hroom (And.intro i3 (And.intro hnd hRb))))))))))
      clear i1 i2 i4 i5 i6 i7 j4 j5 hW4 hR hle hroom hO1 HI
      by_cases hk : (x0, x1, x2) ∈ lm.map Prod.fst
      · obtain ⟨⟨_, i⟩, hm, rfl⟩ := List.mem_map.1 hk
        have hit := i3.hit hnd hm
        have hlook := MapIs.look_hit keyTup Try.underlying69 j2 (mem_mv hm) true
        unfold encT tupC at hlook
        simp only [if_true] at hlook
        obtain ⟨rr, hrr, _, hr0⟩ := (i3 _ i).1 hm
        have hiO : i < O1.length := (List.getElem?_eq_some_iff.1 hrr).1
        cases del with
        | true =>
          have ho2 : stepR O1 (rev, true, x0, x1, x2) = shutAt O1 i rev := by unfold stepR; rw [hit]
          have HO := Lib.hid (And.intro (hout.trans ho2) (And.intro hrr (And.intro hm (And.intro hiO hr0))))
          clear hit hrr hr0 hk hout ho2 hnd i3 j2 hm
          rcases j1.form with ⟨_, h0⟩ | ⟨g, cap3, rfl, hc1, hc2⟩
          · rw [h0] at hiO; simp at hiO
          obtain ⟨n3, hn3⟩ : ∃ n3, O1.length = n3 := ⟨_, rfl⟩
          have hi0 : (0 : Int) ≤ (i : Int) := by omega
          have hin : (i : Int) < (n3 : Int) := by omega
          have hiw : IntKind.i64.wrap (i : Int) = (i : Int) := by
            have := HJ.out.2.2.2.2.2.2.2.1.2.2
            simp [IntKind.wrap, IntKind.bits, IntKind.signed]; omega
          rw [hn3] at j1
          rw [hn3]
          have hcell4 := OwnS.cell (f := rowC) rowC_len' j1 HO.out.2.1 (j := 4) (u := .int .i64 rr.2.2) (by decide) rfl
          have hfree := OwnS.free j1 (i * 5 + 4)
          have HL := Lib.hid (And.intro j1 hn3)
          have hRb2 := hRb
          clear hiO hn3 hc1 hc2 j1 hRb
          have hrel0 := HJ.out.2.1
          have hgne : g ≠ B := fun e => by
            subst e
            exact (MapIs.own_ne HJ.out.2.1 HJ.out.1) rfl
          by_cases hz : rev = 0
          · have q : (rev != 0) = false := by simp [hz]
            have HZ := Lib.hid (And.intro hz hgne)
            clear hz hgne hrel0
            go_wp2
            go_roundg (gk - 1)
            case measure => have h1 := HJ.out; have h2 := HC.out; omega
            case rel =>
              obtain ⟨j1, j2, j3, j4, j5, j6, j7, j8, j9, j10, j11⟩ := HJ.out
              obtain ⟨o1, o2, o3, o4, o5⟩ := HO.out
              obtain ⟨l1, l2⟩ := HL.out
              have h2 := HC.out
              have hz := HZ.out.1
              have hO2 : shutAt O1 i rev = O1 := by rw [hz]; exact j9.zero o3
              have hsame : OwnS rowC 5 (W4.setCell ⟨g, i * 5 + 4, none⟩ (.int .i64 rev)) 39 (.slice (some ⟨g, 0, none⟩) n3 cap3) (O1.set i (rr.1, rr.2.1, rev)) := OwnS.set rowC_len' l1 o2 (j := 4) (by decide) rfl
              rw [← shutAt_some o2, hO2] at hsame
              exact ⟨t + 1, lm, by omega, by go_num, by rw [o1, hO2]; exact hsame, j2.setCell _ HZ.out.2, by rw [o1, hO2]; exact j9, j3.trans (((Mod.refl (fun x => x = g) W4).setCell (p := ⟨g, i * 5 + 4, none⟩) (.inl rfl) (.int .i64 rev)).to_below (by omega) (fun k hk => by have := j5 g rfl; rw [hk]; omega)), by simp only [World.size_setCell]; omega, j5⟩
          · have q : (rev != 0) = true := by rw [bne_iff_ne]; exact hz
            have hm5 : MapIs (W4.setCell ⟨g, i * 5 + 4, none⟩ (.int .i64 rev)) B encT (mv lm) := hrel0.setCell (a := ⟨g, i * 5 + 4, none⟩) (.int .i64 rev) hgne
            obtain ⟨od, hdel, hmd⟩ := hm5.delete (ty := 0) (t2 := 37) keyTup Try.underlying69 (x0, x1, x2)
            unfold encT tupC at hdel
            have hgR : ¬ g = R := fun e => by
              subst e
              exact own_ne HL.out.1 hRb2 (by decide) rfl
            have hRg : ¬ R = g := fun e => hgR e.symm
            have HZ := Lib.hid (And.intro hz (And.intro hgne hmd))
            clear hz hgne hm5 hmd hrel0 hRb2
            go_upto_region 10 with fail
            clear hlook
            go_wp2
            go_roundg (gk - 1)
            case measure => have h1 := HJ.out; have h2 := HC.out; omega
            case rel =>
              obtain ⟨j1, j2, j3, j4, j5, j6, j7, j8, j9, j10, j11⟩ := HJ.out
              obtain ⟨o1, o2, o3, o4, o5⟩ := HO.out
              obtain ⟨l1, l2⟩ := HL.out
              have h2 := HC.out
              obtain ⟨hz, hgne, hmd⟩ := HZ.out
              have hs := OwnS.set rowC_len' l1 o2 (j := 4) (u := .int .i64 rev) (y := (rr.1, rr.2.1, rev)) (by decide) rfl
              rw [← shutAt_some o2] at hs
              have hs2 := hs.mod (setB_mod (W4.setCell ⟨g, i * 5 + 4, none⟩ (.int .i64 rev)) B od) (fun k hk e => by
                simp only [Value.ownBlock, Option.some.injEq] at hk
                exact hgne (hk.trans e))
              have hb1 := ((Mod.refl (fun x => x = g) W4).setCell (p := ⟨g, i * 5 + 4, none⟩) (.inl rfl) (.int .i64 rev)).to_below (B := B) (by omega) (fun k hk => by have := j5 g rfl; rw [hk]; omega)
              have hb2 := (setB_mod (W4.setCell ⟨g, i * 5 + 4, none⟩ (.int .i64 rev)) B od).to_below (B := B) (by simp only [World.size_setCell]; omega) (fun k hk => by rw [hk]; exact Nat.le_refl _)
              have hsz := (setB_mod (W4.setCell ⟨g, i * 5 + 4, none⟩ (.int .i64 rev)) B od).size
              simp only [World.size_setCell] at hsz
              refine ⟨t + 1, lm.filter (fun p => decide (p.1 ≠ (x0, x1, x2))), by omega, by go_num, by rw [o1]; exact hs2, ?_, by rw [o1]; exact j9.shut j10 o3 hz, (j3.trans hb1).trans hb2, by omega, j5⟩
              rw [mv_filter]
              exact hmd
        | false =>
          have ho2 : stepR O1 (rev, false, x0, x1, x2) = O1 := by unfold stepR; rw [hit]
          have HO := Lib.hid (hout.trans ho2)
          clear hit hrr hr0 hk hout ho2 hnd i3 j2 hm hiO j1 hRb
          go_wp2
          go_roundg (gk - 1)
          case measure => have h1 := HJ.out; have h2 := HC.out; omega
          case rel =>
            obtain ⟨j1, j2, j3, j4, j5, j6, j7, j8, j9, j10, j11⟩ := HJ.out
            have h2 := HC.out
            exact ⟨t + 1, lm, by omega, by go_num, by rw [HO.out]; exact j1, j2, by rw [HO.out]; exact j9, j3, by omega, j5⟩
      · have hmiss := i3.miss hk
        have hlook := MapIs.look_miss keyTup Try.underlying69 j2 (k := (x0, x1, x2)) (by rw [mv_fst]; exact hk) (zeroInt W4) true
        unfold encT tupC at hlook
        simp only [if_true] at hlook
        cases del with
        | true =>
          have ho2 : stepR O1 (rev, true, x0, x1, x2) = O1 := by unfold stepR; rw [hmiss]
          have HO := Lib.hid (hout.trans ho2)
          clear hmiss hk hout ho2 hnd i3 j2 j1 hRb
          go_wp2
          go_roundg (gk - 1)
          case measure => have h1 := HJ.out; have h2 := HC.out; omega
          case rel =>
            obtain ⟨j1, j2, j3, j4, j5, j6, j7, j8, j9, j10, j11⟩ := HJ.out
            have h2 := HC.out
            exact ⟨t + 1, lm, by omega, by go_num, by rw [HO.out]; exact j1, j2, by rw [HO.out]; exact j9, j3, by omega, j5⟩
        | false =>
          have ho2 : stepR O1 (rev, false, x0, x1, x2) = O1 ++ [((x0, x1, x2), rev, 0)] := by unfold stepR; rw [hmiss]
          have HO := Lib.hid (And.intro (hout.trans ho2) hk)
          obtain ⟨ao3, n3, cap3, rfl, hn3⟩ := j1.sl
          have hn3b : (n3 : Int) < 9223372036854775807 := by have := HJ.out.2.2.2.2.2.2.2.1.2.2; omega
          obtain ⟨W5, hst, hmap5, hm5⟩ : ∃ W5, (Instr.mapUpdate 69 (.map (some B)) (encT (x0, x1, x2)) (.int .i64 (n3 : Int))).run Try.prog W4 = .ok () W5 ∧ MapIs W5 B encT (mput (mv lm) (x0, x1, x2) (.int .i64 (n3 : Int))) ∧ Mod (fun x => x = B) W4 W5 := by
            obtain ⟨od, h1, h2⟩ := j2.store keyTup Try.underlying69 (x0, x1, x2) (.int .i64 (n3 : Int))
            exact ⟨_, h1, h2, setB_mod _ _ _⟩
          unfold encT tupC at hst
          have hown5 : OwnS rowC 5 W5 39 (.slice ao3 n3 cap3) O1 := j1.mod hm5 (fun k hk e => MapIs.own_ne j2 j1 (by rw [hk, show k = B from e]))
          have hR5 := hm5.old hRb (fun e => by omega)
          have d0 : W5.cell? ⟨R, 0, none⟩ = some (.int .i64 rev) := cell_of hR5 rfl
          have d2 : W5.cell? ⟨R, 2, none⟩ = some (.string x0) := cell_of hR5 rfl
          have d3 : W5.cell? ⟨R, 3, none⟩ = some (.string x1) := cell_of hR5 rfl
          have d4 : W5.cell? ⟨R, 4, none⟩ = some (.string x2) := cell_of hR5 rfl
          have HL := Lib.hid (And.intro hown5 (And.intro hmap5 (And.intro hm5 hn3)))
          clear hmiss hk hout ho2 hnd i3 j2 j1 hRb hown5 hmap5 hm5 hR5 hn3
          go_wp2_with (first
            | (at_builtin; refine wpList_push elemRow rfl _ _ rfl rfl (OwnS.mod HL.out.1 ((Mod.refl (fun _ => False) W5).alloc _) (fun _ _ h => h)) W5.heap.size ((x0, x1, x2), rev, 0) rfl (block_new _ _) HJ.out.2.2.2.2.2.2.2.1.1 HJ.out.2.2.2.2.2.2.2.1.2.1 ?_))
          intro v' w' hown' hm' hb'
          have HK := Lib.hid (And.intro hown' (And.intro hm' hb'))
          clear hown' hm' hb'
          go_wp2
          go_roundg (gk - 1)
          case measure => have h1 := HJ.out; have h2 := HC.out; omega
          case rel =>
            obtain ⟨j1, j2, j3, j4, j5, j6, j7, j8, j9, j10, j11⟩ := HJ.out
            obtain ⟨o1, o2⟩ := HO.out
            obtain ⟨l1, l2, l3, l4⟩ := HL.out
            obtain ⟨k1, k2, k3⟩ := HK.out
            have h2 := HC.out
            have hs1 := l3.size
            have hs2 := k2.size
            simp only [World.size_alloc] at hs2
            have hb1 : Below B W4 W5 := l3.to_below (by omega) (fun k hk => by rw [show k = B from hk]; exact Nat.le_refl _)
            have hmB : MapIs w' B encT (mput (mv lm) (x0, x1, x2) (.int .i64 (n3 : Int))) := (l2.alloc _).mod k2 (fun e => MapIs.own_ne l2 l1 e.symm)
            rw [mput, if_neg (by rw [mv_fst]; exact o2), mv_snoc, ← l4] at hmB
            have ht := j9.new o2 rev
            refine ⟨t + 1, _, by omega, by go_num, by rw [o1]; exact k1, hmB, by rw [o1]; exact ht, ((j3.trans hb1).alloc (by omega) _).trans (k2.to_below (by simp only [World.size_alloc]; omega) (fun k hk => by have := j5 k hk.symm; omega)), by omega, fun k hk => by
              rcases k3 k hk with h | h
              · exact j5 k h
              · omega⟩
    · have hci : ¬ (t : Int) < (n : Int) := by omega
      have HC := Lib.hid hc
      clear hown hmap htold hbel hsz hwh htg hc
      go_wp2_with fail
      obtain ⟨i1, i2, i3, i4, i5, i6, i7⟩ := HI.out
      have hcc := HC.out
      have ht : cs.take t = cs := List.take_of_length_le (by omega)
      rw [ht] at i1
      have hle : (rowsF cs).length ≤ n := by have h1 := rowsF_le cs; omega
      refine (sortStable_row i1 (room64 hle HH.out.2.1).2.2).mono ?_
      rintro e w5 ⟨rfl, l, hs, hst, hown5, hm5⟩
      have k3 : Below B wr w5 := hm5.to_below (by omega) (fun k hk => by have := i6 k hk.symm; omega)
      have HK := Lib.hid (And.intro hs (And.intro hst (And.intro hown5 (And.intro (i4.trans k3) i6))))
      clear hs hst hown5 hm5 k3 i1 i2 i3 i4 i5 i6 i7 hcc ht hle
      go_wp2
      go_ret
      obtain ⟨h1, h2, h3, h4, h5⟩ := HK.out
      exact ⟨u3, l, rfl, h1, h2, h3, by rw [hB]; exact h4, fun k hk => by have := h5 k hk; omega⟩
end Go.Proofs.Ytobcakjlfdejjaa.Watch
