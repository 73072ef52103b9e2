/- WatchEffect: the walk. -/
import Derived.Test.YtobcakjlfdejjaaWatchEffectP
import Derived.Test.YtobcakjlfdejjaaOpenW
import Derived.Test.YtobcakjlfdejjaaBackB
set_option linter.unusedVariables false
set_option linter.unusedSimpArgs false
namespace Go.Proofs.Ytobcakjlfdejjaa.Watch
open Go.RowKit Go.Por Go.Sort Go.Por.StEq
theorem part_mut (r : Int) (x : Mut) (w : World) : (part 41 (chgC (r, x)).toArray 1).run Try.prog w = .ok (.agg (mutC x).toArray) w := by
  unfold chgC mutC
  go_simp
theorem eqChgIn (d : Nat) (w : World) (x y : Chg) : (Op.equalIn (d + 4) 43 (.agg (chgC x).toArray) (.agg (chgC y).toArray)).run Try.prog w = .ok (decide (x = y)) w := by
  obtain ⟨x0, x1⟩ := x
  obtain ⟨y0, y1⟩ := y
  have h : (Op.equalIn (d + 4) 43 (.agg (chgC (x0, x1)).toArray) (.agg (chgC (y0, y1)).toArray)).run Try.prog w = .ok (x0 == y0 && decide (x1 = y1)) w := by
    refine eqA_of Try.underlying43 (by kernel_rfl) ?_
    refine eqf_cons (a := .int .i64 x0) (b := .int .i64 y0) (by rfl) (by unfold chgC; go_simp) (by unfold chgC; go_simp) (by go_simp) ?_
    exact eqf_last (by rfl) (part_mut x0 x1 w) (part_mut y0 y1 w) (eqMutIn d w x1 y1)
  have e : (x0 == y0 && decide (x1 = y1)) = decide ((x0, x1) = (y0, y1)) := by
    rw [Bool.eq_iff_iff]
    simp
  rw [h, e]
theorem eqChg (x y : Chg) (w : World) : (Op.equal 43 (.agg (chgC x).toArray) (.agg (chgC y).toArray)).run Try.prog w = .ok (decide (x = y)) w := eqChgIn 9996 w x y
end Go.Proofs.Ytobcakjlfdejjaa.Watch
namespace Go.Proofs.Ytobcakjlfdejjaa.WatchEffect
open Go.RowKit Go.Por Go.Sort Go.Proofs.Ytobcakjlfdejjaa.Watch

theorem readNilT (w : World) : ReadS tupC 3 w (.slice none 0 0) [] := ⟨none, 0, rfl, Nat.zero_le _, by simp⟩
set_option maxRecDepth 100000 in
set_option maxHeartbeats 4000000 in
theorem row {W : World} (v : Value) (l : List Chg) (h : SliceIs 5 (fun _ cs x => cs = chgC x) W v l) (hz : l.length * 64 ≤ 140737488351232) :
    Calls Try.prog 5 #[v] W fun e w' => e = .returned (.bool true) ∧ Below W.heap.size W w' := by
  have h' : ReadS chgC 5 W v l := h
  obtain ⟨ao, cap, rfl, hlen⟩ := h'.form
  obtain ⟨n, hn⟩ : ∃ n, l.length = n := ⟨_, rfl⟩
  obtain ⟨B, hB⟩ : ∃ B, W.heap.size = B := ⟨_, rfl⟩
  rw [hn] at h' hz hlen ⊢
  have HH := Lib.hid (And.intro h' (And.intro hz (And.intro hn hB)))
  clear h h' hz hn
  go_enter Try.func5, Try.ntmps5
  go_wp2_with fail
  refine (awake_any W).mono ?_
  rintro e w1 ⟨rfl, hb1⟩
  rw [hB] at hb1
  have H1 := Lib.hid hb1
  clear hb1
  go_wp2_with fail
  go_loopg [3, 4, 16] n (fun gg vl sv vi wx => ∃ t : Nat, t + gg = n ∧ vi = .int .i64 (t : Int) ∧ vl = .int .i64 (risS (l.take t)).1 ∧ OwnS chgC 5 wx 43 sv (risS (l.take t)).2 ∧ Below B W wx ∧ B ≤ wx.heap.size ∧ ∀ k, sv.ownBlock = some k → B ≤ k)
  case atStart => exact ⟨0, by omega, rfl, rfl, OwnS.nil _ _ _ _, H1.out, by have := H1.out.size; omega, fun k h => by simp [Value.ownBlock] at h⟩
  case round =>
    obtain ⟨t, htg, rfl, rfl, hown, hbel, hsz, hwh⟩ := hrel
    by_cases hc : t < n
    · obtain ⟨r, hx⟩ : ∃ r, l[t]? = some r := ⟨_, List.getElem?_eq_getElem (by have := HH.out; omega)⟩
      obtain ⟨bk, o, rfl, hrange, hbl⟩ := HH.out.1.lt (by decide) chgC_len hx
      have hrange2 : wr.rangeAt bk (o + t * 5) (chgC r) := range_below hrange hbel (by omega)
      have hout := risS_succ (l := l) (t := t) hx
      have hle : (risS (l.take t)).2.length ≤ n := by
        have h1 := (ris (l.take t)).len
        rw [List.length_take] at h1
        omega
      have hroom := room64 hle (Nat.le_trans (by rw [Nat.add_mul]; exact Nat.add_le_add_right HH.out.2.1 64) (by decide))
      obtain ⟨rev, del, x0, x1, x2⟩ := r
      have hci : (t : Int) < (n : Int) := by omega
      have hti : (t : Int) < 9223372036854775807 := by omega
      obtain ⟨last, hlast⟩ : ∃ a, (risS (l.take t)).1 = a := ⟨_, rfl⟩
      obtain ⟨O1, hO1⟩ : ∃ O1, (risS (l.take t)).2 = O1 := ⟨_, rfl⟩
      have hpair : risS (l.take t) = (last, O1) := by rw [← hlast, ← hO1]
      rw [hpair] at hown hout hle hroom ⊢
      simp only at hown hout hle hroom ⊢
      have hoo : OwnS chgC 5 ((wr.alloc (.cells #[.int .i64 rev, .bool del, .string x0, .string x1, .string x2] 43)).alloc (.cells #[.int .i64 rev, .bool del, .string x0, .string x1, .string x2] 43)) 43 u4 O1 := hown.mod (S := fun _ => False) (((Mod.refl _ wr).alloc _).alloc _) (fun _ _ h => h)
      have HC := Lib.hid (And.intro hrange2 (And.intro hc (And.intro htg (And.intro hout (And.intro hown (And.intro hbel (And.intro hsz (And.intro hwh (And.intro hroom hoo)))))))))
      clear hrange hrange2 hc htg hout hown hbel hsz hwh hbl hx hoo hlast hO1 hpair hle hroom
      by_cases h1 : last < rev
      · by_cases h2 : rev ≤ 1125899906842624
        · have HD := Lib.hid (And.intro h1 h2)
          go_upto_region 8 with (first
            | (refine wpList_load_mid rfl 43 (.tmp 18) rfl bk (o + t * 5) rfl (chgC (rev, del, x0, x1, x2)) _ HC.out.1 Try.underlying43 rfl infoC ?_; unfold chgC))
          have q1 : decide (last < rev) = true := decide_eq_true h1
          have q2 : decide (rev ≤ 1125899906842624) = true := decide_eq_true h2
          clear h1 h2
          go_upto_region 9 with fail
          obtain ⟨G, hG⟩ : ∃ G, wr.heap.size = G := ⟨_, rfl⟩
          have hRb := block_new wr (.cells #[.int .i64 rev, .bool del, .string x0, .string x1, .string x2] 43)
          rw [hG] at hRb ⊢
          have hoo := HC.out.2.2.2.2.2.2.2.2.2
          have hb4 := HC.out.2.2.2.2.2.1.alloc (by have := HC.out; omega) (.cells #[.int .i64 rev, .bool del, .string x0, .string x1, .string x2] 43)
          have j5 : G + 1 = (wr.alloc (.cells #[.int .i64 rev, .bool del, .string x0, .string x1, .string x2] 43)).heap.size := by simp [hG]
          generalize hW4 : wr.alloc (.cells #[.int .i64 rev, .bool del, .string x0, .string x1, .string x2] 43) = W4 at *
          have c0 : W4.cell? ⟨G, 0, none⟩ = some (.int .i64 rev) := cell_of hRb rfl
          have c1 : W4.cell? ⟨G, 1, none⟩ = some (.bool del) := cell_of hRb rfl
          have c2 : W4.cell? ⟨G, 2, none⟩ = some (.string x0) := cell_of hRb rfl
          have c3 : W4.cell? ⟨G, 3, none⟩ = some (.string x1) := cell_of hRb rfl
          have c4 : W4.cell? ⟨G, 4, none⟩ = some (.string x2) := cell_of hRb rfl
          have HW := Lib.hid (And.intro hoo (And.intro hb4 (And.intro hRb (And.intro j5 hG))))
          clear hoo hb4 hRb j5 hW4 hG
          go_wp2_with (first
            | (at_builtin; refine wpList_push elemChg rfl _ _ rfl rfl HW.out.1 W4.heap.size (rev, del, x0, x1, x2) rfl (block_new _ _) HC.out.2.2.2.2.2.2.2.2.1.1 HC.out.2.2.2.2.2.2.2.2.1.2.1 ?_))
          intro v' w' hown' hm' hb'
          have HF := Lib.hid (And.intro hown' (And.intro hm' hb'))
          clear hown' hm' hb'
          have e0 : w'.cell? ⟨G, 0, none⟩ = some (.int .i64 rev) := by
            obtain ⟨f1, f2, f3⟩ := HF.out
            have hnG : ¬ some G = u4.ownBlock := fun e => by
              have h1 := Back.own_lt HC.out.2.2.2.2.1 e.symm
              have h2 := HW.out.2.2.2.2
              omega
            rw [f2.cell (p := ⟨G, 0, none⟩) (by simp only [World.size_alloc]; have := HW.out.2.2.2.1; omega) hnG, ← c0]
            exact World.cell?_alloc_old _ _ _ (by have := HW.out.2.2.2.1; show G ≠ _; omega)
          go_wp2
          go_roundg (gk - 1)
          case measure => have h1 := HC.out.2; omega
          case rel =>
            obtain ⟨k1, k2, k3, k4, k5, k6, k7, k8, k9, k10⟩ := HC.out
            obtain ⟨f1, f2, f3⟩ := HF.out
            rw [if_pos HD.out] at k4
            have hs7 := f2.size
            simp only [World.size_alloc] at hs7 f3
            obtain ⟨g1, g2, g3, g4, g5⟩ := HW.out
            refine ⟨t + 1, by omega, by go_num, by rw [k4], by rw [k4]; exact f1, (g2.alloc (by omega) _).trans (f2.to_below (by simp only [World.size_alloc]; omega) (fun k hk => k8 k hk.symm)), by omega, fun k hk => ?_⟩
            rcases f3 k hk with h | h
            · exact k8 k h
            · omega
        · have q1 : decide (last < rev) = true := decide_eq_true h1
          have q2 : decide (rev ≤ 1125899906842624) = false := decide_eq_false h2
          have HD := Lib.hid h2
          clear h1 h2
          go_wp2_with (first
            | (refine wpList_load_mid rfl 43 (.tmp 18) rfl bk (o + t * 5) rfl (chgC (rev, del, x0, x1, x2)) _ HC.out.1 Try.underlying43 rfl infoC ?_; unfold chgC))
          go_roundg (gk - 1)
          case measure => have h1 := HC.out.2; omega
          case rel =>
            obtain ⟨k1, k2, k3, k4, k5, k6, k7, k8, k9, k10⟩ := HC.out
            rw [if_neg (fun h => by have := HD.out; omega)] at k4
            exact ⟨t + 1, by omega, by go_num, by rw [k4], by rw [k4]; exact k5.mod (S := fun _ => False) ((Mod.refl _ wr).alloc _) (fun _ _ h => h), k6.alloc (by omega) _, by simp only [World.size_alloc]; omega, k8⟩
      · have q1 : decide (last < rev) = false := decide_eq_false h1
        have HD := Lib.hid h1
        clear h1
        go_wp2_with (first
          | (refine wpList_load_mid rfl 43 (.tmp 18) rfl bk (o + t * 5) rfl (chgC (rev, del, x0, x1, x2)) _ HC.out.1 Try.underlying43 rfl infoC ?_; unfold chgC))
        go_roundg (gk - 1)
        case measure => have h1 := HC.out.2; omega
        case rel =>
          obtain ⟨k1, k2, k3, k4, k5, k6, k7, k8, k9, k10⟩ := HC.out
          rw [if_neg (fun h => by have := HD.out; omega)] at k4
          exact ⟨t + 1, by omega, by go_num, by rw [k4], by rw [k4]; exact k5.mod (S := fun _ => False) ((Mod.refl _ wr).alloc _) (fun _ _ h => h), k6.alloc (by omega) _, by simp only [World.size_alloc]; omega, k8⟩
    · have hci : ¬ (t : Int) < (n : Int) := by omega
      have ht : l.take t = l := List.take_of_length_le (by have := HH.out; omega)
      rw [ht] at hown ⊢
      have hris := ris l
      have hln := HH.out.2.2.1
      rw [hln] at hris
      obtain ⟨R, hR⟩ : ∃ R, (risS l).2 = R := ⟨_, rfl⟩
      obtain ⟨last, hlast⟩ : ∃ a, (risS l).1 = a := ⟨_, rfl⟩
      obtain ⟨r1, r2, r3, r4, r5⟩ := hris
      rw [hR] at hown r2 r3 r5
      rw [hlast]
      have hread := hown.read chgC_len
      obtain ⟨ao2, n2, cap2, rfl, hn2⟩ := hown.sl
      have hroom : (R.length + 2) * 64 ≤ 140737488355328 := Nat.le_trans (Nat.mul_le_mul_right 64 (Nat.add_le_add_right r5 2)) (by rw [Nat.add_mul]; exact Nat.le_trans (Nat.add_le_add_right HH.out.2.1 (2 * 64)) (by decide))
      have HT := Lib.hid (And.intro hread (And.intro hbel (And.intro hsz (And.intro r2 (And.intro r3 (And.intro hroom hn2))))))
      clear hown hbel hsz hwh htg hc ht hread r1 r2 r3 r4 r5 hroom hlast hR hn2
      go_wp2_with fail
      refine (rows_any HT.out.1 (Nat.le_trans (Nat.mul_le_mul_right 64 (by omega)) HT.out.2.2.2.2.2.1)).mono ?_
      rintro e w2 ⟨v2, l2, rfl, hso2, hst2, hown2, hb2, _⟩
      have hout : ((outL 0 1125899906842624 l2).length + 2) * 64 ≤ 140737488355328 := Nat.le_trans (Nat.mul_le_mul_right 64 (Nat.add_le_add_right (outL_len HT.out.2.2.2.1 HT.out.2.2.2.2.1 hst2) 2)) HT.out.2.2.2.2.2.1
      have hread2 := hown2.read rowC_len'
      obtain ⟨ao3, n3, cap3, rfl, hn3⟩ := hown2.sl
      have H2 := Lib.hid (And.intro (HT.out.2.1.trans (hb2.mono HT.out.2.2.1)) (And.intro (hread2) (And.intro (HT.out.1.mod (by decide) chgC_len (Mod.of_below hb2 (fun _ => False)) (fun _ _ h => h)) (And.intro hso2 (And.intro hst2 (And.intro hout (Nat.le_trans HT.out.2.2.1 hb2.size)))))))
      clear hown2 hb2 hread2 hso2 hst2 hout hn3
      go_wp2_with fail
      refine (changes_any H2.out.2.1 0 1125899906842624 H2.out.2.2.2.2.2.1).mono ?_
      rintro e w3 ⟨v3, l3, rfl, hso3, hst3, hown3, hb3, _⟩
      have he := again_eff HT.out.2.2.2.1 HT.out.2.2.2.2.1 H2.out.2.2.2.2.1 hst3 hso3
      have hread3 := hown3.read chgC_len
      obtain ⟨ao4, n4, cap4, rfl, hn4⟩ := hown3.sl
      have hsz3 := hb3.size
      have H3 := Lib.hid (And.intro (H2.out.1.trans (hb3.mono H2.out.2.2.2.2.2.2)) (And.intro hread3 (And.intro (H2.out.2.2.1.mod (by decide) chgC_len (Mod.of_below hb3 (fun _ => False)) (fun _ _ h => h)) (And.intro (H2.out.2.1.mod (by decide) rowC_len' (Mod.of_below hb3 (fun _ => False)) (fun _ _ h => h)) (And.intro he (And.intro hn4 (Nat.le_trans H2.out.2.2.2.2.2.2 hsz3)))))))
      clear hown3 hb3 hread3 hso3 hst3 he hn4 hsz3
      go_wp2_with fail
      clear hci hln
      obtain ⟨B3, hB3⟩ : ∃ b, w3.heap.size = b := ⟨_, rfl⟩
      go_loopg [9, 42] n2 (fun gg vm vi wx => ∃ t m : Nat, t + gg = n2 ∧ vi = .int .i64 (t : Int) ∧ vm = .int .i64 (m : Int) ∧ m ≤ n4 ∧ (l3.drop m).Sublist (R.drop t) ∧ Below B3 w3 wx ∧ B3 ≤ wx.heap.size)
      case atStart => exact ⟨0, 0, by omega, rfl, rfl, Nat.zero_le _, by rw [H3.out.2.2.2.2.1]; exact effG_sub R [], Below.refl _ _, by omega⟩
      case round =>
        obtain ⟨t, m, htg, rfl, rfl, hmn, hsub, hbel, hsz⟩ := hrel
        by_cases hc : t < n2
        · have hRn := HT.out.2.2.2.2.2.2
          have hl3n := H3.out.2.2.2.2.2.1
          obtain ⟨r, hx⟩ : ∃ r, R[t]? = some r := ⟨_, List.getElem?_eq_getElem (by omega)⟩
          obtain ⟨bk, o, rfl, hrange, hbl⟩ := H3.out.2.2.1.lt (by decide) chgC_len hx
          have hrange2 : wr.rangeAt bk (o + t * 5) (chgC r) := range_below hrange hbel (by omega)
          have hci : (t : Int) < (n2 : Int) := by omega
          have ht0 : (0 : Int) ≤ (t : Int) := by omega
          have hti : (t : Int) < 9223372036854775807 := by
            have := HT.out.2.2.2.2.2.1
            omega
          have HC := Lib.hid (And.intro hrange2 (And.intro hc (And.intro htg (And.intro hmn (And.intro hsub (And.intro hbel (And.intro hsz (And.intro hx (And.intro hRn hl3n)))))))))
          clear hrange hrange2 hc htg hmn hsub hbel hsz hbl hx hRn hl3n
          obtain ⟨rev, del, x0, x1, x2⟩ := r
          go_upto_region 18 with (first
            | (refine wpList_load_mid rfl 43 (.tmp 44) rfl bk (o + t * 5) rfl (chgC (rev, del, x0, x1, x2)) _ HC.out.1 Try.underlying43 rfl infoC ?_; unfold chgC))
          obtain ⟨G, hG⟩ : ∃ G, wr.heap.size = G := ⟨_, rfl⟩
          have hRb := block_new wr (.cells #[.int .i64 rev, .bool del, .string x0, .string x1, .string x2] 43)
          rw [hG] at hRb ⊢
          have hb4 := HC.out.2.2.2.2.2.1.alloc (by have := HC.out; omega) (.cells #[.int .i64 rev, .bool del, .string x0, .string x1, .string x2] 43)
          have j5 : G + 1 = (wr.alloc (.cells #[.int .i64 rev, .bool del, .string x0, .string x1, .string x2] 43)).heap.size := by simp [hG]
          generalize hW4 : wr.alloc (.cells #[.int .i64 rev, .bool del, .string x0, .string x1, .string x2] 43) = W4 at *
          have hGB : B3 ≤ G := by have := HC.out.2.2.2.2.2.2.1; omega
          have HW := Lib.hid (And.intro hb4 (And.intro hRb (And.intro j5 hGB)))
          clear hb4 hRb j5 hW4 hG hGB
          by_cases hm : m < n4
          · obtain ⟨y, hy⟩ : ∃ y, l3[m]? = some y := ⟨_, List.getElem?_eq_getElem (by have := HC.out; omega)⟩
            obtain ⟨bk2, o2, rfl, hra2, hbl2⟩ := H3.out.2.1.lt (by decide) chgC_len hy
            have hrb0 : W4.rangeAt bk2 (o2 + m * 5) (chgC y) := range_below hra2 HW.out.1 (by omega)
            have hrb2 : W4.drew.rangeAt bk2 (o2 + m * 5) (chgC y) := hrb0
            obtain ⟨cy, hcy⟩ : ∃ cy, chgC y = cy := ⟨_, rfl⟩
            have hy5 : cy.length = 5 := by rw [← hcy]; rfl
            rw [hcy] at hrb2
            have hlt2 : bk2 < W4.drew.heap.size := by have := HW.out; show bk2 < W4.heap.size; omega
            obtain ⟨bb, hbb⟩ : ∃ bb, decide (y = (rev, del, x0, x1, x2)) = bb := ⟨_, rfl⟩
            have hq : ∀ w, (Op.equal 43 (.agg cy.toArray) (.agg #[.int .i64 rev, .bool del, .string x0, .string x1, .string x2])).run Try.prog w = .ok bb w := fun w => by
              rw [← hcy, ← hbb]
              exact eqChg y (rev, del, x0, x1, x2) w
            have hmi : (m : Int) < (n4 : Int) := by omega
            have hm0 : (0 : Int) ≤ (m : Int) := by omega
            have hmi2 : IntKind.i64.wrap (m : Int) = (m : Int) := by
              have h1 := (effG_sub R []).length_le
              rw [← H3.out.2.2.2.2.1] at h1
              have h2 := HT.out.2.2.2.2.2.1
              have h3 := HC.out.2.2.2.2.2.2.2.2
              have h4 : R.length < 9223372036854775807 := by omega
              have h5 : m < 9223372036854775806 := by omega
              clear h1 h2 h3 h4
              simp [IntKind.wrap, IntKind.bits, IntKind.signed]; omega
            have hmi3 : IntKind.i64.wrap ((m : Int) + 1) = ((m + 1 : Nat) : Int) := by
              have h1 := (effG_sub R []).length_le
              rw [← H3.out.2.2.2.2.1] at h1
              have h2 := HT.out.2.2.2.2.2.1
              have h3 := HC.out.2.2.2.2.2.2.2.2
              have h4 : R.length < 9223372036854775807 := by omega
              have h5 : m < 9223372036854775806 := by omega
              clear h1 h2 h3 h4
              simp [IntKind.wrap, IntKind.bits, IntKind.signed]; omega
            have hRr : W4.drew.rangeAt G 0 (chgC (rev, del, x0, x1, x2)) := fun j u hu => cell_of (w := W4.drew) HW.out.2.1 (by rw [Nat.zero_add]; have hu2 : [Value.int .i64 rev, .bool del, .string x0, .string x1, .string x2][j]? = some u := hu; simpa using hu2)
            have HX := Lib.hid (And.intro hrb2 (And.intro hy5 (And.intro hlt2 (And.intro hq (And.intro hbb (And.intro hy (And.intro hmi3 hRr)))))))
            clear hra2 hrb0 hrb2 hy5 hlt2 hq hbb hy hbl2 hmi3 hcy hRr
            have hR4 := HW.out.2.1
            refine wp_region_held_drew (S := fun w' => Gr W4.drew w') (by kernel_rfl) (Gr.refl _) (fun hS => ?_)
            refine takeD (i := 0) rfl (by kernel_rfl) (by kernel_rfl) (by kernel_rfl) (fun _ _ _ h => h) hS (Or.inl ⟨by rfl, fun w hSw => by go_simp; rfl⟩) ?_
            simp only [Act.put, List.setIfInBounds_toArray, List.set_cons_zero, List.set_cons_succ]
            refine takeD (i := 1) rfl (by kernel_rfl) (by kernel_rfl) (by kernel_rfl) (fun _ _ _ h => h) hS (Or.inl ⟨by rfl, fun w hSw => by go_simp; rfl⟩) ?_
            simp only [Act.put, List.setIfInBounds_toArray, List.set_cons_zero, List.set_cons_succ]
            refine takeD (i := 2) rfl (by kernel_rfl) (by kernel_rfl) (by kernel_rfl) (fun _ _ _ h => h) hS (Or.inl ⟨by rfl, fun w hSw => by go_simp; rfl⟩) ?_
            simp only [Act.put, List.setIfInBounds_toArray, List.set_cons_zero, List.set_cons_succ]
            refine takeD (i := 3) (v := .bool true) rfl (by kernel_rfl) (by kernel_rfl) (by kernel_rfl) (fun _ _ _ h => h) hS (Or.inl ⟨by rfl, fun w hSw => by go_simp⟩) ?_
            simp only [Act.put, List.setIfInBounds_toArray, List.set_cons_zero, List.set_cons_succ]
            refine takeD (i := 4) rfl (by kernel_rfl) (by kernel_rfl) (by kernel_rfl) (fun _ _ _ h => h) hS (Or.inl ⟨by rfl, fun w hSw => by go_simp; rfl⟩) ?_
            simp only [Act.put, List.setIfInBounds_toArray, List.set_cons_zero, List.set_cons_succ]
            refine takeD (i := 5) rfl (by kernel_rfl) (by kernel_rfl) (by kernel_rfl) (fun _ _ _ h => h) hS (Or.inl ⟨by rfl, fun w hSw => by go_simp; rfl⟩) ?_
            simp only [Act.put, List.setIfInBounds_toArray, List.set_cons_zero, List.set_cons_succ]
            refine takeD (i := 6) rfl (by kernel_rfl) (by kernel_rfl) (by kernel_rfl) (fun _ _ _ h => h) hS (Or.inl ⟨by rfl, fun w hSw => by go_simp; rfl⟩) ?_
            simp only [Act.put, List.setIfInBounds_toArray, List.set_cons_zero, List.set_cons_succ]
            refine takeD (i := 7) rfl (by kernel_rfl) (by kernel_rfl) (by kernel_rfl) (fun _ _ _ h => h) hS (Or.inl ⟨by rfl, fun w hSw => by go_simp; rfl⟩) ?_
            simp only [Act.put, List.setIfInBounds_toArray, List.set_cons_zero, List.set_cons_succ]
            refine takeD (i := 8) rfl (by kernel_rfl) (by kernel_rfl) (by kernel_rfl) (fun _ _ _ h => h) hS (yieldsIf_load_mid (by rfl) 43 (.tmp 53) rfl bk2 (o2 + m * 5) rfl cy _ (fun w hSw => range_below HX.out.1 hSw.below HX.out.2.2.1) Try.underlying43 rfl (by rw [HX.out.2.1]; exact infoC)) ?_
            simp only [Act.put, List.setIfInBounds_toArray, List.set_cons_zero, List.set_cons_succ]
            refine takeD (i := 9) rfl (by kernel_rfl) (by kernel_rfl) (by kernel_rfl) (fun _ _ _ h => h) hS (yieldsIf_load_mid (by rfl) 43 (.tmp 11) rfl G 0 rfl (chgC (rev, del, x0, x1, x2)) _ (fun w hSw => range_below HX.out.2.2.2.2.2.2.2 hSw.below (by have := HW.out.2.2.1; show G < W4.heap.size; omega)) Try.underlying43 rfl infoC) ?_
            simp only [Act.put, List.setIfInBounds_toArray, List.set_cons_zero, List.set_cons_succ]
            simp only [chgC]
            refine takeD (i := 10) rfl (by kernel_rfl) (by kernel_rfl) (by kernel_rfl) (fun _ _ _ h => h) hS (yields_eqS (by rfl) 43 (.tmp 54) (.tmp 55) _ rfl cy.toArray #[.int .i64 rev, .bool del, .string x0, .string x1, .string x2] rfl rfl (by kernel_rfl) bb HX.out.2.2.2.1) ?_
            simp only [Act.put, List.setIfInBounds_toArray, List.set_cons_zero, List.set_cons_succ]
            refine takeD (i := 11) rfl (by kernel_rfl) (by kernel_rfl) (by kernel_rfl) (fun _ _ _ h => h) hS (Or.inl ⟨by rfl, fun w hSw => by go_simp; rfl⟩) ?_
            simp only [Act.put, List.setIfInBounds_toArray, List.set_cons_zero, List.set_cons_succ]
            refine wpAnyH_done (by kernel_rfl) ?_ _
            clear hS
            have hmb : (m : Int) < 9223372036854775806 := by
              have h1 := (effG_sub R []).length_le
              rw [← H3.out.2.2.2.2.1] at h1
              have h2 := HT.out.2.2.2.2.2.1
              have h3 := HC.out.2.2.2.2.2.2.2.2
              have h4 : R.length < 9223372036854775807 := by omega
              omega
            clear hmi2 hmi
            cases bb with
            | true =>
              go_wp2
              go_roundg (gk - 1)
              case measure => have h1 := HC.out.2; omega
              case rel =>
                obtain ⟨k1, k2, k3, k4, k5, k6, k7, k8, k9, k10⟩ := HC.out
                have hy := HX.out.2.2.2.2.2.1
                have hyx : y = (rev, del, x0, x1, x2) := of_decide_eq_true HX.out.2.2.2.2.1
                exact ⟨t + 1, m + 1, by omega, by go_num, by go_num, by omega, scan_hit k5 (by rw [hy, hyx]) k8, HW.out.1.drew, by have := HW.out; show B3 ≤ W4.heap.size; omega⟩
            | false =>
              go_wp2
              go_roundg (gk - 1)
              case measure => have h1 := HC.out.2; omega
              case rel =>
                obtain ⟨k1, k2, k3, k4, k5, k6, k7, k8, k9, k10⟩ := HC.out
                have hy := HX.out.2.2.2.2.2.1
                have hyx : ¬ y = (rev, del, x0, x1, x2) := of_decide_eq_false HX.out.2.2.2.2.1
                exact ⟨t + 1, m, by omega, by go_num, rfl, k4, scan_miss k5 hy k8 hyx, HW.out.1.drew, by have := HW.out; show B3 ≤ W4.heap.size; omega⟩
          · have hmi : ¬ (m : Int) < (n4 : Int) := by omega
            have HM := Lib.hid hm
            clear hm
            refine wp_region_held_drew (S := fun w' => Gr W4.drew w') (by kernel_rfl) (Gr.refl _) (fun hS => ?_)
            refine takeD (i := 0) rfl (by kernel_rfl) (by kernel_rfl) (by kernel_rfl) (fun _ _ _ h => h) hS (Or.inl ⟨by rfl, fun w hSw => by go_simp; rfl⟩) ?_
            simp only [Act.put, List.setIfInBounds_toArray, List.set_cons_zero, List.set_cons_succ]
            refine takeD (i := 1) rfl (by kernel_rfl) (by kernel_rfl) (by kernel_rfl) (fun _ _ _ h => h) hS (Or.inl ⟨by rfl, fun w hSw => by go_simp; rfl⟩) ?_
            simp only [Act.put, List.setIfInBounds_toArray, List.set_cons_zero, List.set_cons_succ]
            refine takeD (i := 2) rfl (by kernel_rfl) (by kernel_rfl) (by kernel_rfl) (fun _ _ _ h => h) hS (Or.inl ⟨by rfl, fun w hSw => by go_simp; rfl⟩) ?_
            simp only [Act.put, List.setIfInBounds_toArray, List.set_cons_zero, List.set_cons_succ]
            refine takeD (i := 3) (v := .bool false) rfl (by kernel_rfl) (by kernel_rfl) (by kernel_rfl) (fun _ _ _ h => h) hS (Or.inl ⟨by rfl, fun w hSw => by go_simp⟩) ?_
            simp only [Act.put, List.setIfInBounds_toArray, List.set_cons_zero, List.set_cons_succ]
            refine takeD (i := 4) rfl (by kernel_rfl) (by kernel_rfl) (by kernel_rfl) (fun _ _ _ h => h) hS (Or.inl ⟨by rfl, fun w hSw => by go_simp; rfl⟩) ?_
            simp only [Act.put, List.setIfInBounds_toArray, List.set_cons_zero, List.set_cons_succ]
            refine takeD (i := 5) (v := undef) rfl (by kernel_rfl) (by kernel_rfl) (by kernel_rfl) (fun _ _ _ h => h) hS (Or.inr ⟨by rfl, rfl⟩) ?_
            simp only [Act.put, List.setIfInBounds_toArray, List.set_cons_zero, List.set_cons_succ]
            refine takeD (i := 6) (v := undef) rfl (by kernel_rfl) (by kernel_rfl) (by kernel_rfl) (fun _ _ _ h => h) hS (Or.inr ⟨by rfl, rfl⟩) ?_
            simp only [Act.put, List.setIfInBounds_toArray, List.set_cons_zero, List.set_cons_succ]
            refine takeD (i := 7) (v := undef) rfl (by kernel_rfl) (by kernel_rfl) (by kernel_rfl) (fun _ _ _ h => h) hS (Or.inr ⟨by rfl, rfl⟩) ?_
            simp only [Act.put, List.setIfInBounds_toArray, List.set_cons_zero, List.set_cons_succ]
            refine takeD (i := 8) (v := undef) rfl (by kernel_rfl) (by kernel_rfl) (by kernel_rfl) (fun _ _ _ h => h) hS (Or.inr ⟨by rfl, rfl⟩) ?_
            simp only [Act.put, List.setIfInBounds_toArray, List.set_cons_zero, List.set_cons_succ]
            refine takeD (i := 9) (v := undef) rfl (by kernel_rfl) (by kernel_rfl) (by kernel_rfl) (fun _ _ _ h => h) hS (Or.inr ⟨by rfl, rfl⟩) ?_
            simp only [Act.put, List.setIfInBounds_toArray, List.set_cons_zero, List.set_cons_succ]
            refine takeD (i := 10) (v := undef) rfl (by kernel_rfl) (by kernel_rfl) (by kernel_rfl) (fun _ _ _ h => h) hS (Or.inr ⟨by rfl, rfl⟩) ?_
            simp only [Act.put, List.setIfInBounds_toArray, List.set_cons_zero, List.set_cons_succ]
            refine takeD (i := 11) rfl (by kernel_rfl) (by kernel_rfl) (by kernel_rfl) (fun _ _ _ h => h) hS (Or.inl ⟨by rfl, fun w hSw => by go_simp; rfl⟩) ?_
            simp only [Act.put, List.setIfInBounds_toArray, List.set_cons_zero, List.set_cons_succ]
            refine wpAnyH_done (by kernel_rfl) ?_ _
            clear hS
            go_wp2
            go_roundg (gk - 1)
            case measure => have h1 := HC.out.2; omega
            case rel =>
              obtain ⟨k1, k2, k3, k4, k5, k6, k7, k8, k9, k10⟩ := HC.out
              have hmm := HM.out
              exact ⟨t + 1, m, by omega, by go_num, rfl, k4, scan_end (by omega), HW.out.1.drew, by have := HW.out; show B3 ≤ W4.heap.size; omega⟩
        · have hci : ¬ (t : Int) < (n2 : Int) := by omega
          have hm4 : m = n4 := by
            have hRn := HT.out.2.2.2.2.2.2
            have hl3n := H3.out.2.2.2.2.2.1
            have hd : R.drop t = [] := List.drop_eq_nil_of_le (by omega)
            rw [hd] at hsub
            have h1 := List.sublist_nil.1 hsub
            have h2 := List.drop_eq_nil_iff.1 h1
            omega
          subst hm4
          have hb3 := H3.out.1.trans (hbel.mono (show B ≤ B3 by have := H3.out.2.2.2.2.2.2; omega))
          have m1 := Mod.of_below (show Below w3.heap.size w3 wr by rw [hB3]; exact hbel) (fun _ => False)
          obtain ⟨g1, g2, g3, g4, g5, g6, g7⟩ := H3.out
          have HA := Lib.hid (And.intro hb3 (And.intro (g2.mod (by decide) chgC_len m1 (fun _ _ h => h)) (And.intro (g3.mod (by decide) chgC_len m1 (fun _ _ h => h)) (And.intro (g4.mod (by decide) rowC_len' m1 (fun _ _ h => h)) (show B ≤ wr.heap.size by omega)))))
          have hlen3 : l3.length ≤ R.length := by
            rw [g5]
            exact (effG_sub R []).length_le
          have hroom3 : (([] : List Tup).length + l3.length + 1) * 48 ≤ 140737488355328 := Nat.le_trans (Nat.mul_le_mul (show ([] : List Tup).length + l3.length + 1 ≤ R.length + 2 by simp; omega) (show 48 ≤ 64 by decide)) HT.out.2.2.2.2.2.1
          have hroomR : (([] : List Tup).length + R.length + 1) * 48 ≤ 140737488355328 := Nat.le_trans (Nat.mul_le_mul (show ([] : List Tup).length + R.length + 1 ≤ R.length + 2 by simp) (show 48 ≤ 64 by decide)) HT.out.2.2.2.2.2.1
          have hroom4 : (l3.length + 1) * 64 ≤ 140737488355328 := Nat.le_trans (Nat.mul_le_mul_right 64 (by omega)) HT.out.2.2.2.2.2.1
          have HL := Lib.hid (And.intro hroom3 (And.intro hroomR hroom4))
          clear htg hsub hbel hsz hc hb3 m1 g1 g2 g3 g4 g5 g6 g7 hlen3 hroom3 hroomR hroom4 hB3
          go_wp2_with fail
          refine (play_any (readNilT wr) HA.out.2.1 HL.out.1).mono ?_
          rintro e w5 ⟨v5, rfl, hown5, hb5, _⟩
          have m5 := Mod.of_below hb5 (fun _ => False)
          obtain ⟨g1, g2, g3, g4, g5⟩ := HA.out
          have H5 := Lib.hid (And.intro (g1.trans (hb5.mono g5)) (And.intro (g2.mod (by decide) chgC_len m5 (fun _ _ h => h)) (And.intro (g3.mod (by decide) chgC_len m5 (fun _ _ h => h)) (And.intro (g4.mod (by decide) rowC_len' m5 (fun _ _ h => h)) (And.intro (Nat.le_trans g5 hb5.size) hown5)))))
          clear g1 g2 g3 g4 g5 m5 hb5 hown5
          go_wp2_with fail
          refine (play_any (readNilT w5) H5.out.2.2.1 HL.out.2.1).mono ?_
          rintro e w6 ⟨v6, rfl, hown6, hb6, _⟩
          have m6 := Mod.of_below hb6 (fun _ => False)
          obtain ⟨g1, g2, g3, g4, g5, g6⟩ := H5.out
          have hz : ∀ c ∈ R, c.1 ≠ 0 := fun c hc => by have := (HT.out.2.2.2.2.1 c hc).1; omega
          have hpl : playL [] l3 = playL [] R := by rw [H3.out.2.2.2.2.1]; exact playL_eff hz
          rw [hpl] at g6
          have H6 := Lib.hid (And.intro (g1.trans (hb6.mono g5)) (And.intro (g2.mod (by decide) chgC_len m6 (fun _ _ h => h)) (And.intro (g4.mod (by decide) rowC_len' m6 (fun _ _ h => h)) (And.intro (Nat.le_trans g5 hb6.size) (And.intro (g6.mod (S := fun _ => False) m6 (fun _ _ h => h)) hown6)))))
          clear g1 g2 g3 g4 g5 g6 m6 hb6 hown6 hz hpl
          go_wp2_with fail
          refine (tuples_any (H6.out.2.2.2.2.1.read tupC_len) (H6.out.2.2.2.2.2.read tupC_len)).mono ?_
          rintro e w7 ⟨rfl, hm7⟩
          rw [decide_eq_true (rfl : playL [] R = playL [] R)]
          have hb7 : Below w6.heap.size w6 w7 := hm7.to_below (Nat.le_refl _) (fun _ h => h.elim)
          obtain ⟨g1, g2, g3, g4, g5⟩ := H6.out
          have H7 := Lib.hid (And.intro (g1.trans (hb7.mono g4)) (And.intro (g2.mod (by decide) chgC_len hm7 (fun _ _ h => h)) (And.intro (g3.mod (by decide) rowC_len' hm7 (fun _ _ h => h)) (Nat.le_trans g4 hb7.size))))
          clear g1 g2 g3 g4 g5 hm7 hb7
          go_wp2_with fail
          refine (rows_any H7.out.2.1 HL.out.2.2).mono ?_
          rintro e w8 ⟨v8, l8, rfl, hso8, hst8, hown8, hb8, _⟩
          have m8 := Mod.of_below hb8 (fun _ => False)
          have hl8 : l8 = l2 := by
            rw [H3.out.2.2.2.2.1, rowsF_eff] at hst8
            exact Stab.uniq rowSwo l8 l2 hso8 H2.out.2.2.2.1 (hst8.symm.trans H2.out.2.2.2.2.1)
          subst hl8
          obtain ⟨g1, g2, g3, g4⟩ := H7.out
          have H8 := Lib.hid (And.intro (g1.trans (hb8.mono g4)) (And.intro (hown8.read rowC_len') (And.intro (g3.mod (by decide) rowC_len' m8 (fun _ _ h => h)) (Nat.le_trans g4 hb8.size))))
          clear g1 g2 g3 g4 m8 hb8 hown8 hso8 hst8
          go_wp2_with fail
          refine (same07_any H8.out.2.1 H8.out.2.2.1).mono ?_
          rintro e w9 ⟨rfl, hm9⟩
          rw [decide_eq_true (rfl : l8 = l8)]
          have hb9 : Below w8.heap.size w8 w9 := hm9.to_below (Nat.le_refl _) (fun _ h => h.elim)
          have H9 := Lib.hid (H8.out.1.trans (hb9.mono H8.out.2.2.2))
          clear hm9 hb9
          go_wp2
          go_ret
          exact ⟨rfl, by rw [HH.out.2.2.2]; exact H9.out⟩
end Go.Proofs.Ytobcakjlfdejjaa.WatchEffect
