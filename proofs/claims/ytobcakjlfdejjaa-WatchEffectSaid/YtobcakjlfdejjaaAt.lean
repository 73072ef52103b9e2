/- watch.At. -/
import Derived.Test.YtobcakjlfdejjaaCompactT
set_option linter.unusedVariables false
set_option linter.unusedSimpArgs false
namespace Go.Proofs.Ytobcakjlfdejjaa.Watch
open Go.RowKit Go.Por Go.Sort

/-- Is a row there at a revision? -/
def isAt (rev : Int) (r : RowT) : Bool := decide (r.2.1 ≤ rev) && (decide (r.2.2 = 0) || decide (rev < r.2.2))
def thereL (rows : List RowT) (rev : Int) : List Tup := (rows.filter (isAt rev)).map (·.1)
def atL (rows : List RowT) (rev : Int) : List Tup := compactL ((thereL rows rev).mergeSort tle)
theorem thereL_succ (rows : List RowT) (rev : Int) (t : Nat) (r : RowT) (h : rows[t]? = some r) : thereL (rows.take (t + 1)) rev = thereL (rows.take t) rev ++ (if isAt rev r then [r.1] else []) := by
  unfold thereL
  rw [List.take_add_one, h, Option.toList_some, List.filter_append, List.map_append]
  congr 1
  by_cases h : isAt rev r = true <;> simp [h]
theorem thereL_le (rows : List RowT) (rev : Int) (t : Nat) : (thereL (rows.take t) rev).length ≤ rows.length := by
  unfold thereL
  rw [List.length_map]
  refine Nat.le_trans (List.length_filter_le _ _) ?_
  rw [List.length_take]
  omega
theorem room48 {a n : Nat} (h : a ≤ n) (h2 : (n + 1) * 48 ≤ 140737488355328) : (a + 1) * 48 ≤ 140737488355328 := Nat.le_trans (Nat.mul_le_mul_right 48 (by omega)) h2
theorem room48' {a n : Nat} (h : a ≤ n) (h2 : (n + 1) * 48 ≤ 140737488355328) : a + 1 ≤ maxLen ∧ a < 4611686018427387904 := by
  have : n + 1 ≤ (n + 1) * 48 := Nat.le_mul_of_pos_right _ (by decide)
  unfold maxLen
  omega

set_option maxRecDepth 100000 in
set_option maxHeartbeats 3200000 in
theorem at_any {w : World} {v : Value} {rows : List RowT} (hr : ReadS rowC 5 w v rows) (rev : Int) (hb : (rows.length + 1) * 48 ≤ 140737488355328) :
    Calls Try.prog 13 #[v, .int .i64 rev] w fun e w' =>
      ∃ v', e = .returned v' ∧ OwnS tupC 3 w' 37 v' (atL rows rev) ∧ Below w.heap.size w w' ∧ ∀ k, v'.ownBlock = some k → w.heap.size ≤ k := by
  obtain ⟨ao, cap, rfl, hlen⟩ := hr.form
  obtain ⟨B, hB⟩ : ∃ B, w.heap.size = B := ⟨_, rfl⟩
  obtain ⟨n, hn⟩ : ∃ n, rows.length = n := ⟨_, rfl⟩
  rw [hn] at hr hlen hb ⊢
  have HH := Lib.hid (And.intro hr (And.intro hb (And.intro hlen (And.intro hB hn))))
  clear hr hb
  rw [hB]
  go_enter Try.func13, Try.ntmps13
  go_wp2
  go_loopg [5, 10] n (fun gg v1 vi wx => ∃ (t : Nat), t + gg = n ∧ vi = .int .i64 (t : Int) ∧ OwnS tupC 3 wx 37 v1 (thereL (rows.take t) rev) ∧ Below B w wx ∧ B ≤ wx.heap.size ∧ ∀ k, v1.ownBlock = some k → B ≤ k)
  case atStart => exact ⟨0, by omega, rfl, OwnS.nil _ _ _ _, Below.refl _ _, by omega, fun k h => by simp [Value.ownBlock] at h⟩
  case round =>
    obtain ⟨t, htg, rfl, hown, hbel, hsz, hwh⟩ := hrel
    have HI := Lib.hid (And.intro hown (And.intro hbel (And.intro hsz (And.intro hwh htg))))
    by_cases hc : t < n
    · obtain ⟨r, hx⟩ : ∃ r, rows[t]? = some r := ⟨_, List.getElem?_eq_getElem (by omega)⟩
      obtain ⟨b, o, rfl, hrange, hbl⟩ := HH.out.1.lt (by decide) rowC_len' hx
      have hrange2 : wr.rangeAt b (o + t * 5) (rowC r) := range_below hrange hbel (by omega)
      obtain ⟨⟨x0, x1, x2⟩, since, til⟩ := r
      have hci : (t : Int) < (n : Int) := by omega
      have hti : (t : Int) < 9223372036854775807 := by omega
      have HC := Lib.hid (And.intro hx (And.intro hrange2 (And.intro hc hbl)))
      clear hown hbel hsz hwh htg hx hrange hrange2 hbl hc
      go_upto_region 5 with (first
        | (refine wpList_load_mid rfl 39 (.tmp 12) rfl b (o + t * 5) rfl (rowC ((x0, x1, x2), since, til)) _ HC.out.2.1 Try.underlying39 rfl infoR ?_; unfold rowC))
      obtain ⟨R, hR⟩ : ∃ R, wr.heap.size = R := ⟨_, rfl⟩
      have hRb := block_new wr (.cells #[.string x0, .string x1, .string x2, .int .i64 since, .int .i64 til] 39)
      rw [hR] at hRb ⊢
      obtain ⟨i1, i2, i3, i4, i5⟩ := HI.out
      have j1 : OwnS tupC 3 (wr.alloc (.cells #[.string x0, .string x1, .string x2, .int .i64 since, .int .i64 til] 39)) 37 u5 (thereL (rows.take t) rev) := i1.mod (S := fun _ => False) ((Mod.refl _ wr).alloc _) (fun _ _ h => h)
      have j4 := i2.alloc (by omega) (.cells #[.string x0, .string x1, .string x2, .int .i64 since, .int .i64 til] 39)
      have j5 : R + 1 = (wr.alloc (.cells #[.string x0, .string x1, .string x2, .int .i64 since, .int .i64 til] 39)).heap.size := by simp [hR]
      generalize hW4 : wr.alloc (.cells #[.string x0, .string x1, .string x2, .int .i64 since, .int .i64 til] 39) = W4 at *
      have c0 : W4.cell? ⟨R, 0, none⟩ = some (.string x0) := cell_of hRb rfl
      have c1 : W4.cell? ⟨R, 1, none⟩ = some (.string x1) := cell_of hRb rfl
      have c2 : W4.cell? ⟨R, 2, none⟩ = some (.string x2) := cell_of hRb rfl
      have c3 : W4.cell? ⟨R, 3, none⟩ = some (.int .i64 since) := cell_of hRb rfl
      have c4 : W4.cell? ⟨R, 4, none⟩ = some (.int .i64 til) := cell_of hRb rfl
      have hout := thereL_succ rows rev t _ HC.out.1
      have hle := thereL_le rows rev t
      have hroom := room48 hle (by rw [HH.out.2.2.2.2]; exact HH.out.2.1)
      have hroom' := room48' hle (by rw [HH.out.2.2.2.2]; exact HH.out.2.1)
      have HJ := Lib.hid (And.intro j1 (And.intro j4 (And.intro (show B ≤ R by omega) (And.intro i4 (And.intro i5 (And.intro j5 (And.intro hroom hroom')))))))
      clear i1 i2 i3 i4 i5 j1 j4 j5 hW4 hR hRb hle hroom hroom' HI
      by_cases h1 : since ≤ rev
      · by_cases h2 : til = 0
        · have q : (til == 0) = true := by simp [h2]
          have ha : isAt rev ((x0, x1, x2), since, til) = true := by simp [isAt, h1, h2]
          have HO := Lib.hid (show thereL (rows.take (t + 1)) rev = thereL (rows.take t) rev ++ [(x0, x1, x2)] by rw [hout, ha]; rfl)
          clear ha h2 hout
          go_wp2_with (first
            | (at_builtin; refine wpList_push elemTup rfl _ _ rfl rfl (OwnS.mod HJ.out.1 ((Mod.refl (fun _ => False) W4).alloc _) (fun _ _ h => h)) W4.heap.size (x0, x1, x2) rfl (block_new _ _) HJ.out.2.2.2.2.2.2.1 HJ.out.2.2.2.2.2.2.2.1 ?_))
          intro v' w' hown' hm' hb'
          have HK := Lib.hid (And.intro hown' (And.intro hm' hb'))
          clear hown' hm' hb'
          go_wp2
          go_roundg (gk - 1)
          case measure => have h1 := HJ.out; have h2 := HC.out; omega
          case rel =>
            obtain ⟨j1, j2, j3, j4, j5, j6, j7, j8⟩ := HJ.out
            obtain ⟨k1, k2, k3⟩ := HK.out
            have hlt := HC.out.2.2.1
            have hsz := k2.size
            simp only [World.size_alloc] at hsz
            exact ⟨t + 1, by omega, by go_num, by rw [HO.out]; exact k1, (j2.alloc (by omega) _).trans (k2.to_below (by simp only [World.size_alloc]; omega) (fun k hk => j4 k hk.symm)), by omega, fun k hk => by
              rcases k3 k hk with h | h
              · exact j4 k h
              · omega⟩
        · have q : (til == 0) = false := by simp [h2]
          by_cases h3 : rev < til
          · have ha : isAt rev ((x0, x1, x2), since, til) = true := by simp [isAt, h1, h3]
            have HO := Lib.hid (show thereL (rows.take (t + 1)) rev = thereL (rows.take t) rev ++ [(x0, x1, x2)] by rw [hout, ha]; rfl)
            clear ha h2 hout
            go_wp2_with (first
              | (at_builtin; refine wpList_push elemTup rfl _ _ rfl rfl (OwnS.mod HJ.out.1 ((Mod.refl (fun _ => False) W4).alloc _) (fun _ _ h => h)) W4.heap.size (x0, x1, x2) rfl (block_new _ _) HJ.out.2.2.2.2.2.2.1 HJ.out.2.2.2.2.2.2.2.1 ?_))
            intro v' w' hown' hm' hb'
            have HK := Lib.hid (And.intro hown' (And.intro hm' hb'))
            clear hown' hm' hb'
            go_wp2
            go_roundg (gk - 1)
            case measure => have h1 := HJ.out; have h2 := HC.out; omega
            case rel =>
              obtain ⟨j1, j2, j3, j4, j5, j6, j7, j8⟩ := HJ.out
              obtain ⟨k1, k2, k3⟩ := HK.out
              have hlt := HC.out.2.2.1
              have hsz := k2.size
              simp only [World.size_alloc] at hsz
              exact ⟨t + 1, by omega, by go_num, by rw [HO.out]; exact k1, (j2.alloc (by omega) _).trans (k2.to_below (by simp only [World.size_alloc]; omega) (fun k hk => j4 k hk.symm)), by omega, fun k hk => by
                rcases k3 k hk with h | h
                · exact j4 k h
                · omega⟩
          · have ha : isAt rev ((x0, x1, x2), since, til) = false := by simp [isAt, h2, h3]
            have HO := Lib.hid (show thereL (rows.take (t + 1)) rev = thereL (rows.take t) rev by rw [hout, ha]; simp)
            clear ha h2 hout
            go_wp2
            go_roundg (gk - 1)
            case measure => have h1 := HJ.out; have h2 := HC.out; omega
            case rel =>
              obtain ⟨j1, j2, j3, j4, j5, j6, j7, j8⟩ := HJ.out
              have hlt := HC.out.2.2.1
              exact ⟨t + 1, by omega, by go_num, by rw [HO.out]; exact j1, j2, by omega, j4⟩
      · have ha : isAt rev ((x0, x1, x2), since, til) = false := by simp [isAt, h1]
        have HO := Lib.hid (show thereL (rows.take (t + 1)) rev = thereL (rows.take t) rev by rw [hout, ha]; simp)
        clear ha hout
        go_wp2
        go_roundg (gk - 1)
        case measure => have h1 := HJ.out; have h2 := HC.out; omega
        case rel =>
          obtain ⟨j1, j2, j3, j4, j5, j6, j7, j8⟩ := HJ.out
          have hlt := HC.out.2.2.1
          exact ⟨t + 1, by omega, by go_num, by rw [HO.out]; exact j1, j2, by omega, j4⟩
    · have hci : ¬ (t : Int) < (n : Int) := by omega
      have HC := Lib.hid hc
      clear hown hbel hsz hwh htg hc
      go_wp2_with fail
      obtain ⟨i1, i2, i3, i4, i5⟩ := HI.out
      have hcc := HC.out
      have ht : rows.take t = rows := List.take_of_length_le (by omega)
      have hle := thereL_le rows rev t
      have hroom' := room48' hle (by rw [HH.out.2.2.2.2]; exact HH.out.2.1)
      refine (sort_tup i1 hroom'.2).mono ?_
      rintro e w5 ⟨rfl, hown5, hm5⟩
      have k3 : Below B w w5 := i2.trans (hm5.to_below (by omega) (fun k hk => i4 k hk.symm))
      have HK := Lib.hid (And.intro hown5 (And.intro k3 (And.intro i4 (And.intro ht (show B ≤ w5.heap.size by have := hm5.size; omega)))))
      clear hown5 hm5 k3 i1 i2 i3 i4 i5 hcc ht hle hroom'
      go_wp2_with fail
      refine (compactAnyTup HK.out.1).mono ?_
      rintro e w6 ⟨v6, rfl, hown6, hv6, hm6⟩
      have HL := Lib.hid (And.intro hown6 (And.intro hv6 hm6))
      clear hown6 hv6 hm6
      go_wp2
      go_ret
      obtain ⟨h1, h2, h3, h4, h5⟩ := HK.out
      obtain ⟨k1, k2, k3⟩ := HL.out
      refine ⟨v6, rfl, ?_, h2.trans (k3.to_below h5 (fun k hk => h3 k hk.symm)), fun k hk => h3 k (by rw [← k2]; exact hk)⟩
      unfold atL
      rw [← h4]
      exact k1
end Go.Proofs.Ytobcakjlfdejjaa.Watch
