/- WatchNet, where what came in is of bulk at most 1048576: what leads from some tuples to others does so in a store, and n: part 19 of 32: what it leans on. -/
import Derived.Test.YtojjnfhgldjgbaaGreatDoorNtA
import Derived.Test.YtojjnfhgldjgbaaGreatDoorNtB
import Derived.Test.YtojjnfhgldjgbaaGreatDoorNtC
import Derived.Test.YtojjnfhgldjgbaaGreatDoorNtD
import Derived.Test.YtojjnfhgldjgbaaGreatDoorNtE
import Derived.Test.YtojjnfhgldjgbaaGreatDoorNtL
import Derived.Test.YtojjnfhgldjgbaaGreatDoorNtM
import Derived.Test.YtojjnfhgldjgbaaGreatDoorNtN
import Derived.Test.YtojjnfhgldjgbaaGreatDoorNtO
import Derived.Test.YtojjnfhgldjgbaaGreatDoorNtP
import Derived.Test.YtojjnfhgldjgbaaGreatDoorNtQ
import Derived.Test.YtojjnfhgldjgbaaGreatDoorNtR
section
set_option linter.unusedVariables false
set_option linter.unusedSimpArgs false
namespace Go.Proofs.YtojjnfhgldjgbaaGreatDoor.Watch
open Go.RowKit Go.Por Go.Sort

theorem chgC_ones (x : Chg) : ∀ u ∈ chgC x, u.oneCell' = true := cells_chg x
theorem elemChg : Elem Tryz.prog 26 83 chgC 5 64 :=
  Elem.mk' (z := .agg #[.int .i64 0, .bool false, .string ByteArray.empty, .string ByteArray.empty, .string ByteArray.empty]) Tryz.underlying26 (by kernel_rfl) rfl chgC_len chgC_ones (by decide)

/-- What one call of the closure adds. -/
def addL (fr up rev : Int) (del : Bool) (x : Tup) : List Chg := if fr < rev ∧ rev ≤ up then [(rev, del, x)] else []
/-- The box holds a slice of changes. -/
structure BoxC (w : World) (O : Nat) (v : Value) (l : List Chg) : Prop where
  box : w.heap[O]? = some (.cells #[v] 26 (0, 0))
  own : OwnS chgC 5 w 83 v l

set_option maxRecDepth 100000 in
set_option maxHeartbeats 1600000 in
theorem add_chg {w : World} {F T O : Nat} {v : Value} {l : List Chg} (fr up rev : Int) (del : Bool) (x : Tup) (hF : w.heap[F]? = some (.cells #[.int .i64 fr] 2 (0, 0))) (hT : w.heap[T]? = some (.cells #[.int .i64 up] 2 (0, 0))) (hO : BoxC w O v l) (hl : (l.length + 1) * 64 ≤ 140737488355328) :
    Calls Tryz.prog 38 #[.int .i64 rev, .bool del, .agg (tupC x).toArray, .pointer (some ⟨F, 0, none⟩), .pointer (some ⟨T, 0, none⟩), .pointer (some ⟨O, 0, none⟩)] w fun e w' =>
      e = .returned (.tuple #[]) ∧ ∃ v', BoxC w' O v' (l ++ addL fr up rev del x) ∧ Mod (fun k => k = O ∨ some k = v.ownBlock) w w' ∧ ∀ k, v'.ownBlock = some k → v.ownBlock = some k ∨ w.heap.size ≤ k := by
  obtain ⟨x0, x1, x2⟩ := x
  unfold tupC
  have hsz : ∀ k, k < w.heap.size → (w.alloc (.cells #[.string x0, .string x1, .string x2] 41)).heap[k]? = w.heap[k]? := fun k hk => Below.heap_alloc _ _ _ hk
  have f0 : (w.alloc (.cells #[.string x0, .string x1, .string x2] 41)).cell? ⟨F, 0, none⟩ = some (.int .i64 fr) := cell_of (block_alloc hF _) rfl
  have t0 : (w.alloc (.cells #[.string x0, .string x1, .string x2] 41)).cell? ⟨T, 0, none⟩ = some (.int .i64 up) := cell_of (block_alloc hT _) rfl
  have o0 : (w.alloc (.cells #[.string x0, .string x1, .string x2] 41)).cell? ⟨O, 0, none⟩ = some v := cell_of (block_alloc hO.box _) rfl
  have hlt := lt_block hO.box
  have HH := Lib.hid (And.intro hO (And.intro hl hlt))
  clear hO hl hF hT hsz hlt
  by_cases h1 : fr < rev
  · by_cases h2 : rev ≤ up
    · have ha : addL fr up rev del (x0, x1, x2) = [(rev, del, x0, x1, x2)] := if_pos ⟨h1, h2⟩
      rw [ha]
      go_enter Tryz.func38, Tryz.ntmps38
      go_wp2_with (first
        | (at_builtin; refine wpList_push elemChg rfl _ _ rfl rfl (OwnS.mod HH.out.1.own ((((Mod.refl (fun _ => False) w).alloc _)).alloc _) (fun _ _ h => h)) (w.heap.size + 1) (rev, del, x0, x1, x2) rfl ?c1 HH.out.2.1 ?c2 ?_))
      case c1 =>
        have := block_new (w.alloc (.cells #[.string x0, .string x1, .string x2] 41)) (.cells #[.int .i64 rev, .bool del, .string x0, .string x1, .string x2] 83)
        rw [World.size_alloc] at this
        exact this
      case c2 => have := HH.out.2.1; unfold maxLen; omega
      · intro v' w' hown' hm' hb'
        obtain ⟨ao', n', cap', rfl, hn'⟩ := hown'.sl
        clear hn'
        obtain ⟨hO, hl, hlt⟩ := HH.out
        have hb2 : w'.heap[O]? = some (.cells #[v] 26 (0, 0)) := hm'.old (block_alloc (block_alloc hO.box _) _) (fun e => own_ne hO.own hO.box (by decide) e.symm)
        have c2 : w'.cell? ⟨O, 0, none⟩ = some v := cell_of (i := 0) hb2 rfl
        have c3 := free_of (i := 0) hb2
        have hne : (Value.slice ao' n' cap').ownBlock ≠ some O := fun e => by
          rcases hb' O e with h | h
          · exact own_ne hO.own hO.box (by decide) h
          · omega
        have HE := Lib.hid (And.intro hb2 (And.intro hown' (And.intro hm' (And.intro hb' hne))))
        clear hO hl hlt hb2 hown' hm' hb' hne
        go_wp2
        (try simp only [Exit.inBlock, Exit.then])
        refine bodyPost_end (results_none rfl _ _ _) rfl ?_
        obtain ⟨hb2, hown', hm', hb', hne⟩ := HE.out
        refine ⟨rfl, _, ⟨block_setCell hb2 _, hown'.mod (S := fun k => k = O) ((Mod.refl (fun k => k = O) w').setCell (p := ⟨O, 0, none⟩) (.inl rfl) _) (fun k hk e => hne (by rw [hk, show k = O from e]))⟩, ?_, fun k hk => ?_⟩
        · refine Mod.setCell ?_ (.inl (.inl rfl)) _
          exact (((Mod.refl _ w).alloc _).alloc _).trans hm' (fun k hk => .inl (.inr hk))
        · rcases hb' k hk with h | h
          · exact .inl h
          · exact .inr (by omega)
    · have ha : addL fr up rev del (x0, x1, x2) = [] := if_neg (fun h => h2 h.2)
      rw [ha, List.append_nil]
      go_enter Tryz.func38, Tryz.ntmps38
      go_wp2
      (try simp only [Exit.inBlock, Exit.then])
      refine bodyPost_end (results_none rfl _ _ _) rfl ?_
      obtain ⟨hO, hl, hlt⟩ := HH.out
      exact ⟨rfl, v, ⟨block_alloc hO.box _, hO.own.mod (S := fun _ => False) ((Mod.refl _ w).alloc _) (fun _ _ h => h)⟩, (Mod.refl _ w).alloc _, fun k hk => .inl hk⟩
  · have ha : addL fr up rev del (x0, x1, x2) = [] := if_neg (fun h => h1 h.1)
    rw [ha, List.append_nil]
    go_enter Tryz.func38, Tryz.ntmps38
    go_wp2
    (try simp only [Exit.inBlock, Exit.then])
    refine bodyPost_end (results_none rfl _ _ _) rfl ?_
    obtain ⟨hO, hl, hlt⟩ := HH.out
    exact ⟨rfl, v, ⟨block_alloc hO.box _, hO.own.mod (S := fun _ => False) ((Mod.refl _ w).alloc _) (fun _ _ h => h)⟩, (Mod.refl _ w).alloc _, fun k hk => .inl hk⟩

theorem small_of {N : Nat} (h : (N + 2) * 64 ≤ 140737488355328) : N < 576460752303423488 := by
  have : N + 2 ≤ (N + 2) * 64 := Nat.le_mul_of_pos_right _ (by decide)
  omega
theorem len1 {a : List Chg} {n N K : Nat} (h : a.length + n ≤ N) (h2 : (N + 2) * 64 ≤ K) : (a.length + 1) * 64 ≤ K := Nat.le_trans (Nat.mul_le_mul_right 64 (by omega)) h2
theorem len2 {a b c : List Chg} {N K : Nat} (h : a.length + (b ++ c).length ≤ N) (h2 : (N + 2) * 64 ≤ K) : ((a ++ b).length + 1) * 64 ≤ K := by
  rw [List.length_append] at *
  exact Nat.le_trans (Nat.mul_le_mul_right 64 (by omega)) h2
theorem BoxC.keep {w w' : World} {O : Nat} {v : Value} {l : List Chg} (hb : BoxC w O v l) (hm : Mod (fun k => k = O ∨ some k = v.ownBlock) w w') {b : Nat} {cs : Array Value} {t : TypeId} (h : w.heap[b]? = some (.cells cs t (0, 0))) (ht : 83 ≠ t) (hne : b ≠ O) : w'.heap[b]? = some (.cells cs t (0, 0)) :=
  hm.old h (fun hk => hk.elim hne (fun e => own_ne hb.own h ht e.symm))
/-- What one row adds. -/
def rowAdd (fr up : Int) (r : RowT) : List Chg := if r.2.2 ≠ 0 ∧ r.2.2 ≤ r.2.1 then [] else addL fr up r.2.1 false r.1 ++ (if r.2.2 ≠ 0 then addL fr up r.2.2 true r.1 else [])
def outL (fr up : Int) (rows : List RowT) : List Chg := rows.flatMap (rowAdd fr up)
theorem outL_succ (fr up : Int) (rows : List RowT) (t : Nat) (r : RowT) (h : rows[t]? = some r) : outL fr up (rows.take (t + 1)) = outL fr up (rows.take t) ++ rowAdd fr up r := by
  unfold outL
  rw [List.take_add_one, h, List.flatMap_append]
  simp
theorem outL_le (fr up : Int) (rows : List RowT) (t : Nat) : (outL fr up (rows.take t)).length ≤ (outL fr up rows).length := by
  conv => rhs; rw [← List.take_append_drop t rows]
  unfold outL
  rw [List.flatMap_append, List.length_append]
  omega

set_option maxRecDepth 100000 in
set_option maxHeartbeats 3200000 in
theorem changes_any {w : World} {v : Value} {rows : List RowT} (hr : ReadS rowC 5 w v rows) (fr up : Int) (hb : ((outL fr up rows).length + 2) * 64 ≤ 140737488355328) :
    Calls Tryz.prog 14 #[v, .int .i64 fr, .int .i64 up] w fun e w' =>
      ∃ v' l, e = .returned v' ∧ Stab.Sorted (ltOf ccmp) l ∧ Stab.Stab (ltOf ccmp) (outL fr up rows) l ∧ OwnS chgC 5 w' 83 v' l ∧ Below w.heap.size w w' ∧ ∀ k, v'.ownBlock = some k → w.heap.size ≤ k := by
  obtain ⟨ao, cap, rfl, hlen⟩ := hr.form
  obtain ⟨B, hB⟩ : ∃ B, w.heap.size = B := ⟨_, rfl⟩
  obtain ⟨n, hn⟩ : ∃ n, rows.length = n := ⟨_, rfl⟩
  rw [hn] at hr hlen ⊢
  have HH := Lib.hid (And.intro hr (And.intro hb (And.intro hlen (And.intro hB hn))))
  clear hr hb
  go_enter Tryz.func14, Tryz.ntmps14
  go_wp2
  have hB0 : (((w.alloc (.cells #[.int .i64 fr] 2)).alloc (.cells #[.int .i64 up] 2)).alloc (.cells #[.slice none 0 0] 26)).heap.size = B + 1 + 1 + 1 := by simp [hB]
  have hF := block_new w (.cells #[.int .i64 fr] 2)
  have hT := block_new (w.alloc (.cells #[.int .i64 fr] 2)) (.cells #[.int .i64 up] 2)
  have hO := block_new ((w.alloc (.cells #[.int .i64 fr] 2)).alloc (.cells #[.int .i64 up] 2)) (.cells #[.slice none 0 0] 26)
  rw [hB] at hF
  rw [World.size_alloc, hB] at hT
  rw [World.size_alloc, World.size_alloc, hB] at hO
  have hF2 := block_alloc (block_alloc hF (.cells #[.int .i64 up] 2)) (.cells #[.slice none 0 0] 26)
  have hT2 := block_alloc hT (.cells #[.slice none 0 0] 26)
  have hbel := (((Below.refl B w).alloc (by omega) (.cells #[.int .i64 fr] 2)).alloc (by simp; omega) (.cells #[.int .i64 up] 2)).alloc (by simp; omega) (.cells #[.slice none 0 0] 26)
  generalize hW3 : ((w.alloc (.cells #[.int .i64 fr] 2)).alloc (.cells #[.int .i64 up] 2)).alloc (.cells #[.slice none 0 0] 26) = W3 at *
  have HW := Lib.hid (And.intro hF2 (And.intro hT2 (And.intro hO (And.intro hbel hB0))))
  clear hF hT hO hF2 hT2 hbel hB0 hW3
  go_loopg [14] n (fun gg vi wx => ∃ (t : Nat) (v' : Value), t + gg = n ∧ vi = .int .i64 (t : Int) ∧ BoxC wx (B + 1 + 1) v' (outL fr up (rows.take t)) ∧ wx.heap[B]? = some (.cells #[.int .i64 fr] 2 (0, 0)) ∧ wx.heap[B + 1]? = some (.cells #[.int .i64 up] 2 (0, 0)) ∧ Below B w wx ∧ B + 1 + 1 + 1 ≤ wx.heap.size ∧ ∀ k, v'.ownBlock = some k → B + 1 + 1 + 1 ≤ k)
  case atStart => exact ⟨0, _, by omega, rfl, ⟨HW.out.2.2.1, OwnS.nil _ _ _ _⟩, HW.out.1, HW.out.2.1, HW.out.2.2.2.1, by rw [HW.out.2.2.2.2]; exact Nat.le_refl _, fun k h => by simp [Value.ownBlock] at h⟩
  case round =>
    obtain ⟨t, v1, htg, rfl, hbox, hF, hT, hbel, hsz, hwh⟩ := hrel
    have HI := Lib.hid (And.intro hbox (And.intro hF (And.intro hT (And.intro hbel (And.intro hsz (And.intro hwh htg))))))
    by_cases hc : t < n
    · obtain ⟨r, hx⟩ : ∃ r, rows[t]? = some r := ⟨_, List.getElem?_eq_getElem (by omega)⟩
      obtain ⟨b, o, rfl, hrange, hbl⟩ := HH.out.1.lt (by decide) rowC_len' hx
      have hrange2 : wr.rangeAt b (o + t * 5) (rowC r) := range_below hrange hbel (by omega)
      obtain ⟨⟨x0, x1, x2⟩, since, til⟩ := r
      have hci : (t : Int) < (n : Int) := by omega
      have hti : (t : Int) < 9223372036854775807 := by omega
      have HC := Lib.hid (And.intro hx (And.intro hrange2 (And.intro hc hbl)))
      clear hbox hF hT hbel hsz hwh htg hx hrange hrange2 hbl hc
      go_upto_region 6 with (first
        | (refine wpList_load_mid rfl 63 (.tmp 16) rfl b (o + t * 5) rfl (rowC ((x0, x1, x2), since, til)) _ HC.out.2.1 Tryz.underlying63 rfl infoR ?_; unfold rowC))
      obtain ⟨R, hR⟩ : ∃ R, wr.heap.size = R := ⟨_, rfl⟩
      have hRb := block_new wr (.cells #[.string x0, .string x1, .string x2, .int .i64 since, .int .i64 til] 63)
      rw [hR] at hRb ⊢
      obtain ⟨i1, i2, i3, i4, i5, i6, i7⟩ := HI.out
      have j1 : BoxC (wr.alloc (.cells #[.string x0, .string x1, .string x2, .int .i64 since, .int .i64 til] 63)) (B + 1 + 1) v1 (outL fr up (rows.take t)) := ⟨block_alloc i1.box _, i1.own.mod (S := fun _ => False) ((Mod.refl _ wr).alloc _) (fun _ _ h => h)⟩
      have j2 := block_alloc i2 (.cells #[.string x0, .string x1, .string x2, .int .i64 since, .int .i64 til] 63)
      have j3 := block_alloc i3 (.cells #[.string x0, .string x1, .string x2, .int .i64 since, .int .i64 til] 63)
      have j4 := i4.alloc (by omega) (.cells #[.string x0, .string x1, .string x2, .int .i64 since, .int .i64 til] 63)
      have j5 : R + 1 = (wr.alloc (.cells #[.string x0, .string x1, .string x2, .int .i64 since, .int .i64 til] 63)).heap.size := by simp [hR]
      generalize hW4 : wr.alloc (.cells #[.string x0, .string x1, .string x2, .int .i64 since, .int .i64 til] 63) = W4 at *
      have c0 : W4.cell? ⟨R, 0, none⟩ = some (.string x0) := cell_of hRb rfl
      have c1 : W4.cell? ⟨R, 1, none⟩ = some (.string x1) := cell_of hRb rfl
      have c2 : W4.cell? ⟨R, 2, none⟩ = some (.string x2) := cell_of hRb rfl
      have c3 : W4.cell? ⟨R, 3, none⟩ = some (.int .i64 since) := cell_of hRb rfl
      have c4 : W4.cell? ⟨R, 4, none⟩ = some (.int .i64 til) := cell_of hRb rfl
      have hR1 : B + 1 + 1 + 1 ≤ R := by omega
      have hlb := outL_le fr up rows (t + 1)
      rw [outL_succ fr up rows t _ HC.out.1, List.length_append] at hlb
      have hb := HH.out.2.1
      have hout := outL_succ fr up rows t _ HC.out.1
      have HJ := Lib.hid (And.intro j1 (And.intro j2 (And.intro j3 (And.intro j4 (And.intro hRb (And.intro hR1 (And.intro i6 (And.intro i7 (And.intro j5 hlb)))))))))
      have HO := Lib.hid (And.intro hout hb)
      clear i1 i2 i3 i4 i5 i6 i7 j1 j2 j3 j4 j5 hW4 hR hRb hR1 hlb hb hout HI
      by_cases hz : til = 0
      · have q : (til != 0) = false := by simp [hz]
        have ha : rowAdd fr up ((x0, x1, x2), since, til) = addL fr up since false (x0, x1, x2) := by
          unfold rowAdd
          rw [if_neg (fun h => h.1 hz), if_neg (fun h => h hz), List.append_nil]
        rw [ha] at HO
        clear ha hz
        go_wp2_with fail
        refine (add_chg (w := W4) (F := B) (T := B + 1) (O := B + 1 + 1) fr up since false (x0, x1, x2) HJ.out.2.1 HJ.out.2.2.1 HJ.out.1 (len1 HJ.out.2.2.2.2.2.2.2.2.2 HO.out.2)).mono ?_
        rintro e w5 ⟨rfl, v2, hb5, hm5, hw5⟩
        obtain ⟨j1, j2, j3, j4, j5, j6, j7, j8, j9, j10⟩ := HJ.out
        have k2 := j1.keep hm5 j2 (by decide) (by omega)
        have k3 := j1.keep hm5 j3 (by decide) (by omega)
        have k5 := j1.keep hm5 j5 (by decide) (by omega)
        have k4 : Below B W4 w5 := hm5.to_below (by omega) (fun k hk => by
          rcases hk with rfl | hk
          · omega
          · have := j7 k hk.symm; omega)
        have k6 : ∀ k, v2.ownBlock = some k → B + 1 + 1 + 1 ≤ k := fun k hk => by
          rcases hw5 k hk with h | h
          · exact j7 k h
          · omega
        have k7 := hm5.size
        have c0 : w5.cell? ⟨R, 0, none⟩ = some (.string x0) := cell_of k5 rfl
        have c1 : w5.cell? ⟨R, 1, none⟩ = some (.string x1) := cell_of k5 rfl
        have c2 : w5.cell? ⟨R, 2, none⟩ = some (.string x2) := cell_of k5 rfl
        have c3 : w5.cell? ⟨R, 3, none⟩ = some (.int .i64 since) := cell_of k5 rfl
        have c4 : w5.cell? ⟨R, 4, none⟩ = some (.int .i64 til) := cell_of k5 rfl
        have HK := Lib.hid (And.intro hb5 (And.intro k2 (And.intro k3 (And.intro (j4.trans k4) (And.intro k6 (And.intro (show R + 1 ≤ w5.heap.size by omega) (And.intro j6 (And.intro j8 (And.intro j10 hw5)))))))))
        clear j1 j2 j3 j4 j5 j6 j7 j8 j9 j10 k2 k3 k4 k5 k6 k7 hb5 hm5 hw5 HJ
        go_wp2
        go_roundg (gk - 1)
        case measure => have h1 := HK.out; have h2 := HC.out; omega
        case rel =>
          obtain ⟨j1, j2, j3, j4, j5, j6, j7, j8, j9, j10⟩ := HK.out
          have h2 := HC.out
          exact ⟨t + 1, v2, by omega, by go_num, by rw [HO.out.1]; exact j1, j2, j3, j4, by omega, j5⟩
      · have q : (til != 0) = true := by rw [bne_iff_ne]; exact hz
        by_cases hle : til ≤ since
        · have ha : rowAdd fr up ((x0, x1, x2), since, til) = [] := if_pos ⟨hz, hle⟩
          rw [ha] at HO
          have HE := Lib.hid ha
          clear ha hz
          go_wp2
          go_roundg (gk - 1)
          case measure => have h1 := HJ.out; have h2 := HC.out; omega
          case rel =>
            obtain ⟨j1, j2, j3, j4, j5, j6, j7, j8, j9, j10⟩ := HJ.out
            have h2 := HC.out
            exact ⟨t + 1, v1, by omega, by go_num, by rw [HO.out.1, List.append_nil]; exact j1, j2, j3, j4, by omega, j7⟩
        · have ha : rowAdd fr up ((x0, x1, x2), since, til) = addL fr up since false (x0, x1, x2) ++ addL fr up til true (x0, x1, x2) := by
            unfold rowAdd
            rw [if_neg (fun h => hle h.2), if_pos hz]
          rw [ha] at HO
          have HE := Lib.hid (And.intro ha hz)
          clear ha hz
          go_wp2_with fail
          refine (add_chg (w := W4) (F := B) (T := B + 1) (O := B + 1 + 1) fr up since false (x0, x1, x2) HJ.out.2.1 HJ.out.2.2.1 HJ.out.1 (len1 HJ.out.2.2.2.2.2.2.2.2.2 HO.out.2)).mono ?_
          rintro e w5 ⟨rfl, v2, hb5, hm5, hw5⟩
          obtain ⟨j1, j2, j3, j4, j5, j6, j7, j8, j9, j10⟩ := HJ.out
          have k2 := j1.keep hm5 j2 (by decide) (by omega)
          have k3 := j1.keep hm5 j3 (by decide) (by omega)
          have k5 := j1.keep hm5 j5 (by decide) (by omega)
          have k4 : Below B W4 w5 := hm5.to_below (by omega) (fun k hk => by
            rcases hk with rfl | hk
            · omega
            · have := j7 k hk.symm; omega)
          have k6 : ∀ k, v2.ownBlock = some k → B + 1 + 1 + 1 ≤ k := fun k hk => by
            rcases hw5 k hk with h | h
            · exact j7 k h
            · omega
          have k7 := hm5.size
          have c0 : w5.cell? ⟨R, 0, none⟩ = some (.string x0) := cell_of k5 rfl
          have c1 : w5.cell? ⟨R, 1, none⟩ = some (.string x1) := cell_of k5 rfl
          have c2 : w5.cell? ⟨R, 2, none⟩ = some (.string x2) := cell_of k5 rfl
          have c3 : w5.cell? ⟨R, 3, none⟩ = some (.int .i64 since) := cell_of k5 rfl
          have c4 : w5.cell? ⟨R, 4, none⟩ = some (.int .i64 til) := cell_of k5 rfl
          have HK := Lib.hid (And.intro hb5 (And.intro k2 (And.intro k3 (And.intro (j4.trans k4) (And.intro k6 (And.intro (show R + 1 ≤ w5.heap.size by omega) (And.intro j6 (And.intro j8 (And.intro j10 hw5)))))))))
          clear j1 j2 j3 j4 j5 j6 j7 j8 j9 j10 k2 k3 k4 k5 k6 k7 hb5 hm5 hw5 HJ
          go_wp2_with fail
          refine (add_chg (w := w5) (F := B) (T := B + 1) (O := B + 1 + 1) fr up til true (x0, x1, x2) HK.out.2.1 HK.out.2.2.1 HK.out.1 (len2 (by have h1 := HK.out.2.2.2.2.2.2.2.2.1; rw [HE.out.1] at h1; exact h1) HO.out.2)).mono ?_
          rintro e w6 ⟨rfl, v3, hb5, hm5, hw5⟩
          obtain ⟨j1, j2, j3, j4, j5, j6, j7, j8, j9, j10⟩ := HK.out
          have k2 := j1.keep hm5 j2 (by decide) (by omega)
          have k3 := j1.keep hm5 j3 (by decide) (by omega)
          have k4 : Below B w5 w6 := hm5.to_below (by omega) (fun k hk => by
            rcases hk with rfl | hk
            · omega
            · have := j5 k hk.symm; omega)
          have k6 : ∀ k, v3.ownBlock = some k → B + 1 + 1 + 1 ≤ k := fun k hk => by
            rcases hw5 k hk with h | h
            · exact j5 k h
            · omega
          have k7 := hm5.size
          have HL := Lib.hid (And.intro hb5 (And.intro k2 (And.intro k3 (And.intro (j4.trans k4) (And.intro k6 (And.intro (show R + 1 ≤ w6.heap.size by omega) (And.intro j7 j8)))))))
          clear j1 j2 j3 j4 j5 j6 j7 j8 j9 j10 k2 k3 k4 k6 k7 hb5 hm5 hw5 HK c0 c1 c2 c3 c4
          go_wp2
          go_roundg (gk - 1)
          case measure => have h1 := HL.out; have h2 := HC.out; omega
          case rel =>
            obtain ⟨j1, j2, j3, j4, j5, j6, j7, j8⟩ := HL.out
            have h2 := HC.out
            exact ⟨t + 1, v3, by omega, by go_num, by rw [HO.out.1, ← List.append_assoc]; exact j1, j2, j3, j4, by omega, j5⟩
    · have hci : ¬ (t : Int) < (n : Int) := by omega
      have HC := Lib.hid hc
      obtain ⟨i1, i2, i3, i4, i5, i6, i7⟩ := HI.out
      have i0 : wr.cell? ⟨B + 1 + 1, 0, none⟩ = some v1 := cell_of i1.box rfl
      clear hbox hF hT hbel hsz hwh htg hc i1 i2 i3 i4 i5 i6 i7
      go_wp2_with fail
      obtain ⟨i1, i2, i3, i4, i5, i6, i7⟩ := HI.out
      have hcc := HC.out
      have ht : rows.take t = rows := List.take_of_length_le (by omega)
      rw [ht] at i1
      refine (sortStable_chg i1.own (small_of HH.out.2.1)).mono ?_
      rintro e w5 ⟨rfl, l, hs, hst, hown5, hm5⟩
      have k1 : w5.heap[B + 1 + 1]? = some (.cells #[v1] 26 (0, 0)) := hm5.old i1.box (fun e => own_ne i1.own i1.box (by decide) e.symm)
      have k2 : w5.cell? ⟨B + 1 + 1, 0, none⟩ = some v1 := cell_of k1 rfl
      have k3 : Below B wr w5 := hm5.to_below (by omega) (fun k hk => by have := i6 k hk.symm; omega)
      have HK := Lib.hid (And.intro hs (And.intro hst (And.intro hown5 (And.intro (i4.trans k3) i6))))
      clear hs hst hown5 hm5 k1 k3 i1 i2 i3 i4 i5 i6 i7 hcc ht
      go_wp2
      go_ret
      obtain ⟨h1, h2, h3, h4, h5⟩ := HK.out
      exact ⟨v1, l, rfl, h1, h2, h3, by rw [hB]; exact h4, fun k hk => by have := h5 k hk; omega⟩
end Go.Proofs.YtojjnfhgldjgbaaGreatDoor.Watch
end
