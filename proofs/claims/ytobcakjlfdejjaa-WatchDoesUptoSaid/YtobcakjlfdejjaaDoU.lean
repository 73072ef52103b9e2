/- The law WatchDoes of the watch, where what came in is of bulk at most 1048576: raw changes done to raw tuples, the rows : part 21 of 38: what it leans on. -/
import Derived.Test.YtobcakjlfdejjaaDoA
import Derived.Test.YtobcakjlfdejjaaDoB
import Derived.Test.YtobcakjlfdejjaaDoC
import Derived.Test.YtobcakjlfdejjaaDoD
import Derived.Test.YtobcakjlfdejjaaDoE
import Derived.Test.YtobcakjlfdejjaaDoF
import Derived.Test.YtobcakjlfdejjaaDoG
import Derived.Test.YtobcakjlfdejjaaDoH
import Derived.Test.YtobcakjlfdejjaaDoI
import Derived.Test.YtobcakjlfdejjaaDoJ
import Derived.Test.YtobcakjlfdejjaaDoK
import Derived.Test.YtobcakjlfdejjaaDoL
import Derived.Test.YtobcakjlfdejjaaDoM
import Derived.Test.YtobcakjlfdejjaaDoN
import Derived.Test.YtobcakjlfdejjaaDoO
import Derived.Test.YtobcakjlfdejjaaDoP
import Derived.Test.YtobcakjlfdejjaaDoQ
import Derived.Test.YtobcakjlfdejjaaDoR
import Derived.Test.YtobcakjlfdejjaaDoS
import Derived.Test.YtobcakjlfdejjaaDoT
section
set_option linter.unusedVariables false
set_option linter.unusedSimpArgs false
namespace Go.Proofs.Ytobcakjlfdejjaa.Watch
open Go.RowKit Go.Por Go.Sort

theorem elemMut : Elem Try.prog 54 41 mutC 4 56 :=
  Elem.mk' (z := .agg #[.bool false, .string ByteArray.empty, .string ByteArray.empty, .string ByteArray.empty]) Try.underlying54 (by kernel_rfl) rfl mutC_len oneMut (by decide)
/-- What is in the one alone, as mutations. -/
def outOf (d : Bool) (l m : List Tup) : List Mut := (l.filter (fun x => !tin x m)).map (fun x => (d, x))
def netU (a b : List Tup) : List Mut := outOf true a b ++ outOf false b a
theorem outOf_succ (d : Bool) (l m : List Tup) (t : Nat) (x : Tup) (h : l[t]? = some x) : outOf d (l.take (t + 1)) m = outOf d (l.take t) m ++ (if tin x m then [] else [(d, x)]) := by
  unfold outOf
  rw [List.take_add_one, h, Option.toList_some, List.filter_append, List.map_append]
  congr 1
  by_cases h : tin x m = true
  · simp [h]
  · simp [h]
theorem outOf_le (d : Bool) (l m : List Tup) (t : Nat) : (outOf d (l.take t) m).length ≤ (outOf d l m).length := by
  conv => rhs; rw [← List.take_append_drop t l]
  unfold outOf
  rw [List.filter_append, List.map_append, List.length_append]
  omega
theorem room56 {a n : Nat} (h : a ≤ n) (h2 : (n + 1) * 56 ≤ 140737488355328) : (a + 1) * 56 ≤ 140737488355328 ∧ a + 1 ≤ maxLen ∧ a < 4611686018427387904 := by
  have h1 : (a + 1) * 56 ≤ 140737488355328 := Nat.le_trans (Nat.mul_le_mul_right 56 (by omega)) h2
  have : a + 1 ≤ (a + 1) * 56 := Nat.le_mul_of_pos_right _ (by decide)
  unfold maxLen
  exact ⟨h1, by omega, by omega⟩

set_option maxRecDepth 100000 in
set_option maxHeartbeats 4000000 in
theorem net_any {w : World} {v1 v2 : Value} {a b : List Tup} (h1 : ReadS tupC 3 w v1 a) (h2 : ReadS tupC 3 w v2 b) (hb : ((netU a b).length + 1) * 56 ≤ 140737488355328) :
    Calls Try.prog 23 #[v1, v2] w fun e w' => ∃ v' l', e = .returned v' ∧ l'.Perm (netU a b) ∧ Stab.Sorted (ltOf mcmp) l' ∧ OwnS mutC 4 w' 41 v' (compactL l') ∧ Below w.heap.size w w' ∧ ∀ k, v'.ownBlock = some k → w.heap.size ≤ k := by
  obtain ⟨ao1, cap1, rfl, hl1⟩ := h1.form
  obtain ⟨ao2, cap2, rfl, hl2⟩ := h2.form
  obtain ⟨n1, hn1⟩ : ∃ n, a.length = n := ⟨_, rfl⟩
  obtain ⟨n2, hn2⟩ : ∃ n, b.length = n := ⟨_, rfl⟩
  obtain ⟨B, hB⟩ : ∃ B, w.heap.size = B := ⟨_, rfl⟩
  rw [hn1] at h1 hl1 ⊢
  rw [hn2] at h2 hl2 ⊢
  have HH := Lib.hid (And.intro h1 (And.intro h2 (And.intro hb (And.intro hB (And.intro hn1 hn2)))))
  clear h1 h2 hb
  go_enter Try.func23, Try.ntmps23
  go_wp2
  go_loopg [5, 12] n1 (fun gg sv vi wx => ∃ t : Nat, t + gg = n1 ∧ vi = .int .i64 (t : Int) ∧ OwnS mutC 4 wx 41 sv (outOf true (a.take t) b) ∧ Below B w wx ∧ B ≤ wx.heap.size ∧ ∀ k, sv.ownBlock = some k → B ≤ k)
  case atStart => exact ⟨0, by omega, rfl, OwnS.nil _ _ _ _, Below.refl _ _, by omega, fun k h => by simp [Value.ownBlock] at h⟩
  case round =>
    obtain ⟨t, htg, rfl, hown, hbel, hsz, hwh⟩ := hrel
    by_cases hc : t < n1
    · obtain ⟨r, hx⟩ : ∃ r, a[t]? = some r := ⟨_, List.getElem?_eq_getElem (by omega)⟩
      obtain ⟨bk, o, rfl, hrange, hbl⟩ := HH.out.1.lt (by decide) tupC_len hx
      have hrange2 : wr.rangeAt bk (o + t * 3) (tupC r) := range_below hrange hbel (by omega)
      have hout := outOf_succ true a b t r hx
      have hle : (outOf true (a.take t) b).length ≤ (netU a b).length := by
        have h1 := outOf_le true a b t
        unfold netU
        simp only [List.length_append] at h1 ⊢
        omega
      have hroom := room56 hle HH.out.2.2.1
      obtain ⟨x0, x1, x2⟩ := r
      have hci : (t : Int) < (n1 : Int) := by omega
      have hti : (t : Int) < 9223372036854775807 := by omega
      obtain ⟨O1, hO1⟩ : ∃ O1, outOf true (a.take t) b = O1 := ⟨_, rfl⟩
      rw [hO1] at hown hroom hle
      obtain ⟨W4, hW4⟩ : ∃ W4, wr.alloc (.cells #[.string x0, .string x1, .string x2] 37) = W4 := ⟨_, rfl⟩
      have hRb := block_new wr (.cells #[.string x0, .string x1, .string x2] 37)
      have hb4 := hbel.alloc (by omega) (.cells #[.string x0, .string x1, .string x2] 37)
      have hown4 : OwnS mutC 4 (wr.alloc (.cells #[.string x0, .string x1, .string x2] 37)) 41 u5 O1 := hown.mod (S := fun _ => False) ((Mod.refl _ wr).alloc _) (fun _ _ h => h)
      have hs4 : W4.heap.size = wr.heap.size + 1 := by rw [← hW4]; simp
      rw [hW4] at hRb hb4 hown4
      obtain ⟨R, hR⟩ : ∃ R, wr.heap.size = R := ⟨_, rfl⟩
      rw [hR] at hRb hs4
      have c0 : W4.cell? ⟨R, 0, none⟩ = some (.string x0) := cell_of hRb rfl
      have c1 : W4.cell? ⟨R, 1, none⟩ = some (.string x1) := cell_of hRb rfl
      have c2 : W4.cell? ⟨R, 2, none⟩ = some (.string x2) := cell_of hRb rfl
      have hcon := contains_any (x0, x1, x2) (HH.out.2.1.mod (S := fun _ => False) (by decide) tupC_len (Mod.of_below (by rw [hB]; exact hb4) (fun _ => False)) (fun _ _ h => h))
      unfold tupC at hcon
      obtain ⟨bb, hbb⟩ : ∃ bb, tin (x0, x1, x2) b = bb := ⟨_, rfl⟩
      rw [hbb] at hcon hout
      have HC := Lib.hid (And.intro hrange2 (And.intro hc (And.intro htg (And.intro hcon (And.intro hout (And.intro hO1 (And.intro hown4 (And.intro hb4 (And.intro hroom (And.intro hwh (And.intro hRb (And.intro (show B ≤ R by omega) hs4))))))))))))
      clear hrange hrange2 hc htg hcon hout hO1 hown hown4 hb4 hroom hwh hRb hle hbel hsz hbl hx hbb hs4
      go_wp2_with (first
        | (refine wpList_load_mid rfl 37 (.tmp 14) rfl bk (o + t * 3) rfl (tupC (x0, x1, x2)) _ HC.out.1 Try.underlying37 rfl infoTup0 ?_; unfold tupC))
      refine (HC.out.2.2.2.1).mono ?_
      rintro e w5 ⟨rfl, hb5⟩
      clear hW4 hR
      obtain ⟨k1, k2, k3, k4, k5, k6, k7, k8, k9, k10, k11, k12, k13⟩ := HC.out
      have hown5 : OwnS mutC 4 w5 41 u5 O1 := k7.mod (Mod.of_below hb5 (fun _ => False)) (fun _ _ h => h)
      have hR5 : w5.heap[R]? = some (.cells #[.string x0, .string x1, .string x2] 37 (0, 0)) := (hb5.block R (by omega)).trans k11
      have d0 : w5.cell? ⟨R, 0, none⟩ = some (.string x0) := cell_of hR5 rfl
      have d1 : w5.cell? ⟨R, 1, none⟩ = some (.string x1) := cell_of hR5 rfl
      have d2 : w5.cell? ⟨R, 2, none⟩ = some (.string x2) := cell_of hR5 rfl
      have hB5 : Below B w w5 := k8.trans (hb5.mono (by omega))
      have hs5 := hb5.size
      have HD := Lib.hid (And.intro hown5 (And.intro hB5 (show B ≤ w5.heap.size by omega)))
      clear hown5 hR5 hB5 hs5 hb5 k1 k2 k3 k4 k5 k6 k7 k8 k9 k10 k11 k12 k13 c0 c1 c2
      cases bb with
      | true =>
        go_wp2
        go_roundg (gk - 1)
        case measure => have h1 := HC.out.2; omega
        case rel =>
          obtain ⟨k1, k2, k3, k4, k5, k6, k7, k8, k9, k10, k11, k12, k13⟩ := HC.out
          refine ⟨t + 1, by omega, by go_num, ?_, HD.out.2.1, HD.out.2.2, k10⟩
          rw [k5, if_pos (by simp), List.append_nil, k6]
          exact HD.out.1
      | false =>
        have hoo : OwnS mutC 4 (w5.alloc (.cells #[.bool true, .string x0, .string x1, .string x2] 41)) 41 u5 O1 := HD.out.1.mod (S := fun _ => False) ((Mod.refl _ w5).alloc _) (fun _ _ h => h)
        have HE := Lib.hid hoo
        clear hoo
        go_wp2_with (first
          | (at_builtin; refine wpList_push elemMut rfl _ _ rfl rfl HE.out w5.heap.size (true, x0, x1, x2) rfl (block_new _ _) HC.out.2.2.2.2.2.2.2.2.1.1 HC.out.2.2.2.2.2.2.2.2.1.2.1 ?_))
        intro v' w' hown' hm' hb'
        have HF := Lib.hid (And.intro hown' (And.intro hm' hb'))
        clear hown' hm' hb'
        go_wp2
        go_roundg (gk - 1)
        case measure => have h1 := HC.out.2; omega
        case rel =>
          obtain ⟨k1, k2, k3, k4, k5, k6, k7, k8, k9, k10, k11, k12, k13⟩ := HC.out
          obtain ⟨f1, f2, f3⟩ := HF.out
          obtain ⟨d1, d2, d3⟩ := HD.out
          have hs7 := f2.size
          simp only [World.size_alloc] at hs7 f3
          refine ⟨t + 1, by omega, by go_num, ?_, (d2.alloc (by omega) _).trans (f2.to_below (by simp only [World.size_alloc]; omega) (fun k hk => k10 k hk.symm)), by omega, fun k hk => ?_⟩
          · rw [k5, if_neg (by simp), k6]
            exact f1
          · rcases f3 k hk with h | h
            · exact k10 k h
            · omega
    · have hci : ¬ (t : Int) < (n1 : Int) := by omega
      have ht : a.take t = a := List.take_of_length_le (by have := HH.out; omega)
      rw [ht] at hown
      have HT := Lib.hid (And.intro hown (And.intro hbel (And.intro hsz hwh)))
      clear hown hbel hsz hwh htg hc ht
      go_wp2
      go_loopg [5, 28] n2 (fun gg sv vi wx => ∃ t : Nat, t + gg = n2 ∧ vi = .int .i64 (t : Int) ∧ OwnS mutC 4 wx 41 sv (outOf true a b ++ outOf false (b.take t) a) ∧ Below B w wx ∧ B ≤ wx.heap.size ∧ ∀ k, sv.ownBlock = some k → B ≤ k)
      case atStart => exact ⟨0, by omega, rfl, by simpa [outOf] using HT.out.1, HT.out.2.1, HT.out.2.2.1, HT.out.2.2.2⟩
      case round =>
        obtain ⟨t, htg, rfl, hown, hbel, hsz, hwh⟩ := hrel
        by_cases hc : t < n2
        · obtain ⟨r, hx⟩ : ∃ r, b[t]? = some r := ⟨_, List.getElem?_eq_getElem (by omega)⟩
          obtain ⟨bk, o, rfl, hrange, hbl⟩ := HH.out.2.1.lt (by decide) tupC_len hx
          have hrange2 : wr.rangeAt bk (o + t * 3) (tupC r) := range_below hrange hbel (by omega)
          have hout := outOf_succ false b a t r hx
          have hle : (outOf true a b ++ outOf false (b.take t) a).length ≤ (netU a b).length := by
            have h1 := outOf_le false b a t
            unfold netU
            simp only [List.length_append] at h1 ⊢
            omega
          have hroom := room56 hle HH.out.2.2.1
          obtain ⟨x0, x1, x2⟩ := r
          have hci : (t : Int) < (n2 : Int) := by omega
          have hti : (t : Int) < 9223372036854775807 := by omega
          obtain ⟨O1, hO1⟩ : ∃ O1, outOf true a b ++ outOf false (b.take t) a = O1 := ⟨_, rfl⟩
          rw [hO1] at hown hroom hle
          obtain ⟨W4, hW4⟩ : ∃ W4, wr.alloc (.cells #[.string x0, .string x1, .string x2] 37) = W4 := ⟨_, rfl⟩
          have hRb := block_new wr (.cells #[.string x0, .string x1, .string x2] 37)
          have hb4 := hbel.alloc (by omega) (.cells #[.string x0, .string x1, .string x2] 37)
          have hown4 : OwnS mutC 4 (wr.alloc (.cells #[.string x0, .string x1, .string x2] 37)) 41 u5 O1 := hown.mod (S := fun _ => False) ((Mod.refl _ wr).alloc _) (fun _ _ h => h)
          have hs4 : W4.heap.size = wr.heap.size + 1 := by rw [← hW4]; simp
          rw [hW4] at hRb hb4 hown4
          obtain ⟨R, hR⟩ : ∃ R, wr.heap.size = R := ⟨_, rfl⟩
          rw [hR] at hRb hs4
          have c0 : W4.cell? ⟨R, 0, none⟩ = some (.string x0) := cell_of hRb rfl
          have c1 : W4.cell? ⟨R, 1, none⟩ = some (.string x1) := cell_of hRb rfl
          have c2 : W4.cell? ⟨R, 2, none⟩ = some (.string x2) := cell_of hRb rfl
          have hcon := contains_any (x0, x1, x2) (HH.out.1.mod (S := fun _ => False) (by decide) tupC_len (Mod.of_below (by rw [hB]; exact hb4) (fun _ => False)) (fun _ _ h => h))
          unfold tupC at hcon
          obtain ⟨bb, hbb⟩ : ∃ bb, tin (x0, x1, x2) a = bb := ⟨_, rfl⟩
          rw [hbb] at hcon hout
          have HC := Lib.hid (And.intro hrange2 (And.intro hc (And.intro htg (And.intro hcon (And.intro hout (And.intro hO1 (And.intro hown4 (And.intro hb4 (And.intro hroom (And.intro hwh (And.intro hRb (And.intro (show B ≤ R by omega) hs4))))))))))))
          clear hrange hrange2 hc htg hcon hout hO1 hown hown4 hb4 hroom hwh hRb hle hbel hsz hbl hx hbb hs4
          go_wp2_with (first
            | (refine wpList_load_mid rfl 37 (.tmp 30) rfl bk (o + t * 3) rfl (tupC (x0, x1, x2)) _ HC.out.1 Try.underlying37 rfl infoTup0 ?_; unfold tupC))
          refine (HC.out.2.2.2.1).mono ?_
          rintro e w5 ⟨rfl, hb5⟩
          clear hW4 hR
          obtain ⟨k1, k2, k3, k4, k5, k6, k7, k8, k9, k10, k11, k12, k13⟩ := HC.out
          have hown5 : OwnS mutC 4 w5 41 u5 O1 := k7.mod (Mod.of_below hb5 (fun _ => False)) (fun _ _ h => h)
          have hR5 : w5.heap[R]? = some (.cells #[.string x0, .string x1, .string x2] 37 (0, 0)) := (hb5.block R (by omega)).trans k11
          have d0 : w5.cell? ⟨R, 0, none⟩ = some (.string x0) := cell_of hR5 rfl
          have d1 : w5.cell? ⟨R, 1, none⟩ = some (.string x1) := cell_of hR5 rfl
          have d2 : w5.cell? ⟨R, 2, none⟩ = some (.string x2) := cell_of hR5 rfl
          have hB5 : Below B w w5 := k8.trans (hb5.mono (by omega))
          have hs5 := hb5.size
          have HD := Lib.hid (And.intro hown5 (And.intro hB5 (show B ≤ w5.heap.size by omega)))
          clear hown5 hR5 hB5 hs5 hb5 k1 k2 k3 k4 k5 k6 k7 k8 k9 k10 k11 k12 k13 c0 c1 c2
          cases bb with
          | true =>
            go_wp2
            go_roundg (gk - 1)
            case measure => have h1 := HC.out.2; omega
            case rel =>
              obtain ⟨k1, k2, k3, k4, k5, k6, k7, k8, k9, k10, k11, k12, k13⟩ := HC.out
              refine ⟨t + 1, by omega, by go_num, ?_, HD.out.2.1, HD.out.2.2, k10⟩
              rw [k5, if_pos (by simp), List.append_nil, k6]
              exact HD.out.1
          | false =>
            have hoo : OwnS mutC 4 (w5.alloc (.cells #[.bool false, .string x0, .string x1, .string x2] 41)) 41 u5 O1 := HD.out.1.mod (S := fun _ => False) ((Mod.refl _ w5).alloc _) (fun _ _ h => h)
            have HE := Lib.hid hoo
            clear hoo
            go_wp2_with (first
              | (at_builtin; refine wpList_push elemMut rfl _ _ rfl rfl HE.out w5.heap.size (false, x0, x1, x2) rfl (block_new _ _) HC.out.2.2.2.2.2.2.2.2.1.1 HC.out.2.2.2.2.2.2.2.2.1.2.1 ?_))
            intro v' w' hown' hm' hb'
            have HF := Lib.hid (And.intro hown' (And.intro hm' hb'))
            clear hown' hm' hb'
            go_wp2
            go_roundg (gk - 1)
            case measure => have h1 := HC.out.2; omega
            case rel =>
              obtain ⟨k1, k2, k3, k4, k5, k6, k7, k8, k9, k10, k11, k12, k13⟩ := HC.out
              obtain ⟨f1, f2, f3⟩ := HF.out
              obtain ⟨d1, d2, d3⟩ := HD.out
              have hs7 := f2.size
              simp only [World.size_alloc] at hs7 f3
              refine ⟨t + 1, by omega, by go_num, ?_, (d2.alloc (by omega) _).trans (f2.to_below (by simp only [World.size_alloc]; omega) (fun k hk => k10 k hk.symm)), by omega, fun k hk => ?_⟩
              · rw [k5, if_neg (by simp), ← List.append_assoc, k6]
                exact f1
              · rcases f3 k hk with h | h
                · exact k10 k h
                · omega
        · have hci : ¬ (t : Int) < (n2 : Int) := by omega
          have ht : b.take t = b := List.take_of_length_le (by have := HH.out; omega)
          rw [ht] at hown
          have HT := Lib.hid (And.intro hown (And.intro hbel (And.intro hsz hwh)))
          clear hown hbel hsz hwh htg hc ht
          go_wp2_with fail
          obtain ⟨e1, e2, e3, e4⟩ := HT.out
          refine (sort_mut e1 (room56 (Nat.le_refl _) HH.out.2.2.1).2.2).mono ?_
          rintro e w5 ⟨rfl, l', hp, hs, hown5, hm5⟩
          have k3 : Below B w w5 := e2.trans (hm5.to_below (by omega) (fun k hk => e4 k hk.symm))
          have HK := Lib.hid (And.intro hown5 (And.intro k3 (And.intro e4 (And.intro hp (And.intro hs (show B ≤ w5.heap.size by have := hm5.size; omega))))))
          clear hown5 hm5 k3 e1 e2 e3 e4 hp hs
          go_wp2_with fail
          refine (compactAnyMut HK.out.1).mono ?_
          rintro e w6 ⟨v6, rfl, hown6, hv6, hm6⟩
          have HL := Lib.hid (And.intro hown6 (And.intro hv6 hm6))
          clear hown6 hv6 hm6
          go_wp2
          go_ret
          obtain ⟨h1, h2, h3, h4, h5, h6⟩ := HK.out
          obtain ⟨k1, k2, k3⟩ := HL.out
          exact ⟨v6, l', rfl, h4, h5, k1, by rw [hB]; exact h2.trans (k3.to_below h6 (fun k hk => h3 k hk.symm)), fun k hk => by have := h3 k (by rw [← k2]; exact hk); omega⟩
end Go.Proofs.Ytobcakjlfdejjaa.Watch
end
