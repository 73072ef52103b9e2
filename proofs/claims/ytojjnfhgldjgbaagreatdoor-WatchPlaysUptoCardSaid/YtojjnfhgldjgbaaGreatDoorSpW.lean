/- WatchSplits, where what came in is of bulk at most 1048576: changes up to a revision and behind it are all; they make th: part 23 of 29: what it leans on. -/
import Derived.Test.YtojjnfhgldjgbaaGreatDoorSpA
import Derived.Test.YtojjnfhgldjgbaaGreatDoorSpB
import Derived.Test.YtojjnfhgldjgbaaGreatDoorSpC
import Derived.Test.YtojjnfhgldjgbaaGreatDoorSpD
import Derived.Test.YtojjnfhgldjgbaaGreatDoorSpE
import Derived.Test.YtojjnfhgldjgbaaGreatDoorSpJ
import Derived.Test.YtojjnfhgldjgbaaGreatDoorSpL
import Derived.Test.YtojjnfhgldjgbaaGreatDoorSpM
import Derived.Test.YtojjnfhgldjgbaaGreatDoorSpN
import Derived.Test.YtojjnfhgldjgbaaGreatDoorSpO
import Derived.Test.YtojjnfhgldjgbaaGreatDoorSpP
import Derived.Test.YtojjnfhgldjgbaaGreatDoorSpQ
import Derived.Test.YtojjnfhgldjgbaaGreatDoorSpR
import Derived.Test.YtojjnfhgldjgbaaGreatDoorSpS
import Derived.Test.YtojjnfhgldjgbaaGreatDoorSpT
import Derived.Test.YtojjnfhgldjgbaaGreatDoorSpU
import Derived.Test.YtojjnfhgldjgbaaGreatDoorSpV
section
set_option linter.unusedVariables false
set_option linter.unusedSimpArgs false
namespace Go.Proofs.YtojjnfhgldjgbaaGreatDoor.Watch
open Go.RowKit Go.Por Go.Sort

theorem iter_own_ne {κ α : Type} {enc : κ → Value} {w : World} {I M : Nat} {lm dn : List (κ × Value)} (h : IterIs w I M enc lm dn) {f : α → List Value} {c : Nat} {E : TypeId} {v : Value} {l : List α} (ho : OwnS f c w E v l) : v.ownBlock ≠ some I := by
  obtain ⟨es, ck, _, _, _, _, _, idx, _, _, _, seen, hs, _⟩ := h
  rcases ho.form with ⟨rfl, _⟩ | ⟨g, cap, rfl, _, _⟩
  · simp [Value.ownBlock]
  · obtain ⟨cur, h2, _⟩ := ho.block
    intro e
    simp only [Value.ownBlock, Option.some.injEq] at e
    subst e
    rw [hs] at h2
    cases h2

set_option maxRecDepth 100000 in
set_option maxHeartbeats 4000000 in
theorem play_any {w : World} {v1 v2 : Value} {ts : List Tup} {cs : List Chg} (h1 : ReadS tupC 3 w v1 ts) (h2 : ReadS chgC 5 w v2 cs) (hb : (ts.length + cs.length + 1) * 48 ≤ 140737488355328) :
    Calls Tryz.prog 21 #[v1, v2] w fun e w' => ∃ v', e = .returned v' ∧ OwnS tupC 3 w' 41 v' (playL ts cs) ∧ Below w.heap.size w w' ∧ ∀ k, v'.ownBlock = some k → w.heap.size ≤ k := by
  obtain ⟨ao1, cap1, rfl, hl1⟩ := h1.form
  obtain ⟨ao2, cap2, rfl, hl2⟩ := h2.form
  obtain ⟨n1, hn1⟩ : ∃ n, ts.length = n := ⟨_, rfl⟩
  obtain ⟨n2, hn2⟩ : ∃ n, cs.length = n := ⟨_, rfl⟩
  obtain ⟨B, hB⟩ : ∃ B, w.heap.size = B := ⟨_, rfl⟩
  rw [hn1] at h1 hl1 ⊢
  rw [hn2] at h2 hl2 ⊢
  have HH := Lib.hid (And.intro h1 (And.intro h2 (And.intro hb (And.intro hB (And.intro hn1 hn2)))))
  clear h1 h2 hb
  go_enter Tryz.func21, Tryz.ntmps21
  have hmm := @run_makeMap Tryz.prog
  go_wp2
  clear hmm
  have hM0 := MapIs.made w encT
  have hbel0 := (Below.refl B w).alloc (by omega) (.map #[] 0)
  have hB0 : (w.alloc (.map #[] 0)).heap.size = B + 1 := by simp [hB]
  rw [hB] at hM0
  generalize hW3 : w.alloc (.map #[] 0) = W3 at *
  have HW := Lib.hid (And.intro hM0 (And.intro hbel0 hB0))
  clear hM0 hbel0 hB0 hW3
  go_loopg [15] n1 (fun gg vi wx => ∃ t : Nat, t + gg = n1 ∧ vi = .int .i64 (t : Int) ∧ MapIs wx B encT (km ((ts.take t).foldl kput [])) ∧ Below B w wx ∧ B + 1 ≤ wx.heap.size)
  case atStart => exact ⟨0, by omega, rfl, HW.out.1, HW.out.2.1, by rw [HW.out.2.2]; exact Nat.le_refl _⟩
  case round =>
    obtain ⟨t, htg, rfl, hmap, hbel, hsz⟩ := hrel
    by_cases hc : t < n1
    · obtain ⟨r, hx⟩ : ∃ r, ts[t]? = some r := ⟨_, List.getElem?_eq_getElem (by omega)⟩
      obtain ⟨b, o, rfl, hrange, hbl⟩ := HH.out.1.lt (by decide) tupC_len hx
      have hrange2 : wr.rangeAt b (o + t * 3) (tupC r) := range_below hrange hbel (by omega)
      have hfold := foldl_succ kput ts [] t r hx
      obtain ⟨x0, x1, x2⟩ := r
      have hci : (t : Int) < (n1 : Int) := by omega
      have hti : (t : Int) < 9223372036854775807 := by omega
      have hmap4 := hmap.alloc (.cells #[.string x0, .string x1, .string x2] 41)
      obtain ⟨W5, hst, hmap5, hm5⟩ := km_store hmap4 (x0, x1, x2)
      unfold encT tupC at hst
      have hb5 : Below B w W5 := (hbel.alloc (by omega) (.cells #[.string x0, .string x1, .string x2] 41)).trans (hm5.to_below (by simp; omega) (fun k hk => by rw [show k = B from hk]; exact Nat.le_refl _))
      have hs5 := hm5.size
      simp only [World.size_alloc] at hs5
      rw [← hfold] at hmap5
      have HC := Lib.hid (And.intro hrange2 (And.intro hc (And.intro htg (And.intro hmap5 (And.intro hb5 (show B + 1 ≤ W5.heap.size by omega))))))
      clear hmap hmap4 hmap5 hm5 hb5 hs5 hbel hsz hfold hx hrange hrange2 hbl hc htg
      go_wp2_with (first
        | (refine wpList_load_mid rfl 41 (.tmp 17) rfl b (o + t * 3) rfl (tupC (x0, x1, x2)) _ HC.out.1 Tryz.underlying41 rfl infoTup0 ?_; unfold tupC))
      go_roundg (gk - 1)
      case measure => have h1 := HC.out; omega
      case rel =>
        obtain ⟨k1, k2, k3, k4, k5, k6⟩ := HC.out
        exact ⟨t + 1, by omega, by go_num, k4, k5, k6⟩
    · have hci : ¬ (t : Int) < (n1 : Int) := by omega
      have ht : ts.take t = ts := List.take_of_length_le (by have := HH.out; omega)
      rw [ht] at hmap
      have HT := Lib.hid (And.intro hmap (And.intro hbel hsz))
      clear hmap hbel hsz htg hc ht
      go_wp2
      go_loopg [24] n2 (fun gg vi wx => ∃ t : Nat, t + gg = n2 ∧ vi = .int .i64 (t : Int) ∧ MapIs wx B encT (km ((cs.take t).foldl kstep (ts.foldl kput []))) ∧ Below B w wx ∧ B + 1 ≤ wx.heap.size)
      case atStart => exact ⟨0, by omega, rfl, HT.out.1, HT.out.2.1, HT.out.2.2⟩
      case round =>
        clear HT
        obtain ⟨t, htg, rfl, hmap, hbel, hsz⟩ := hrel
        by_cases hc : t < n2
        · obtain ⟨r, hx⟩ : ∃ r, cs[t]? = some r := ⟨_, List.getElem?_eq_getElem (by omega)⟩
          obtain ⟨b, o, rfl, hrange, hbl⟩ := HH.out.2.1.lt (by decide) chgC_len hx
          have hrange2 : wr.rangeAt b (o + t * 5) (chgC r) := range_below hrange hbel (by omega)
          have hfold := foldl_succ kstep cs (ts.foldl kput []) t r hx
          obtain ⟨ks, hks⟩ : ∃ ks, (cs.take t).foldl kstep (ts.foldl kput []) = ks := ⟨_, rfl⟩
          rw [hks] at hfold hmap
          obtain ⟨rev, del, x0, x1, x2⟩ := r
          have hci : (t : Int) < (n2 : Int) := by omega
          have hti : (t : Int) < 9223372036854775807 := by omega
          obtain ⟨W4, hW4⟩ : ∃ W4, wr.alloc (.cells #[.int .i64 rev, .bool del, .string x0, .string x1, .string x2] 83) = W4 := ⟨_, rfl⟩
          have hmap4 := hmap.alloc (.cells #[.int .i64 rev, .bool del, .string x0, .string x1, .string x2] 83)
          have hRb := block_new wr (.cells #[.int .i64 rev, .bool del, .string x0, .string x1, .string x2] 83)
          have hb4 := hbel.alloc (by omega) (.cells #[.int .i64 rev, .bool del, .string x0, .string x1, .string x2] 83)
          have hs4 : W4.heap.size = wr.heap.size + 1 := by rw [← hW4]; simp
          rw [hW4] at hmap4 hRb hb4
          obtain ⟨R, hR⟩ : ∃ R, wr.heap.size = R := ⟨_, rfl⟩
          rw [hR] at hRb hs4
          obtain ⟨W5, hst, hmap5, hm5⟩ := km_store hmap4 (x0, x1, x2)
          unfold encT tupC at hst
          have hR5 := hm5.old hRb (fun e => by omega)
          have c0 : W4.cell? ⟨R, 0, none⟩ = some (.int .i64 rev) := cell_of hRb rfl
          have c1 : W4.cell? ⟨R, 1, none⟩ = some (.bool del) := cell_of hRb rfl
          have c2 : W4.cell? ⟨R, 2, none⟩ = some (.string x0) := cell_of hRb rfl
          have c3 : W4.cell? ⟨R, 3, none⟩ = some (.string x1) := cell_of hRb rfl
          have c4 : W4.cell? ⟨R, 4, none⟩ = some (.string x2) := cell_of hRb rfl
          have d1 : W5.cell? ⟨R, 1, none⟩ = some (.bool del) := cell_of hR5 rfl
          have d2 : W5.cell? ⟨R, 2, none⟩ = some (.string x0) := cell_of hR5 rfl
          have d3 : W5.cell? ⟨R, 3, none⟩ = some (.string x1) := cell_of hR5 rfl
          have d4 : W5.cell? ⟨R, 4, none⟩ = some (.string x2) := cell_of hR5 rfl
          have hb5 : Below B w W5 := hb4.trans (hm5.to_below (by omega) (fun k hk => by rw [show k = B from hk]; exact Nat.le_refl _))
          have hs5 := hm5.size
          have HC := Lib.hid (And.intro hrange2 (And.intro hc (And.intro htg (And.intro hb5 (show B + 1 ≤ W5.heap.size by omega)))))
          cases del with
          | true =>
            obtain ⟨W6, hdl, hmap6, hm6⟩ := km_delete hmap5 (x0, x1, x2)
            unfold encT tupC at hdl
            have hb6 : Below B w W6 := hb5.trans (hm6.to_below (by omega) (fun k hk => by rw [show k = B from hk]; exact Nat.le_refl _))
            have hs6 := hm6.size
            have HD := Lib.hid (And.intro hfold (And.intro hmap6 (And.intro hb6 (show B + 1 ≤ W6.heap.size by omega))))
            clear hmap hmap4 hmap5 hm5 hb5 hs5 hb4 hbel hsz hfold hx hrange hrange2 hbl hc htg hRb hR5 hmap6 hm6 hb6 hs6 hks hs4
            go_upto_region 10 with (first
              | (refine wpList_load_mid rfl 83 (.tmp 26) rfl b (o + t * 5) rfl (chgC (rev, true, x0, x1, x2)) _ HC.out.1 Tryz.underlying83 rfl infoC ?_; unfold chgC))
            clear hW4 hR
            go_wp2
            go_roundg (gk - 1)
            case measure => have h1 := HC.out; omega
            case rel =>
              obtain ⟨k1, k2, k3, k4, k5⟩ := HC.out
              obtain ⟨m1, m2, m3, m4⟩ := HD.out
              exact ⟨t + 1, by omega, by go_num, by rw [m1]; exact m2, m3, m4⟩
          | false =>
            have HD := Lib.hid (And.intro hfold hmap5)
            clear hmap hmap4 hmap5 hm5 hb5 hs5 hb4 hbel hsz hfold hx hrange hrange2 hbl hc htg hRb hR5 hks hs4
            go_upto_region 10 with (first
              | (refine wpList_load_mid rfl 83 (.tmp 26) rfl b (o + t * 5) rfl (chgC (rev, false, x0, x1, x2)) _ HC.out.1 Tryz.underlying83 rfl infoC ?_; unfold chgC))
            clear hW4 hR
            go_wp2
            go_roundg (gk - 1)
            case measure => have h1 := HC.out; omega
            case rel =>
              obtain ⟨k1, k2, k3, k4, k5⟩ := HC.out
              obtain ⟨m1, m2⟩ := HD.out
              exact ⟨t + 1, by omega, by go_num, by rw [m1]; exact m2, k4, k5⟩
        · have hci : ¬ (t : Int) < (n2 : Int) := by omega
          have ht : cs.take t = cs := List.take_of_length_le (by have := HH.out; omega)
          rw [ht] at hmap
          have hle := playK_le ts cs
          obtain ⟨ks, hks⟩ : ∃ ks, playK ts cs = ks := ⟨_, rfl⟩
          rw [show cs.foldl kstep (ts.foldl kput []) = ks from hks] at hmap
          rw [hks] at hle
          obtain ⟨I, hI⟩ : ∃ I, wr.heap.size = I := ⟨_, rfl⟩
          obtain ⟨oI, hrng, hit⟩ := hmap.range Tryz.underlying89
          rw [hI] at hrng hit
          have hbI := hbel.alloc (by omega) oI
          have hsI : (wr.alloc oI).heap.size = I + 1 := by simp [hI]
          obtain ⟨WI, hWI⟩ : ∃ WI, wr.alloc oI = WI := ⟨_, rfl⟩
          rw [hWI] at hrng hit hbI hsI
          have HT := Lib.hid (And.intro hit (And.intro hbI (And.intro hsI (And.intro hks (And.intro hle (show B + 1 ≤ I by omega))))))
          clear hmap hbel hsz htg hc ht hle hks hit hbI hsI hWI hI
          go_wp2
          go_loopg [10] (ks.length) (fun gg sv wx => ∃ dn : List (Tup × Value), dn.length + gg = ks.length ∧ OwnS tupC 3 wx 41 sv (dn.map Prod.fst) ∧ IterIs wx I B encT (km ks) dn ∧ Below B w wx ∧ I + 1 ≤ wx.heap.size ∧ ∀ k, sv.ownBlock = some k → I + 1 ≤ k)
          case atStart => exact ⟨[], by simp, OwnS.nil _ _ _ _, HT.out.1, HT.out.2.1, by have := HT.out; omega, fun k h => by simp [Value.ownBlock] at h⟩
          case round =>
            clear hrng
            obtain ⟨dn, hdg, hown, hit, hbel, hsz, hwh⟩ := hrel
            have hkl : (km ks).length = ks.length := by unfold km; rw [List.length_map]
            rcases hit.next (P := Tryz.prog) with ⟨hfin, hnx⟩ | ⟨q, v, w', hlt, hm, hnd, hnx, hit', hm', hen⟩
            · have hp := hit.all hfin
              have HE := Lib.hid (And.intro hown (And.intro hbel (And.intro hsz (And.intro hwh hp))))
              clear hown hit hbel hsz hwh hdg hp hfin
              go_wp2_with fail
              obtain ⟨e1, e2, e3, e4, e5⟩ := HE.out
              have hpk : (dn.map Prod.fst).Perm ks := by
                have := e5.map Prod.fst
                rwa [km_fst] at this
              have hroom := room48' (a := (dn.map Prod.fst).length) (n := ts.length + cs.length) (by rw [hpk.length_eq]; exact HT.out.2.2.2.2.1) HH.out.2.2.1
              have hBI := HT.out.2.2.2.2.2
              refine (sort_tup e1 hroom.2).mono ?_
              rintro e w5 ⟨rfl, hown5, hm5⟩
              rw [sort_perm hpk, ← HT.out.2.2.2.1] at hown5
              have k3 : Below B w w5 := e2.trans (hm5.to_below (by omega) (fun k hk => by have := e4 k hk.symm; have := HT.out; omega))
              have HK := Lib.hid (And.intro hown5 (And.intro k3 e4))
              clear hown5 hm5 k3 e1 e2 e3 e4 e5 hpk hroom
              go_wp2
              go_ret
              obtain ⟨h1, h2, h3⟩ := HK.out
              exact ⟨u10, rfl, h1, by rw [hB]; exact h2, fun k hk => by have := h3 k hk; have := HT.out; omega⟩
            · obtain ⟨x0, x1, x2⟩ := q
              have hv1 : v = .int .i64 1 := by
                obtain ⟨t', _, e⟩ := List.mem_map.1 hm
                exact (Prod.mk.inj e).2.symm
              subst hv1
              unfold encT tupC at hnx hen
              have hnI := iter_own_ne hit hown
              have hownw : OwnS tupC 3 w' 41 u10 (dn.map Prod.fst) := hown.mod hm' (fun k hk e => hnI (by rw [hk, show k = I from e]))
              obtain ⟨S, hS⟩ : ∃ S, w'.heap.size = S := ⟨_, rfl⟩
              have hs' := hm'.size
              have hoo : OwnS tupC 3 ((w'.alloc (.cells #[.string x0, .string x1, .string x2] 41)).alloc (.cells #[.string x0, .string x1, .string x2] 41)) 41 u10 (dn.map Prod.fst) := hownw.mod (S := fun _ => False) (((Mod.refl _ w').alloc _).alloc _) (fun _ _ h => h)
              have hbn := block_new (w'.alloc (.cells #[.string x0, .string x1, .string x2] 41)) (.cells #[.string x0, .string x1, .string x2] 41)
              rw [World.size_alloc, hS] at hbn
              have hlen : dn.length ≤ ts.length + cs.length := by have := HT.out.2.2.2.2.1; omega
              have hroom := room48 hlen HH.out.2.2.1
              have hroom' := room48' hlen HH.out.2.2.1
              have hit7 := (hit'.mod (((Mod.refl (fun _ => False) w').alloc (.cells #[.string x0, .string x1, .string x2] 41)).alloc (.cells #[.string x0, .string x1, .string x2] 41)) (fun h => h) (fun h => h))
              have hBI0 := HT.out.2.2.2.2.2
              have hb7 : Below B w ((w'.alloc (.cells #[.string x0, .string x1, .string x2] 41)).alloc (.cells #[.string x0, .string x1, .string x2] 41)) := ((hbel.trans (hm'.to_below (by omega) (fun k hk => by have := HT.out; rw [show k = I from hk]; omega))).alloc (by omega) _).alloc (by simp; omega) _
              have HE := Lib.hid (And.intro hoo (And.intro hbn (And.intro hroom (And.intro hroom'.1 (And.intro hit7 (And.intro hb7 (And.intro hwh (And.intro (show I + 1 ≤ S by omega) (And.intro hdg (And.intro hlt hkl))))))))))
              have hll : (dn.map Prod.fst).length = dn.length := List.length_map _
              clear hBI0 hoo hbn hroom hroom' hit7 hb7 hwh hs' hlen hown hownw hit hit' hbel hsz hdg hnd hm hm' hlt hnI hkl
              go_wp2_with (first
                | (at_builtin; refine wpList_push elemTup rfl _ _ rfl rfl HE.out.1 (S + 1) (x0, x1, x2) rfl HE.out.2.1 ?c1 ?c2 ?_))
              case c1 => exact HE.out.2.2.1
              case c2 => exact HE.out.2.2.2.1
              intro v7 w7 hown7 hm7 hb7'
              have HF := Lib.hid (And.intro hown7 (And.intro hm7 hb7'))
              clear hown7 hm7 hb7'
              go_wp2
              go_roundg (gk - 1)
              case measure => have h1 := HE.out; omega
              case rel =>
                obtain ⟨e1, e2, e3, e4, e5, e6, e7, e8, e9, e10, e11⟩ := HE.out
                obtain ⟨f1, f2, f3⟩ := HF.out
                have hs7 := f2.size
                simp only [World.size_alloc, hS] at hs7 f3
                have hBI := HT.out.2.2.2.2.2
                refine ⟨dn ++ [((x0, x1, x2), .int .i64 1)], by rw [List.length_append, List.length_singleton]; omega, by rw [List.map_append]; exact f1, e5.mod f2 (fun e => MapIs.own_ne e5.map e1 e.symm) (fun e => iter_own_ne e5 e1 e.symm), e6.trans (f2.to_below (by simp only [World.size_alloc, hS]; omega) (fun k hk => by have := e7 k hk.symm; omega)), by omega, fun k hk => ?_⟩
                rcases f3 k hk with h | h
                · exact e7 k h
                · omega
end Go.Proofs.YtojjnfhgldjgbaaGreatDoor.Watch
end
