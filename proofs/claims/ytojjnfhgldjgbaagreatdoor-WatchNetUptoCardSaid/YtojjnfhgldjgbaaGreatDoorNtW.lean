/- WatchNet, where what came in is of bulk at most 1048576: what leads from some tuples to others does so in a store, and n: part 23 of 32: what it leans on. -/
import Derived.Test.YtojjnfhgldjgbaaGreatDoorNtA
import Derived.Test.YtojjnfhgldjgbaaGreatDoorNtB
import Derived.Test.YtojjnfhgldjgbaaGreatDoorNtC
import Derived.Test.YtojjnfhgldjgbaaGreatDoorNtD
import Derived.Test.YtojjnfhgldjgbaaGreatDoorNtE
import Derived.Test.YtojjnfhgldjgbaaGreatDoorNtK
import Derived.Test.YtojjnfhgldjgbaaGreatDoorNtL
import Derived.Test.YtojjnfhgldjgbaaGreatDoorNtM
import Derived.Test.YtojjnfhgldjgbaaGreatDoorNtN
import Derived.Test.YtojjnfhgldjgbaaGreatDoorNtO
import Derived.Test.YtojjnfhgldjgbaaGreatDoorNtP
import Derived.Test.YtojjnfhgldjgbaaGreatDoorNtQ
import Derived.Test.YtojjnfhgldjgbaaGreatDoorNtR
import Derived.Test.YtojjnfhgldjgbaaGreatDoorNtS
import Derived.Test.YtojjnfhgldjgbaaGreatDoorNtT
import Derived.Test.YtojjnfhgldjgbaaGreatDoorNtU
import Derived.Test.YtojjnfhgldjgbaaGreatDoorNtV
section
set_option linter.unusedVariables false
set_option linter.unusedSimpArgs false
namespace Go.Proofs.YtojjnfhgldjgbaaGreatDoor.Watch
open Go.RowKit Go.Por Go.Sort

def kputG {κ : Type} [DecidableEq κ] (ks : List κ) (t : κ) : List κ := if t ∈ ks then ks else ks ++ [t]
def kput (ks : List Tup) (t : Tup) : List Tup := kputG ks t
def kdel (ks : List Tup) (t : Tup) : List Tup := ks.filter (fun x => decide (x ≠ t))
def kstep (ks : List Tup) (c : Chg) : List Tup := if c.2.1 then kdel (kput ks c.2.2) c.2.2 else kput ks c.2.2
def playK (ts : List Tup) (cs : List Chg) : List Tup := cs.foldl kstep (ts.foldl kput [])
/-- What watch.Play hands back. -/
def playL (ts : List Tup) (cs : List Chg) : List Tup := (playK ts cs).mergeSort tle
theorem kput_le (ks : List Tup) (t : Tup) : (kput ks t).length ≤ ks.length + 1 := by
  unfold kput kputG
  split <;> simp
theorem kstep_le (ks : List Tup) (c : Chg) : (kstep ks c).length ≤ ks.length + 1 := by
  unfold kstep
  split
  · exact Nat.le_trans (List.length_filter_le _ _) (kput_le ks _)
  · exact kput_le ks _
theorem fold_le {α : Type} (f : List Tup → α → List Tup) (hf : ∀ ks a, (f ks a).length ≤ ks.length + 1) : ∀ (l : List α) (ks : List Tup), (l.foldl f ks).length ≤ ks.length + l.length
  | [], ks => by simp
  | a :: l, ks => by
    have h1 := fold_le f hf l (f ks a)
    have h2 := hf ks a
    rw [List.foldl_cons, List.length_cons]
    omega
theorem playK_le (ts : List Tup) (cs : List Chg) : (playK ts cs).length ≤ ts.length + cs.length := by
  have h1 := fold_le kput kput_le ts []
  have h2 := fold_le kstep kstep_le cs (ts.foldl kput [])
  rw [List.length_nil, Nat.zero_add] at h1
  unfold playK
  omega
theorem foldl_succ {α β : Type} (f : β → α → β) (l : List α) (b : β) (t : Nat) (x : α) (h : l[t]? = some x) : (l.take (t + 1)).foldl f b = f ((l.take t).foldl f b) x := by
  rw [List.take_add_one, h, List.foldl_append]
  rfl
def km (ks : List Tup) : List (Tup × Value) := ks.map (fun t => (t, Value.int .i64 1))
theorem km_fst (ks : List Tup) : (km ks).map Prod.fst = ks := by
  unfold km
  rw [List.map_map]
  exact List.map_id _
theorem km_put (ks : List Tup) (t : Tup) : mput (km ks) t (.int .i64 1) = km (kput ks t) := by
  unfold mput kput kputG
  rw [km_fst]
  split
  · unfold km
    rw [List.map_map]
    refine List.map_congr_left (fun x _ => ?_)
    show (if x = t then (t, Value.int .i64 1) else (x, Value.int .i64 1)) = _
    split
    · rename_i e; rw [e]
    · rfl
  · unfold km
    rw [List.map_append]
    rfl
theorem km_del (ks : List Tup) (t : Tup) : mdel (km ks) t = km (kdel ks t) := by
  unfold mdel km kdel
  rw [List.filter_map]
  rfl
theorem km_store {W : World} {B : Nat} {ks : List Tup} (h : MapIs W B encT (km ks)) (t : Tup) : ∃ W5, (Instr.mapUpdate 89 (.map (some B)) (encT t) (.int .i64 1)).run Tryz.prog W = .ok () W5 ∧ MapIs W5 B encT (km (kput ks t)) ∧ Mod (fun x => x = B) W W5 := by
  obtain ⟨o, h1, h2⟩ := h.store keyTup Tryz.underlying89 t (.int .i64 1)
  rw [km_put] at h2
  exact ⟨_, h1, h2, setB_mod _ _ _⟩
theorem km_delete {W : World} {B : Nat} {ks : List Tup} (h : MapIs W B encT (km ks)) (t : Tup) : ∃ W5, (Builtin.delete_ #[89, 41] 0 #[.map (some B), encT t]).run Tryz.prog W = .ok (.tuple #[]) W5 ∧ MapIs W5 B encT (km (kdel ks t)) ∧ Mod (fun x => x = B) W W5 := by
  obtain ⟨o, h1, h2⟩ := h.delete (ty := 0) (t2 := 41) keyTup Tryz.underlying89 t
  rw [km_del] at h2
  exact ⟨_, h1, h2, setB_mod _ _ _⟩
theorem sort_perm {a b : List Tup} (h : a.Perm b) : a.mergeSort tle = b.mergeSort tle := by
  have tr : ∀ x y z : Tup, tle x y = true → tle y z = true → tle x z = true := fun x y z h1 h2 => by
    unfold tle at *
    simp only [Bool.not_eq_true'] at *
    exact tupSwo.ntrans _ _ _ h2 h1
  have tot : ∀ x y : Tup, (tle x y || tle y x) = true := fun x y => by
    unfold tle
    cases h1 : ltOf tcmp y x with
    | false => rfl
    | true => rw [Stab.SWO.asymm' tupSwo h1]; rfl
  refine List.Perm.eq_of_pairwise (le := fun x y => tle x y = true) (fun x y _ _ h1 h2 => ?_) (List.pairwise_mergeSort tr tot a) (List.pairwise_mergeSort tr tot b) ((List.mergeSort_perm _ _).trans (h.trans (List.mergeSort_perm _ _).symm))
  unfold tle at *
  simp only [Bool.not_eq_true'] at *
  exact tupTotal x y h2 h1
end Go.Proofs.YtojjnfhgldjgbaaGreatDoor.Watch
end
section
set_option linter.unusedVariables false
set_option linter.unusedSimpArgs false
namespace Go.Proofs.YtojjnfhgldjgbaaGreatDoor.Watch
open Go.RowKit Go.Por Go.Sort

theorem iter_own_ne {κ α : Type} {enc : κ → Value} {w : World} {I M : Nat} {lm dn : List (κ × Value)} (h : IterIs w I M enc lm dn) {f : α → List Value} {c : Nat} {E : TypeId} {v : Value} {l : List α} (ho : OwnS f c w E v l) : v.ownBlock ≠ some I := by
  obtain ⟨es, ck, _, _, _, _, _, idx, _, _, _, seen, hs, _⟩ := h
  rcases ho.form with ⟨rfl, _⟩ | ⟨g, cap, rfl, _, _⟩
  · simp [Value.ownBlock]
  · obtain ⟨cur, h2, _⟩ := ho.block
    intro e
    simp only [Value.ownBlock, Option.some.injEq] at e
    subst e
    rw [hs] at h2
    cases h2

set_option maxRecDepth 100000 in
set_option maxHeartbeats 4000000 in
theorem play_any {w : World} {v1 v2 : Value} {ts : List Tup} {cs : List Chg} (h1 : ReadS tupC 3 w v1 ts) (h2 : ReadS chgC 5 w v2 cs) (hb : (ts.length + cs.length + 1) * 48 ≤ 140737488355328) :
    Calls Tryz.prog 21 #[v1, v2] w fun e w' => ∃ v', e = .returned v' ∧ OwnS tupC 3 w' 41 v' (playL ts cs) ∧ Below w.heap.size w w' ∧ ∀ k, v'.ownBlock = some k → w.heap.size ≤ k := by
  obtain ⟨ao1, cap1, rfl, hl1⟩ := h1.form
  obtain ⟨ao2, cap2, rfl, hl2⟩ := h2.form
  obtain ⟨n1, hn1⟩ : ∃ n, ts.length = n := ⟨_, rfl⟩
  obtain ⟨n2, hn2⟩ : ∃ n, cs.length = n := ⟨_, rfl⟩
  obtain ⟨B, hB⟩ : ∃ B, w.heap.size = B := ⟨_, rfl⟩
  rw [hn1] at h1 hl1 ⊢
  rw [hn2] at h2 hl2 ⊢
  have HH := Lib.hid (And.intro h1 (And.intro h2 (And.intro hb (And.intro hB (And.intro hn1 hn2)))))
  clear h1 h2 hb
  go_enter Tryz.func21, Tryz.ntmps21
  have hmm := @run_makeMap Tryz.prog
  go_wp2
  clear hmm
  have hM0 := MapIs.made w encT
  have hbel0 := (Below.refl B w).alloc (by omega) (.map #[] 0)
  have hB0 : (w.alloc (.map #[] 0)).heap.size = B + 1 := by simp [hB]
  rw [hB] at hM0
  generalize hW3 : w.alloc (.map #[] 0) = W3 at *
  have HW := Lib.hid (And.intro hM0 (And.intro hbel0 hB0))
  clear hM0 hbel0 hB0 hW3
  go_loopg [15] n1 (fun gg vi wx => ∃ t : Nat, t + gg = n1 ∧ vi = .int .i64 (t : Int) ∧ MapIs wx B encT (km ((ts.take t).foldl kput [])) ∧ Below B w wx ∧ B + 1 ≤ wx.heap.size)
  case atStart => exact ⟨0, by omega, rfl, HW.out.1, HW.out.2.1, by rw [HW.out.2.2]; exact Nat.le_refl _⟩
  case round =>
    obtain ⟨t, htg, rfl, hmap, hbel, hsz⟩ := hrel
    by_cases hc : t < n1
    · obtain ⟨r, hx⟩ : ∃ r, ts[t]? = some r := ⟨_, List.getElem?_eq_getElem (by omega)⟩
      obtain ⟨b, o, rfl, hrange, hbl⟩ := HH.out.1.lt (by decide) tupC_len hx
      have hrange2 : wr.rangeAt b (o + t * 3) (tupC r) := range_below hrange hbel (by omega)
      have hfold := foldl_succ kput ts [] t r hx
      obtain ⟨x0, x1, x2⟩ := r
      have hci : (t : Int) < (n1 : Int) := by omega
      have hti : (t : Int) < 9223372036854775807 := by omega
      have hmap4 := hmap.alloc (.cells #[.string x0, .string x1, .string x2] 41)
      obtain ⟨W5, hst, hmap5, hm5⟩ := km_store hmap4 (x0, x1, x2)
      unfold encT tupC at hst
      have hb5 : Below B w W5 := (hbel.alloc (by omega) (.cells #[.string x0, .string x1, .string x2] 41)).trans (hm5.to_below (by simp; omega) (fun k hk => by rw [show k = B from hk]; exact Nat.le_refl _))
      have hs5 := hm5.size
      simp only [World.size_alloc] at hs5
      rw [← hfold] at hmap5
      have HC := Lib.hid (And.intro hrange2 (And.intro hc (And.intro htg (And.intro hmap5 (And.intro hb5 (show B + 1 ≤ W5.heap.size by omega))))))
      clear hmap hmap4 hmap5 hm5 hb5 hs5 hbel hsz hfold hx hrange hrange2 hbl hc htg
      go_wp2_with (first
        | (refine wpList_load_mid rfl 41 (.tmp 17) rfl b (o + t * 3) rfl (tupC (x0, x1, x2)) _ HC.out.1 Tryz.underlying41 rfl infoTup0 ?_; unfold tupC))
      go_roundg (gk - 1)
      case measure => have h1 := HC.out; omega
      case rel =>
        obtain ⟨k1, k2, k3, k4, k5, k6⟩ := HC.out
        exact ⟨t + 1, by omega, by go_num, k4, k5, k6⟩
    · have hci : ¬ (t : Int) < (n1 : Int) := by omega
      have ht : ts.take t = ts := List.take_of_length_le (by have := HH.out; omega)
      rw [ht] at hmap
      have HT := Lib.hid (And.intro hmap (And.intro hbel hsz))
      clear hmap hbel hsz htg hc ht
      go_wp2
      go_loopg [24] n2 (fun gg vi wx => ∃ t : Nat, t + gg = n2 ∧ vi = .int .i64 (t : Int) ∧ MapIs wx B encT (km ((cs.take t).foldl kstep (ts.foldl kput []))) ∧ Below B w wx ∧ B + 1 ≤ wx.heap.size)
      case atStart => exact ⟨0, by omega, rfl, HT.out.1, HT.out.2.1, HT.out.2.2⟩
      case round =>
        clear HT
        obtain ⟨t, htg, rfl, hmap, hbel, hsz⟩ := hrel
        by_cases hc : t < n2
        · obtain ⟨r, hx⟩ : ∃ r, cs[t]? = some r := ⟨_, List.getElem?_eq_getElem (by omega)⟩
          obtain ⟨b, o, rfl, hrange, hbl⟩ := HH.out.2.1.lt (by decide) chgC_len hx
          have hrange2 : wr.rangeAt b (o + t * 5) (chgC r) := range_below hrange hbel (by omega)
          have hfold := foldl_succ kstep cs (ts.foldl kput []) t r hx
          obtain ⟨ks, hks⟩ : ∃ ks, (cs.take t).foldl kstep (ts.foldl kput []) = ks := ⟨_, rfl⟩
          rw [hks] at hfold hmap
          obtain ⟨rev, del, x0, x1, x2⟩ := r
          have hci : (t : Int) < (n2 : Int) := by omega
          have hti : (t : Int) < 9223372036854775807 := by omega
          obtain ⟨W4, hW4⟩ : ∃ W4, wr.alloc (.cells #[.int .i64 rev, .bool del, .string x0, .string x1, .string x2] 83) = W4 := ⟨_, rfl⟩
          have hmap4 := hmap.alloc (.cells #[.int .i64 rev, .bool del, .string x0, .string x1, .string x2] 83)
          have hRb := block_new wr (.cells #[.int .i64 rev, .bool del, .string x0, .string x1, .string x2] 83)
          have hb4 := hbel.alloc (by omega) (.cells #[.int .i64 rev, .bool del, .string x0, .string x1, .string x2] 83)
          have hs4 : W4.heap.size = wr.heap.size + 1 := by rw [← hW4]; simp
          rw [hW4] at hmap4 hRb hb4
          obtain ⟨R, hR⟩ : ∃ R, wr.heap.size = R := ⟨_, rfl⟩
          rw [hR] at hRb hs4
          obtain ⟨W5, hst, hmap5, hm5⟩ := km_store hmap4 (x0, x1, x2)
          unfold encT tupC at hst
          have hR5 := hm5.old hRb (fun e => by omega)
          have c0 : W4.cell? ⟨R, 0, none⟩ = some (.int .i64 rev) := cell_of hRb rfl
          have c1 : W4.cell? ⟨R, 1, none⟩ = some (.bool del) := cell_of hRb rfl
          have c2 : W4.cell? ⟨R, 2, none⟩ = some (.string x0) := cell_of hRb rfl
          have c3 : W4.cell? ⟨R, 3, none⟩ = some (.string x1) := cell_of hRb rfl
          have c4 : W4.cell? ⟨R, 4, none⟩ = some (.string x2) := cell_of hRb rfl
          have d1 : W5.cell? ⟨R, 1, none⟩ = some (.bool del) := cell_of hR5 rfl
          have d2 : W5.cell? ⟨R, 2, none⟩ = some (.string x0) := cell_of hR5 rfl
          have d3 : W5.cell? ⟨R, 3, none⟩ = some (.string x1) := cell_of hR5 rfl
          have d4 : W5.cell? ⟨R, 4, none⟩ = some (.string x2) := cell_of hR5 rfl
          have hb5 : Below B w W5 := hb4.trans (hm5.to_below (by omega) (fun k hk => by rw [show k = B from hk]; exact Nat.le_refl _))
          have hs5 := hm5.size
          have HC := Lib.hid (And.intro hrange2 (And.intro hc (And.intro htg (And.intro hb5 (show B + 1 ≤ W5.heap.size by omega)))))
          cases del with
          | true =>
            obtain ⟨W6, hdl, hmap6, hm6⟩ := km_delete hmap5 (x0, x1, x2)
            unfold encT tupC at hdl
            have hb6 : Below B w W6 := hb5.trans (hm6.to_below (by omega) (fun k hk => by rw [show k = B from hk]; exact Nat.le_refl _))
            have hs6 := hm6.size
            have HD := Lib.hid (And.intro hfold (And.intro hmap6 (And.intro hb6 (show B + 1 ≤ W6.heap.size by omega))))
            clear hmap hmap4 hmap5 hm5 hb5 hs5 hb4 hbel hsz hfold hx hrange hrange2 hbl hc htg hRb hR5 hmap6 hm6 hb6 hs6 hks hs4
            go_upto_region 10 with (first
              | (refine wpList_load_mid rfl 83 (.tmp 26) rfl b (o + t * 5) rfl (chgC (rev, true, x0, x1, x2)) _ HC.out.1 Tryz.underlying83 rfl infoC ?_; unfold chgC))
            clear hW4 hR
            go_wp2
            go_roundg (gk - 1)
            case measure => have h1 := HC.out; omega
            case rel =>
              obtain ⟨k1, k2, k3, k4, k5⟩ := HC.out
              obtain ⟨m1, m2, m3, m4⟩ := HD.out
              exact ⟨t + 1, by omega, by go_num, by rw [m1]; exact m2, m3, m4⟩
          | false =>
            have HD := Lib.hid (And.intro hfold hmap5)
            clear hmap hmap4 hmap5 hm5 hb5 hs5 hb4 hbel hsz hfold hx hrange hrange2 hbl hc htg hRb hR5 hks hs4
            go_upto_region 10 with (first
              | (refine wpList_load_mid rfl 83 (.tmp 26) rfl b (o + t * 5) rfl (chgC (rev, false, x0, x1, x2)) _ HC.out.1 Tryz.underlying83 rfl infoC ?_; unfold chgC))
            clear hW4 hR
            go_wp2
            go_roundg (gk - 1)
            case measure => have h1 := HC.out; omega
            case rel =>
              obtain ⟨k1, k2, k3, k4, k5⟩ := HC.out
              obtain ⟨m1, m2⟩ := HD.out
              exact ⟨t + 1, by omega, by go_num, by rw [m1]; exact m2, k4, k5⟩
        · have hci : ¬ (t : Int) < (n2 : Int) := by omega
          have ht : cs.take t = cs := List.take_of_length_le (by have := HH.out; omega)
          rw [ht] at hmap
          have hle := playK_le ts cs
          obtain ⟨ks, hks⟩ : ∃ ks, playK ts cs = ks := ⟨_, rfl⟩
          rw [show cs.foldl kstep (ts.foldl kput []) = ks from hks] at hmap
          rw [hks] at hle
          obtain ⟨I, hI⟩ : ∃ I, wr.heap.size = I := ⟨_, rfl⟩
          obtain ⟨oI, hrng, hit⟩ := hmap.range Tryz.underlying89
          rw [hI] at hrng hit
          have hbI := hbel.alloc (by omega) oI
          have hsI : (wr.alloc oI).heap.size = I + 1 := by simp [hI]
          obtain ⟨WI, hWI⟩ : ∃ WI, wr.alloc oI = WI := ⟨_, rfl⟩
          rw [hWI] at hrng hit hbI hsI
          have HT := Lib.hid (And.intro hit (And.intro hbI (And.intro hsI (And.intro hks (And.intro hle (show B + 1 ≤ I by omega))))))
          clear hmap hbel hsz htg hc ht hle hks hit hbI hsI hWI hI
          go_wp2
          go_loopg [10] (ks.length) (fun gg sv wx => ∃ dn : List (Tup × Value), dn.length + gg = ks.length ∧ OwnS tupC 3 wx 41 sv (dn.map Prod.fst) ∧ IterIs wx I B encT (km ks) dn ∧ Below B w wx ∧ I + 1 ≤ wx.heap.size ∧ ∀ k, sv.ownBlock = some k → I + 1 ≤ k)
          case atStart => exact ⟨[], by simp, OwnS.nil _ _ _ _, HT.out.1, HT.out.2.1, by have := HT.out; omega, fun k h => by simp [Value.ownBlock] at h⟩
          case round =>
            clear hrng
            obtain ⟨dn, hdg, hown, hit, hbel, hsz, hwh⟩ := hrel
            have hkl : (km ks).length = ks.length := by unfold km; rw [List.length_map]
            rcases hit.next (P := Tryz.prog) with ⟨hfin, hnx⟩ | ⟨q, v, w', hlt, hm, hnd, hnx, hit', hm', hen⟩
            · have hp := hit.all hfin
              have HE := Lib.hid (And.intro hown (And.intro hbel (And.intro hsz (And.intro hwh hp))))
              clear hown hit hbel hsz hwh hdg hp hfin
              go_wp2_with fail
              obtain ⟨e1, e2, e3, e4, e5⟩ := HE.out
              have hpk : (dn.map Prod.fst).Perm ks := by
                have := e5.map Prod.fst
                rwa [km_fst] at this
              have hroom := room48' (a := (dn.map Prod.fst).length) (n := ts.length + cs.length) (by rw [hpk.length_eq]; exact HT.out.2.2.2.2.1) HH.out.2.2.1
              have hBI := HT.out.2.2.2.2.2
              refine (sort_tup e1 hroom.2).mono ?_
              rintro e w5 ⟨rfl, hown5, hm5⟩
              rw [sort_perm hpk, ← HT.out.2.2.2.1] at hown5
              have k3 : Below B w w5 := e2.trans (hm5.to_below (by omega) (fun k hk => by have := e4 k hk.symm; have := HT.out; omega))
              have HK := Lib.hid (And.intro hown5 (And.intro k3 e4))
              clear hown5 hm5 k3 e1 e2 e3 e4 e5 hpk hroom
              go_wp2
              go_ret
              obtain ⟨h1, h2, h3⟩ := HK.out
              exact ⟨u10, rfl, h1, by rw [hB]; exact h2, fun k hk => by have := h3 k hk; have := HT.out; omega⟩
            · obtain ⟨x0, x1, x2⟩ := q
              have hv1 : v = .int .i64 1 := by
                obtain ⟨t', _, e⟩ := List.mem_map.1 hm
                exact (Prod.mk.inj e).2.symm
              subst hv1
              unfold encT tupC at hnx hen
              have hnI := iter_own_ne hit hown
              have hownw : OwnS tupC 3 w' 41 u10 (dn.map Prod.fst) := hown.mod hm' (fun k hk e => hnI (by rw [hk, show k = I from e]))
              obtain ⟨S, hS⟩ : ∃ S, w'.heap.size = S := ⟨_, rfl⟩
              have hs' := hm'.size
              have hoo : OwnS tupC 3 ((w'.alloc (.cells #[.string x0, .string x1, .string x2] 41)).alloc (.cells #[.string x0, .string x1, .string x2] 41)) 41 u10 (dn.map Prod.fst) := hownw.mod (S := fun _ => False) (((Mod.refl _ w').alloc _).alloc _) (fun _ _ h => h)
              have hbn := block_new (w'.alloc (.cells #[.string x0, .string x1, .string x2] 41)) (.cells #[.string x0, .string x1, .string x2] 41)
              rw [World.size_alloc, hS] at hbn
              have hlen : dn.length ≤ ts.length + cs.length := by have := HT.out.2.2.2.2.1; omega
              have hroom := room48 hlen HH.out.2.2.1
              have hroom' := room48' hlen HH.out.2.2.1
              have hit7 := (hit'.mod (((Mod.refl (fun _ => False) w').alloc (.cells #[.string x0, .string x1, .string x2] 41)).alloc (.cells #[.string x0, .string x1, .string x2] 41)) (fun h => h) (fun h => h))
              have hBI0 := HT.out.2.2.2.2.2
              have hb7 : Below B w ((w'.alloc (.cells #[.string x0, .string x1, .string x2] 41)).alloc (.cells #[.string x0, .string x1, .string x2] 41)) := ((hbel.trans (hm'.to_below (by omega) (fun k hk => by have := HT.out; rw [show k = I from hk]; omega))).alloc (by omega) _).alloc (by simp; omega) _
              have HE := Lib.hid (And.intro hoo (And.intro hbn (And.intro hroom (And.intro hroom'.1 (And.intro hit7 (And.intro hb7 (And.intro hwh (And.intro (show I + 1 ≤ S by omega) (And.intro hdg (And.intro hlt hkl))))))))))
              have hll : (dn.map Prod.fst).length = dn.length := List.length_map _
              clear hBI0 hoo hbn hroom hroom' hit7 hb7 hwh hs' hlen hown hownw hit hit' hbel hsz hdg hnd hm hm' hlt hnI hkl
              go_wp2_with (first
                | (at_builtin; refine wpList_push elemTup rfl _ _ rfl rfl HE.out.1 (S + 1) (x0, x1, x2) rfl HE.out.2.1 ?c1 ?c2 ?_))
              case c1 => exact HE.out.2.2.1
              case c2 => exact HE.out.2.2.2.1
              intro v7 w7 hown7 hm7 hb7'
              have HF := Lib.hid (And.intro hown7 (And.intro hm7 hb7'))
              clear hown7 hm7 hb7'
              go_wp2
              go_roundg (gk - 1)
              case measure => have h1 := HE.out; omega
              case rel =>
                obtain ⟨e1, e2, e3, e4, e5, e6, e7, e8, e9, e10, e11⟩ := HE.out
                obtain ⟨f1, f2, f3⟩ := HF.out
                have hs7 := f2.size
                simp only [World.size_alloc, hS] at hs7 f3
                have hBI := HT.out.2.2.2.2.2
                refine ⟨dn ++ [((x0, x1, x2), .int .i64 1)], by rw [List.length_append, List.length_singleton]; omega, by rw [List.map_append]; exact f1, e5.mod f2 (fun e => MapIs.own_ne e5.map e1 e.symm) (fun e => iter_own_ne e5 e1 e.symm), e6.trans (f2.to_below (by simp only [World.size_alloc, hS]; omega) (fun k hk => by have := e7 k hk.symm; omega)), by omega, fun k hk => ?_⟩
                rcases f3 k hk with h | h
                · exact e7 k h
                · omega
end Go.Proofs.YtojjnfhgldjgbaaGreatDoor.Watch
end
section
set_option linter.unusedVariables false
set_option linter.unusedSimpArgs false
namespace Go.Proofs.YtojjnfhgldjgbaaGreatDoor.Watch
open Go.RowKit Go.Por Go.Sort

theorem aggMut : ∀ w, (isAgg 47).run Tryz.prog w = .ok true w := fun w => by kernel_rfl
theorem sizeMut : ∀ w, (Go.sizeOf 47).run Tryz.prog w = .ok 4 w := fun w => by kernel_rfl
theorem sort_mut {w : World} {v : Value} {l : List Mut} (h : OwnS mutC 4 w 47 v l) (hl : l.length < 4611686018427387904) :
    Calls Tryz.prog 55 #[v, .func (.func 56) #[] #[]] w fun e w' =>
      e = .returned (.tuple #[]) ∧ ∃ l' : List Mut, l'.Perm l ∧ Stab.Sorted (ltOf mcmp) l' ∧ OwnS mutC 4 w' 47 v l' ∧ Mod (fun x => some x = v.ownBlock) w w' := by
  rcases h.form with ⟨rfl, rfl⟩ | ⟨g, cap, rfl, hc1, hc2⟩
  · refine (AnyF.slices_SortFunc_none Tryz.laysSortMut none 0 _ w).mono ?_
    rintro e w' ⟨he, rfl⟩
    exact ⟨he, [], .refl _, List.Pairwise.nil, h, Mod.refl _ _⟩
  · have eg : ∀ args w, (callFunc 56 args).run Tryz.prog w = .ok (.enter 56 args) w := enters_of Tryz.func56 (by kernel_rfl) rfl
    have hcon := AnyQ.slices_SortFunc Tryz.laysSortMut 4 aggMut sizeMut mutC mutC_len oneMut mcmp mutSwo 56 #[] g 0 cap l.toArray w eg (fun _ _ _ _ x y => net_order x y _) (h.holds mutC_len) h.lt (by simpa using hl)
    refine hcon.mono ?_
    rintro e w' ⟨he, d', n, os, hp, hs, rfl⟩
    have hperm := hp.2.2
    have hlen : d'.toList.length = l.length := by have := hp.1; simpa using this
    have e1 : (d'.extract 0 l.toArray.size).toList = d'.toList := by
      have := hp.1
      simp only [List.size_toArray] at this ⊢
      rw [← this]
      simp
    have e2 : (l.toArray.extract 0 l.toArray.size).toList = l := by simp
    rw [e1, e2] at hperm
    have := h.sorted mutC_len (l' := d'.toList) hlen n os
    rw [Array.toArray_toList] at this
    refine ⟨he, d'.toList, hperm, ?_, this.1, this.2.mono (fun x _ hx => by rw [show x = g from hx]; rfl)⟩
    refine List.pairwise_iff_getElem.2 (fun i j hi hj hij => ?_)
    have hsz : d'.size = l.toArray.size := hp.1
    have h1 := hs i j (Nat.zero_le _) hij (by rw [← hsz, ← Array.length_toList]; exact hj)
    rw [getElem!_pos d' i (by rw [← Array.length_toList]; exact hi), getElem!_pos d' j (by rw [← Array.length_toList]; exact hj)] at h1
    simpa using h1
end Go.Proofs.YtojjnfhgldjgbaaGreatDoor.Watch
end
section
set_option linter.unusedVariables false
set_option linter.unusedSimpArgs false
namespace Go.Proofs.YtojjnfhgldjgbaaGreatDoor.Watch
open Go.RowKit Go.Por Go.Sort

theorem elemMut : Elem Tryz.prog 45 47 mutC 4 56 :=
  Elem.mk' (z := .agg #[.bool false, .string ByteArray.empty, .string ByteArray.empty, .string ByteArray.empty]) Tryz.underlying45 (by kernel_rfl) rfl mutC_len oneMut (by decide)
/-- What is in the one alone, as mutations. -/
def outOf (d : Bool) (l m : List Tup) : List Mut := (l.filter (fun x => !tin x m)).map (fun x => (d, x))
def netU (a b : List Tup) : List Mut := outOf true a b ++ outOf false b a
theorem outOf_succ (d : Bool) (l m : List Tup) (t : Nat) (x : Tup) (h : l[t]? = some x) : outOf d (l.take (t + 1)) m = outOf d (l.take t) m ++ (if tin x m then [] else [(d, x)]) := by
  unfold outOf
  rw [List.take_add_one, h, Option.toList_some, List.filter_append, List.map_append]
  congr 1
  by_cases h : tin x m = true
  · simp [h]
  · simp [h]
theorem outOf_le (d : Bool) (l m : List Tup) (t : Nat) : (outOf d (l.take t) m).length ≤ (outOf d l m).length := by
  conv => rhs; rw [← List.take_append_drop t l]
  unfold outOf
  rw [List.filter_append, List.map_append, List.length_append]
  omega
theorem room56 {a n : Nat} (h : a ≤ n) (h2 : (n + 1) * 56 ≤ 140737488355328) : (a + 1) * 56 ≤ 140737488355328 ∧ a + 1 ≤ maxLen ∧ a < 4611686018427387904 := by
  have h1 : (a + 1) * 56 ≤ 140737488355328 := Nat.le_trans (Nat.mul_le_mul_right 56 (by omega)) h2
  have : a + 1 ≤ (a + 1) * 56 := Nat.le_mul_of_pos_right _ (by decide)
  unfold maxLen
  exact ⟨h1, by omega, by omega⟩

set_option maxRecDepth 100000 in
set_option maxHeartbeats 4000000 in
theorem net_any {w : World} {v1 v2 : Value} {a b : List Tup} (h1 : ReadS tupC 3 w v1 a) (h2 : ReadS tupC 3 w v2 b) (hb : ((netU a b).length + 1) * 56 ≤ 140737488355328) :
    Calls Tryz.prog 25 #[v1, v2] w fun e w' => ∃ v' l', e = .returned v' ∧ l'.Perm (netU a b) ∧ Stab.Sorted (ltOf mcmp) l' ∧ OwnS mutC 4 w' 47 v' (compactL l') ∧ Below w.heap.size w w' ∧ ∀ k, v'.ownBlock = some k → w.heap.size ≤ k := by
  obtain ⟨ao1, cap1, rfl, hl1⟩ := h1.form
  obtain ⟨ao2, cap2, rfl, hl2⟩ := h2.form
  obtain ⟨n1, hn1⟩ : ∃ n, a.length = n := ⟨_, rfl⟩
  obtain ⟨n2, hn2⟩ : ∃ n, b.length = n := ⟨_, rfl⟩
  obtain ⟨B, hB⟩ : ∃ B, w.heap.size = B := ⟨_, rfl⟩
  rw [hn1] at h1 hl1 ⊢
  rw [hn2] at h2 hl2 ⊢
  have HH := Lib.hid (And.intro h1 (And.intro h2 (And.intro hb (And.intro hB (And.intro hn1 hn2)))))
  clear h1 h2 hb
  go_enter Tryz.func25, Tryz.ntmps25
  go_wp2
  go_loopg [5, 12] n1 (fun gg sv vi wx => ∃ t : Nat, t + gg = n1 ∧ vi = .int .i64 (t : Int) ∧ OwnS mutC 4 wx 47 sv (outOf true (a.take t) b) ∧ Below B w wx ∧ B ≤ wx.heap.size ∧ ∀ k, sv.ownBlock = some k → B ≤ k)
  case atStart => exact ⟨0, by omega, rfl, OwnS.nil _ _ _ _, Below.refl _ _, by omega, fun k h => by simp [Value.ownBlock] at h⟩
  case round =>
    obtain ⟨t, htg, rfl, hown, hbel, hsz, hwh⟩ := hrel
    by_cases hc : t < n1
    · obtain ⟨r, hx⟩ : ∃ r, a[t]? = some r := ⟨_, List.getElem?_eq_getElem (by omega)⟩
      obtain ⟨bk, o, rfl, hrange, hbl⟩ := HH.out.1.lt (by decide) tupC_len hx
      have hrange2 : wr.rangeAt bk (o + t * 3) (tupC r) := range_below hrange hbel (by omega)
      have hout := outOf_succ true a b t r hx
      have hle : (outOf true (a.take t) b).length ≤ (netU a b).length := by
        have h1 := outOf_le true a b t
        unfold netU
        simp only [List.length_append] at h1 ⊢
        omega
      have hroom := room56 hle HH.out.2.2.1
      obtain ⟨x0, x1, x2⟩ := r
      have hci : (t : Int) < (n1 : Int) := by omega
      have hti : (t : Int) < 9223372036854775807 := by omega
      obtain ⟨O1, hO1⟩ : ∃ O1, outOf true (a.take t) b = O1 := ⟨_, rfl⟩
      rw [hO1] at hown hroom hle
      obtain ⟨W4, hW4⟩ : ∃ W4, wr.alloc (.cells #[.string x0, .string x1, .string x2] 41) = W4 := ⟨_, rfl⟩
      have hRb := block_new wr (.cells #[.string x0, .string x1, .string x2] 41)
      have hb4 := hbel.alloc (by omega) (.cells #[.string x0, .string x1, .string x2] 41)
      have hown4 : OwnS mutC 4 (wr.alloc (.cells #[.string x0, .string x1, .string x2] 41)) 47 u5 O1 := hown.mod (S := fun _ => False) ((Mod.refl _ wr).alloc _) (fun _ _ h => h)
      have hs4 : W4.heap.size = wr.heap.size + 1 := by rw [← hW4]; simp
      rw [hW4] at hRb hb4 hown4
      obtain ⟨R, hR⟩ : ∃ R, wr.heap.size = R := ⟨_, rfl⟩
      rw [hR] at hRb hs4
      have c0 : W4.cell? ⟨R, 0, none⟩ = some (.string x0) := cell_of hRb rfl
      have c1 : W4.cell? ⟨R, 1, none⟩ = some (.string x1) := cell_of hRb rfl
      have c2 : W4.cell? ⟨R, 2, none⟩ = some (.string x2) := cell_of hRb rfl
      have hcon := contains_any (x0, x1, x2) (HH.out.2.1.mod (S := fun _ => False) (by decide) tupC_len (Mod.of_below (by rw [hB]; exact hb4) (fun _ => False)) (fun _ _ h => h))
      unfold tupC at hcon
      obtain ⟨bb, hbb⟩ : ∃ bb, tin (x0, x1, x2) b = bb := ⟨_, rfl⟩
      rw [hbb] at hcon hout
      have HC := Lib.hid (And.intro hrange2 (And.intro hc (And.intro htg (And.intro hcon (And.intro hout (And.intro hO1 (And.intro hown4 (And.intro hb4 (And.intro hroom (And.intro hwh (And.intro hRb (And.intro (show B ≤ R by omega) hs4))))))))))))
      clear hrange hrange2 hc htg hcon hout hO1 hown hown4 hb4 hroom hwh hRb hle hbel hsz hbl hx hbb hs4
      go_wp2_with (first
        | (refine wpList_load_mid rfl 41 (.tmp 14) rfl bk (o + t * 3) rfl (tupC (x0, x1, x2)) _ HC.out.1 Tryz.underlying41 rfl infoTup0 ?_; unfold tupC))
      refine (HC.out.2.2.2.1).mono ?_
      rintro e w5 ⟨rfl, hb5⟩
      clear hW4 hR
      obtain ⟨k1, k2, k3, k4, k5, k6, k7, k8, k9, k10, k11, k12, k13⟩ := HC.out
      have hown5 : OwnS mutC 4 w5 47 u5 O1 := k7.mod (Mod.of_below hb5 (fun _ => False)) (fun _ _ h => h)
      have hR5 : w5.heap[R]? = some (.cells #[.string x0, .string x1, .string x2] 41 (0, 0)) := (hb5.block R (by omega)).trans k11
      have d0 : w5.cell? ⟨R, 0, none⟩ = some (.string x0) := cell_of hR5 rfl
      have d1 : w5.cell? ⟨R, 1, none⟩ = some (.string x1) := cell_of hR5 rfl
      have d2 : w5.cell? ⟨R, 2, none⟩ = some (.string x2) := cell_of hR5 rfl
      have hB5 : Below B w w5 := k8.trans (hb5.mono (by omega))
      have hs5 := hb5.size
      have HD := Lib.hid (And.intro hown5 (And.intro hB5 (show B ≤ w5.heap.size by omega)))
      clear hown5 hR5 hB5 hs5 hb5 k1 k2 k3 k4 k5 k6 k7 k8 k9 k10 k11 k12 k13 c0 c1 c2
      cases bb with
      | true =>
        go_wp2
        go_roundg (gk - 1)
        case measure => have h1 := HC.out.2; omega
        case rel =>
          obtain ⟨k1, k2, k3, k4, k5, k6, k7, k8, k9, k10, k11, k12, k13⟩ := HC.out
          refine ⟨t + 1, by omega, by go_num, ?_, HD.out.2.1, HD.out.2.2, k10⟩
          rw [k5, if_pos (by simp), List.append_nil, k6]
          exact HD.out.1
      | false =>
        have hoo : OwnS mutC 4 (w5.alloc (.cells #[.bool true, .string x0, .string x1, .string x2] 47)) 47 u5 O1 := HD.out.1.mod (S := fun _ => False) ((Mod.refl _ w5).alloc _) (fun _ _ h => h)
        have HE := Lib.hid hoo
        clear hoo
        go_wp2_with (first
          | (at_builtin; refine wpList_push elemMut rfl _ _ rfl rfl HE.out w5.heap.size (true, x0, x1, x2) rfl (block_new _ _) HC.out.2.2.2.2.2.2.2.2.1.1 HC.out.2.2.2.2.2.2.2.2.1.2.1 ?_))
        intro v' w' hown' hm' hb'
        have HF := Lib.hid (And.intro hown' (And.intro hm' hb'))
        clear hown' hm' hb'
        go_wp2
        go_roundg (gk - 1)
        case measure => have h1 := HC.out.2; omega
        case rel =>
          obtain ⟨k1, k2, k3, k4, k5, k6, k7, k8, k9, k10, k11, k12, k13⟩ := HC.out
          obtain ⟨f1, f2, f3⟩ := HF.out
          obtain ⟨d1, d2, d3⟩ := HD.out
          have hs7 := f2.size
          simp only [World.size_alloc] at hs7 f3
          refine ⟨t + 1, by omega, by go_num, ?_, (d2.alloc (by omega) _).trans (f2.to_below (by simp only [World.size_alloc]; omega) (fun k hk => k10 k hk.symm)), by omega, fun k hk => ?_⟩
          · rw [k5, if_neg (by simp), k6]
            exact f1
          · rcases f3 k hk with h | h
            · exact k10 k h
            · omega
    · have hci : ¬ (t : Int) < (n1 : Int) := by omega
      have ht : a.take t = a := List.take_of_length_le (by have := HH.out; omega)
      rw [ht] at hown
      have HT := Lib.hid (And.intro hown (And.intro hbel (And.intro hsz hwh)))
      clear hown hbel hsz hwh htg hc ht
      go_wp2
      go_loopg [5, 28] n2 (fun gg sv vi wx => ∃ t : Nat, t + gg = n2 ∧ vi = .int .i64 (t : Int) ∧ OwnS mutC 4 wx 47 sv (outOf true a b ++ outOf false (b.take t) a) ∧ Below B w wx ∧ B ≤ wx.heap.size ∧ ∀ k, sv.ownBlock = some k → B ≤ k)
      case atStart => exact ⟨0, by omega, rfl, by simpa [outOf] using HT.out.1, HT.out.2.1, HT.out.2.2.1, HT.out.2.2.2⟩
      case round =>
        obtain ⟨t, htg, rfl, hown, hbel, hsz, hwh⟩ := hrel
        by_cases hc : t < n2
        · obtain ⟨r, hx⟩ : ∃ r, b[t]? = some r := ⟨_, List.getElem?_eq_getElem (by omega)⟩
          obtain ⟨bk, o, rfl, hrange, hbl⟩ := HH.out.2.1.lt (by decide) tupC_len hx
          have hrange2 : wr.rangeAt bk (o + t * 3) (tupC r) := range_below hrange hbel (by omega)
          have hout := outOf_succ false b a t r hx
          have hle : (outOf true a b ++ outOf false (b.take t) a).length ≤ (netU a b).length := by
            have h1 := outOf_le false b a t
            unfold netU
            simp only [List.length_append] at h1 ⊢
            omega
          have hroom := room56 hle HH.out.2.2.1
          obtain ⟨x0, x1, x2⟩ := r
          have hci : (t : Int) < (n2 : Int) := by omega
          have hti : (t : Int) < 9223372036854775807 := by omega
          obtain ⟨O1, hO1⟩ : ∃ O1, outOf true a b ++ outOf false (b.take t) a = O1 := ⟨_, rfl⟩
          rw [hO1] at hown hroom hle
          obtain ⟨W4, hW4⟩ : ∃ W4, wr.alloc (.cells #[.string x0, .string x1, .string x2] 41) = W4 := ⟨_, rfl⟩
          have hRb := block_new wr (.cells #[.string x0, .string x1, .string x2] 41)
          have hb4 := hbel.alloc (by omega) (.cells #[.string x0, .string x1, .string x2] 41)
          have hown4 : OwnS mutC 4 (wr.alloc (.cells #[.string x0, .string x1, .string x2] 41)) 47 u5 O1 := hown.mod (S := fun _ => False) ((Mod.refl _ wr).alloc _) (fun _ _ h => h)
          have hs4 : W4.heap.size = wr.heap.size + 1 := by rw [← hW4]; simp
          rw [hW4] at hRb hb4 hown4
          obtain ⟨R, hR⟩ : ∃ R, wr.heap.size = R := ⟨_, rfl⟩
          rw [hR] at hRb hs4
          have c0 : W4.cell? ⟨R, 0, none⟩ = some (.string x0) := cell_of hRb rfl
          have c1 : W4.cell? ⟨R, 1, none⟩ = some (.string x1) := cell_of hRb rfl
          have c2 : W4.cell? ⟨R, 2, none⟩ = some (.string x2) := cell_of hRb rfl
          have hcon := contains_any (x0, x1, x2) (HH.out.1.mod (S := fun _ => False) (by decide) tupC_len (Mod.of_below (by rw [hB]; exact hb4) (fun _ => False)) (fun _ _ h => h))
          unfold tupC at hcon
          obtain ⟨bb, hbb⟩ : ∃ bb, tin (x0, x1, x2) a = bb := ⟨_, rfl⟩
          rw [hbb] at hcon hout
          have HC := Lib.hid (And.intro hrange2 (And.intro hc (And.intro htg (And.intro hcon (And.intro hout (And.intro hO1 (And.intro hown4 (And.intro hb4 (And.intro hroom (And.intro hwh (And.intro hRb (And.intro (show B ≤ R by omega) hs4))))))))))))
          clear hrange hrange2 hc htg hcon hout hO1 hown hown4 hb4 hroom hwh hRb hle hbel hsz hbl hx hbb hs4
          go_wp2_with (first
            | (refine wpList_load_mid rfl 41 (.tmp 30) rfl bk (o + t * 3) rfl (tupC (x0, x1, x2)) _ HC.out.1 Tryz.underlying41 rfl infoTup0 ?_; unfold tupC))
          refine (HC.out.2.2.2.1).mono ?_
          rintro e w5 ⟨rfl, hb5⟩
          clear hW4 hR
          obtain ⟨k1, k2, k3, k4, k5, k6, k7, k8, k9, k10, k11, k12, k13⟩ := HC.out
          have hown5 : OwnS mutC 4 w5 47 u5 O1 := k7.mod (Mod.of_below hb5 (fun _ => False)) (fun _ _ h => h)
          have hR5 : w5.heap[R]? = some (.cells #[.string x0, .string x1, .string x2] 41 (0, 0)) := (hb5.block R (by omega)).trans k11
          have d0 : w5.cell? ⟨R, 0, none⟩ = some (.string x0) := cell_of hR5 rfl
          have d1 : w5.cell? ⟨R, 1, none⟩ = some (.string x1) := cell_of hR5 rfl
          have d2 : w5.cell? ⟨R, 2, none⟩ = some (.string x2) := cell_of hR5 rfl
          have hB5 : Below B w w5 := k8.trans (hb5.mono (by omega))
          have hs5 := hb5.size
          have HD := Lib.hid (And.intro hown5 (And.intro hB5 (show B ≤ w5.heap.size by omega)))
          clear hown5 hR5 hB5 hs5 hb5 k1 k2 k3 k4 k5 k6 k7 k8 k9 k10 k11 k12 k13 c0 c1 c2
          cases bb with
          | true =>
            go_wp2
            go_roundg (gk - 1)
            case measure => have h1 := HC.out.2; omega
            case rel =>
              obtain ⟨k1, k2, k3, k4, k5, k6, k7, k8, k9, k10, k11, k12, k13⟩ := HC.out
              refine ⟨t + 1, by omega, by go_num, ?_, HD.out.2.1, HD.out.2.2, k10⟩
              rw [k5, if_pos (by simp), List.append_nil, k6]
              exact HD.out.1
          | false =>
            have hoo : OwnS mutC 4 (w5.alloc (.cells #[.bool false, .string x0, .string x1, .string x2] 47)) 47 u5 O1 := HD.out.1.mod (S := fun _ => False) ((Mod.refl _ w5).alloc _) (fun _ _ h => h)
            have HE := Lib.hid hoo
            clear hoo
            go_wp2_with (first
              | (at_builtin; refine wpList_push elemMut rfl _ _ rfl rfl HE.out w5.heap.size (false, x0, x1, x2) rfl (block_new _ _) HC.out.2.2.2.2.2.2.2.2.1.1 HC.out.2.2.2.2.2.2.2.2.1.2.1 ?_))
            intro v' w' hown' hm' hb'
            have HF := Lib.hid (And.intro hown' (And.intro hm' hb'))
            clear hown' hm' hb'
            go_wp2
            go_roundg (gk - 1)
            case measure => have h1 := HC.out.2; omega
            case rel =>
              obtain ⟨k1, k2, k3, k4, k5, k6, k7, k8, k9, k10, k11, k12, k13⟩ := HC.out
              obtain ⟨f1, f2, f3⟩ := HF.out
              obtain ⟨d1, d2, d3⟩ := HD.out
              have hs7 := f2.size
              simp only [World.size_alloc] at hs7 f3
              refine ⟨t + 1, by omega, by go_num, ?_, (d2.alloc (by omega) _).trans (f2.to_below (by simp only [World.size_alloc]; omega) (fun k hk => k10 k hk.symm)), by omega, fun k hk => ?_⟩
              · rw [k5, if_neg (by simp), ← List.append_assoc, k6]
                exact f1
              · rcases f3 k hk with h | h
                · exact k10 k h
                · omega
        · have hci : ¬ (t : Int) < (n2 : Int) := by omega
          have ht : b.take t = b := List.take_of_length_le (by have := HH.out; omega)
          rw [ht] at hown
          have HT := Lib.hid (And.intro hown (And.intro hbel (And.intro hsz hwh)))
          clear hown hbel hsz hwh htg hc ht
          go_wp2_with fail
          obtain ⟨e1, e2, e3, e4⟩ := HT.out
          refine (sort_mut e1 (room56 (Nat.le_refl _) HH.out.2.2.1).2.2).mono ?_
          rintro e w5 ⟨rfl, l', hp, hs, hown5, hm5⟩
          have k3 : Below B w w5 := e2.trans (hm5.to_below (by omega) (fun k hk => e4 k hk.symm))
          have HK := Lib.hid (And.intro hown5 (And.intro k3 (And.intro e4 (And.intro hp (And.intro hs (show B ≤ w5.heap.size by have := hm5.size; omega))))))
          clear hown5 hm5 k3 e1 e2 e3 e4 hp hs
          go_wp2_with fail
          refine (compactAnyMut HK.out.1).mono ?_
          rintro e w6 ⟨v6, rfl, hown6, hv6, hm6⟩
          have HL := Lib.hid (And.intro hown6 (And.intro hv6 hm6))
          clear hown6 hv6 hm6
          go_wp2
          go_ret
          obtain ⟨h1, h2, h3, h4, h5, h6⟩ := HK.out
          obtain ⟨k1, k2, k3⟩ := HL.out
          exact ⟨v6, l', rfl, h4, h5, k1, by rw [hB]; exact h2.trans (k3.to_below h6 (fun k hk => h3 k hk.symm)), fun k hk => by have := h3 k (by rw [← k2]; exact hk); omega⟩
end Go.Proofs.YtojjnfhgldjgbaaGreatDoor.Watch
end
