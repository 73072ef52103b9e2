/- StoreBoth, where what came in is of bulk at most 1048576: who has a relation, what a user has, and Has say the same: part 11 of 14: what it leans on. -/
import Derived.Handy
import Derived.Test.YtojjnfhgldjgbaaGreatDoorBoA
import Derived.Test.YtojjnfhgldjgbaaGreatDoorBoB
import Derived.Test.YtojjnfhgldjgbaaGreatDoorBoC
import Derived.Test.YtojjnfhgldjgbaaGreatDoorBoD
import Derived.Test.YtojjnfhgldjgbaaGreatDoorBoE
import Derived.Test.YtojjnfhgldjgbaaGreatDoorBoF
import Derived.Test.YtojjnfhgldjgbaaGreatDoorBoG
import Derived.Test.YtojjnfhgldjgbaaGreatDoorBoH
import Derived.Test.YtojjnfhgldjgbaaGreatDoorBoI
import Derived.Test.YtojjnfhgldjgbaaGreatDoorBoJ
section
set_option linter.unusedVariables false
set_option linter.unusedSimpArgs false
namespace Go.Proofs.YtojjnfhgldjgbaaGreatDoor.Store
open Go.RowKit Go.Por Go.Sort Go.Proofs.YtojjnfhgldjgbaaGreatDoor.Watch
theorem MapIs.own_ne {κ α : Type} {enc : κ → Value} {w : World} {M : Nat} {lm : List (κ × Value)} (h : MapIs w M enc lm) {f : α → List Value} {c : Nat} {E : TypeId} {v : Value} {l : List α} (ho : OwnS f c w E v l) : v.ownBlock ≠ some M := by
  obtain ⟨es, ck, h1, _⟩ := h
  rcases ho.form with ⟨rfl, _⟩ | ⟨g, cap, rfl, _, _⟩
  · simp [Value.ownBlock]
  · obtain ⟨cur, h2, _⟩ := ho.block
    intro e
    simp only [Value.ownBlock, Option.some.injEq] at e
    subst e
    rw [h1] at h2
    cases h2
theorem iter_own_ne {κ α : Type} {enc : κ → Value} {w : World} {I M : Nat} {lm dn : List (κ × Value)} (h : IterIs w I M enc lm dn) {f : α → List Value} {c : Nat} {E : TypeId} {v : Value} {l : List α} (ho : OwnS f c w E v l) : v.ownBlock ≠ some I := by
  obtain ⟨es, ck, _, _, _, _, _, idx, _, _, _, seen, hs, _⟩ := h
  rcases ho.form with ⟨rfl, _⟩ | ⟨g, cap, rfl, _, _⟩
  · simp [Value.ownBlock]
  · obtain ⟨cur, h2, _⟩ := ho.block
    intro e
    simp only [Value.ownBlock, Option.some.injEq] at e
    subst e
    rw [hs] at h2
    cases h2
/-- The rows of one tuple. -/
def rowsOf (t : Tup) (l : List Span) : List RowT := l.map (fun x => (t, x.1, x.2))
def outM (sp : Sp) (dn : List (Tup × Value)) : List RowT := dn.flatMap (fun e => rowsOf e.1 (aget sp e.1))
theorem outM_all {lm : List (Tup × (Value × List Span))} (hn : (lm.map Prod.fst).Nodup) : outM (smc lm) (smv lm) = flatA (smc lm) := by
  unfold outM flatA
  have h1 : smv lm = lm.map (fun e => (e.1, e.2.1)) := rfl
  have h2 : smc lm = lm.map (fun e => (e.1, e.2.2)) := rfl
  rw [h1]
  conv => rhs; rw [h2]
  rw [List.flatMap_map, List.flatMap_map, List.flatMap_def, List.flatMap_def]
  congr 1
  apply List.map_congr_left
  intro e he
  have h3 : aget (smc lm) e.1 = e.2.2 := aget_some (by rw [smc_fst]; exact hn) (List.mem_map.2 ⟨e, he, rfl⟩)
  show rowsOf e.1 (aget (smc lm) e.1) = _
  rw [h3]
  rfl
theorem outM_part {lm : List (Tup × (Value × List Span))} (hn : (lm.map Prod.fst).Nodup) {dn : List (Tup × Value)} (hd : dn.Nodup) (hs : ∀ e ∈ dn, e ∈ smv lm) : (outM (smc lm) dn).length ≤ (flatA (smc lm)).length := by
  classical
  obtain ⟨c, hc⟩ := nodup_part hd hs
  rw [← outM_all hn]
  have h1 := (hc.flatMap_right (fun e : Tup × Value => rowsOf e.1 (aget (smc lm) e.1))).length_eq
  unfold outM
  rw [h1, List.flatMap_append, List.length_append]
  exact Nat.le_add_right _ _
theorem rowsOf_take (t : Tup) (l : List Span) {i : Nat} {x : Span} (h : l[i]? = some x) : rowsOf t (l.take (i + 1)) = rowsOf t (l.take i) ++ [(t, x.1, x.2)] := by
  unfold rowsOf
  rw [List.take_add_one, h, Option.toList_some, List.map_append]
  rfl
section
variable {w : World} {s O U M MO MU : Nat} {F : Nat → Prop} {lm : List (Tup × (Value × List Span))} {lo : List (PairT × (Value × List Tup))} {lu : List (ByteArray × (Value × List Tup))} {wm : Int}
set_option maxRecDepth 100000 in
set_option maxHeartbeats 400000 in
theorem rows_mem (h : StMem w s O U M MO MU F lm lo lu wm) (hb : ((flatA (smc lm)).length + 1) * 64 ≤ 140737488355328) (hrev : ∀ r ∈ flatA (smc lm), 0 ≤ r.2.1 ∧ r.2.1 ≤ maxRev) :
    Calls Tryz.prog 28 #[.pointer (some ⟨s, 0, none⟩)] w fun e w' => ∃ v', e = .returned v' ∧ ∃ l', l'.Perm (flatA (smc lm)) ∧ l'.Pairwise (fun x y => ¬ rlt y x) ∧ OwnS rowC 5 w' 63 v' l' ∧ Below w.heap.size w w' ∧ ∀ k, v'.ownBlock = some k → w.heap.size ≤ k := by
  obtain ⟨B, hB⟩ : ∃ B, w.heap.size = B := ⟨_, rfl⟩
  have c := cell_of (i := 0) h.hs rfl
  obtain ⟨oI, hrng, hit⟩ := h.m.map.range Tryz.underlying104
  rw [hB] at hrng hit
  have hbI : Below B w (w.alloc oI) := by rw [← hB]; exact (Below.refl _ w).alloc (Nat.le_refl _) _
  have hsI : (w.alloc oI).heap.size = B + 1 := by rw [World.size_alloc, hB]
  obtain ⟨WI, hWI⟩ : ∃ WI, w.alloc oI = WI := ⟨_, rfl⟩
  rw [hWI] at hrng hit hbI hsI
  rw [hB]
  have HH := Lib.hid (And.intro h (And.intro hb (And.intro hrev (And.intro hit (And.intro hbI (And.intro hsI hB))))))
  clear h hb hrev hit hbI hsI hWI hB
  go_enter Tryz.func28, Tryz.ntmps28
  go_wp2
  clear hrng
  go_loopg [3] ((smv lm).length) (fun gg sv wx => ∃ dn : List (Tup × Value), dn.length + gg = (smv lm).length ∧ dn.Nodup ∧ (∀ e ∈ dn, e ∈ smv lm) ∧ OwnS rowC 5 wx 63 sv (outM (smc lm) dn) ∧ IterIs wx B M encT (smv lm) dn ∧ Below B w wx ∧ B + 1 ≤ wx.heap.size ∧ ∀ k, sv.ownBlock = some k → B + 1 ≤ k)
  case atStart => exact ⟨[], by simp, List.nodup_nil, (fun e he => by cases he), OwnS.nil _ _ _ _, HH.out.2.2.2.1, HH.out.2.2.2.2.1, by have := HH.out; omega, fun k h => by simp [Value.ownBlock] at h⟩
  case round =>
    obtain ⟨dn, hdg, hdn, hdm, hown, hit, hbel, hsz, hwh⟩ := hrel
    rcases hit.next (P := Tryz.prog) with ⟨hfin, hnx⟩ | ⟨q, v, w', hlt, hm, hnd, hnx, hit', hm', hen⟩
    · have hp := hit.all hfin
      have HE := Lib.hid (And.intro hown (And.intro hbel (And.intro hsz (And.intro hwh hp))))
      clear hown hit hbel hsz hwh hdg hp hfin hdn hdm
      go_wp2_with fail
      obtain ⟨e1, e2, e3, e4, e5⟩ := HE.out
      have hperm : (outM (smc lm) dn).Perm (flatA (smc lm)) := by
        rw [← outM_all HH.out.1.m.nodup]
        exact e5.flatMap_right _
      have hle : (flatA (smc lm)).length < 4611686018427387904 := by
        have := HH.out.2.1
        omega
      refine (sort_rows e1 (by rw [hperm.length_eq]; exact hle) (fun r hr => HH.out.2.2.1 r (hperm.mem_iff.1 hr))).mono ?_
      rintro e w5 ⟨rfl, l', hp', hso, hown5, hm5⟩
      have k3 : Below B w w5 := e2.trans (hm5.to_below (by omega) (fun k hk => by have := e4 k hk.symm; omega))
      have HK := Lib.hid (And.intro (hp'.trans hperm) (And.intro hso (And.intro hown5 (And.intro k3 e4))))
      clear hown5 hm5 k3 e1 e2 e3 e4 e5 hp' hperm hso hle
      go_wp2
      go_ret
      obtain ⟨h1, h2, h3, h4, h5⟩ := HK.out
      exact ⟨u3, rfl, l', h1, h2, h3, h4, fun k hk => by have := h5 k hk; omega⟩
    · obtain ⟨x0, x1, x2⟩ := q
      obtain ⟨L, hL⟩ : ∃ L, aget (smc lm) (x0, x1, x2) = L := ⟨_, rfl⟩
      have hown0 : OwnS spanC 2 w 119 v L := by
        obtain ⟨e0, he0, hee⟩ := List.mem_map.1 hm
        have h1 := (Prod.mk.inj hee).1
        have h2 := (Prod.mk.inj hee).2
        have h3 : aget (smc lm) e0.1 = e0.2.2 := aget_some (by rw [smc_fst]; exact HH.out.1.m.nodup) (List.mem_map.2 ⟨e0, he0, rfl⟩)
        rw [← hL, ← h1, h3, ← h2]
        exact HH.out.1.m.own e0 he0
      obtain ⟨n, hn⟩ : ∃ n, L.length = n := ⟨_, rfl⟩
      obtain ⟨ao, cp, rfl, hao⟩ : ∃ ao cp, v = .slice ao n cp ∧ (0 < n → ∃ g, ao = some ⟨g, 0, none⟩) := by
        rcases hown0.form with ⟨rfl, h2⟩ | ⟨g, cap, rfl, _, _⟩
        · exact ⟨none, 0, by rw [← hn, h2]; rfl, fun h => by rw [← hn, h2] at h; simp at h⟩
        · exact ⟨_, cap, by rw [hn], fun _ => ⟨g, rfl⟩⟩
      have hdn2 : (dn ++ [((x0, x1, x2), Value.slice ao n cp)]).Nodup := List.nodup_append.2 ⟨hdn, by simp, fun a ha b hb' e => by
        simp only [List.mem_singleton] at hb'
        rw [hb'] at e
        rw [e] at ha
        exact hnd ha⟩
      have hdm2 : ∀ e ∈ dn ++ [((x0, x1, x2), Value.slice ao n cp)], e ∈ smv lm := fun e he => by
        rcases List.mem_append.1 he with he | he
        · exact hdm e he
        · simp only [List.mem_singleton] at he
          rw [he]; exact hm
      have hcat : outM (smc lm) (dn ++ [((x0, x1, x2), Value.slice ao n cp)]) = outM (smc lm) dn ++ rowsOf (x0, x1, x2) L := by
        unfold outM
        rw [List.flatMap_append, List.flatMap_cons, List.flatMap_nil, List.append_nil, hL]
      have hbound : (outM (smc lm) dn).length + n ≤ (flatA (smc lm)).length := by
        have h1 := outM_part HH.out.1.m.nodup hdn2 hdm2
        rw [hcat, List.length_append] at h1
        unfold rowsOf at h1
        rw [List.length_map, hn] at h1
        exact h1
      obtain ⟨S, hS⟩ : ∃ S, w'.heap.size = S := ⟨_, rfl⟩
      have hs' := hm'.size
      have hnI := iter_own_ne hit hown
      have hown4 : OwnS rowC 5 (w'.alloc (.cells #[.string x0, .string x1, .string x2] 41)) 63 u3 (outM (smc lm) dn) := (hown.mod hm' (fun k hk e => hnI (by rw [hk, show k = B from e]))).mod (S := fun _ => False) ((Mod.refl _ w').alloc _) (fun _ _ h => h)
      have hit4 := hit'.mod ((Mod.refl (fun _ => False) w').alloc (.cells #[.string x0, .string x1, .string x2] 41)) (fun h => h) (fun h => h)
      have hb4 : Below B w (w'.alloc (.cells #[.string x0, .string x1, .string x2] 41)) := (hbel.trans (hm'.to_below (by omega) (fun k hk => by rw [show k = B from hk]; exact Nat.le_refl _))).alloc (by omega) _
      have hT4 := block_new w' (.cells #[.string x0, .string x1, .string x2] 41)
      have hs4 : (w'.alloc (.cells #[.string x0, .string x1, .string x2] 41)).heap.size = S + 1 := by rw [World.size_alloc, hS]
      rw [hS] at hT4
      obtain ⟨W4, hW4⟩ : ∃ W4, w'.alloc (.cells #[.string x0, .string x1, .string x2] 41) = W4 := ⟨_, rfl⟩
      rw [hW4] at hown4 hit4 hb4 hT4 hs4
      unfold encT tupC at hnx hen
      have HE := Lib.hid (And.intro hown4 (And.intro hit4 (And.intro hb4 (And.intro hT4 (And.intro hs4 (And.intro hwh (And.intro (show B + 1 ≤ S by omega) (And.intro hown0 (And.intro hn (And.intro hao (And.intro hbound (And.intro hcat (And.intro hdn2 (And.intro hdm2 (And.intro hlt hdg)))))))))))))))
      clear hown4 hit4 hb4 hT4 hs4 hwh hown0 hn hao hbound hcat hdn2 hdm2 hdg hs' hnI hown hit hit' hbel hsz hdn hdm hlt hm hm' hnd hL
      go_wp2
      clear hnx hen hW4 hS c
      go_loopg [3, 20] n (fun gg sv vi wx => ∃ t : Nat, t + gg = n ∧ vi = .int .i64 (t : Int) ∧ OwnS rowC 5 wx 63 sv (outM (smc lm) dn ++ rowsOf (x0, x1, x2) (L.take t)) ∧ IterIs wx B M encT (smv lm) (dn ++ [((x0, x1, x2), Value.slice ao n cp)]) ∧ Below B w wx ∧ S + 1 ≤ wx.heap.size ∧ (∀ k, sv.ownBlock = some k → B + 1 ≤ k) ∧ wx.heap[S]? = some (.cells #[.string x0, .string x1, .string x2] 41 (0, 0)))
      case atStart => exact ⟨0, by omega, rfl, by simpa [rowsOf] using HE.out.1, HE.out.2.1, HE.out.2.2.1, by have := HE.out.2.2.2.2.1; omega, HE.out.2.2.2.2.2.1, HE.out.2.2.2.1⟩
      case round =>
        obtain ⟨t, htg, rfl, iown, iit, ibel, isz, iwh, iT⟩ := hrel
        by_cases hg : gk = 0
        · have ht : t = n := by omega
          have hk0 : ¬ ((t : Int) < (n : Int)) := by omega
          rw [List.take_of_length_le (by rw [HE.out.2.2.2.2.2.2.2.2.1]; omega)] at iown
          have HI := Lib.hid (And.intro iown (And.intro iit (And.intro ibel (And.intro isz iwh))))
          clear iown iit ibel isz iwh iT htg hg ht
          go_wp2
          go_roundg ((smv lm).length - (dn.length + 1))
          case measure => obtain ⟨e1, e2, e3, e4, e5, e6, e7, e8, e9, e10, e11, e12, e13, e14, e15, e16⟩ := HE.out; omega
          case rel =>
            obtain ⟨i1, i2, i3, i4, i5⟩ := HI.out
            obtain ⟨e1, e2, e3, e4, e5, e6, e7, e8, e9, e10, e11, e12, e13, e14, e15, e16⟩ := HE.out
            refine ⟨dn ++ [((x0, x1, x2), Value.slice ao n cp)], ?_, e13, e14, by rw [e12]; exact i1, i2, i3, by omega, i5⟩
            rw [List.length_append, List.length_singleton]
            omega
        · have htn : t < n := by omega
          have hti : (t : Int) < (n : Int) := by omega
          obtain ⟨g, rfl⟩ := HE.out.2.2.2.2.2.2.2.2.2.1 (by omega)
          obtain ⟨x, hx⟩ : ∃ x, L[t]? = some x := ⟨_, List.getElem?_eq_getElem (by rw [HE.out.2.2.2.2.2.2.2.2.1]; exact htn)⟩
          have hrange := HE.out.2.2.2.2.2.2.2.1.range spanC_len hx
          have hgl := HE.out.2.2.2.2.2.2.2.1.lt
          rw [HH.out.2.2.2.2.2.2] at hgl
          have hrange2 : wr.rangeAt g (t * 2) (spanC x) := range_below hrange ibel hgl
          have htake := rowsOf_take (x0, x1, x2) L hx
          obtain ⟨xa, xb⟩ := x
          have hlen : (outM (smc lm) dn ++ rowsOf (x0, x1, x2) (L.take t)).length = (outM (smc lm) dn).length + t := by
            unfold rowsOf
            rw [List.length_append, List.length_map, List.length_take, HE.out.2.2.2.2.2.2.2.2.1]
            omega
          have hti2 : (t : Int) < 9223372036854775807 := by
            have h1 := HE.out.2.2.2.2.2.2.2.2.2.2.1
            have h2 := HH.out.2.1
            omega
          have HI := Lib.hid (And.intro iown (And.intro iit (And.intro ibel (And.intro isz (And.intro iwh (And.intro iT (And.intro htake (And.intro hrange2 (And.intro htg (And.intro htn hlen))))))))))
          clear iown iit ibel isz iwh iT htake hrange hrange2 htg htn hg hx hlen hgl
          go_upto_region 8 with (first
            | (refine wpList_load_mid rfl 119 (.tmp 22) rfl g (t * 2) rfl (spanC (xa, xb)) _ HI.out.2.2.2.2.2.2.2.1 Tryz.underlying119 rfl infoSpan ?_; unfold spanC))
          obtain ⟨Q, hQ⟩ : ∃ Q, wr.heap.size = Q := ⟨_, rfl⟩
          have hQb := block_new wr (.cells #[.int .i64 xa, .int .i64 xb] 119)
          have m6 : Mod (fun _ => False) wr (wr.alloc (.cells #[.int .i64 xa, .int .i64 xb] 119)) := (Mod.refl _ wr).alloc _
          have s6 : (wr.alloc (.cells #[.int .i64 xa, .int .i64 xb] 119)).heap.size = Q + 1 := by rw [World.size_alloc, hQ]
          rw [hQ] at hQb ⊢
          generalize hW6 : wr.alloc (.cells #[.int .i64 xa, .int .i64 xb] 119) = W6 at *
          have m7 : Mod (fun _ => False) wr (W6.alloc (.cells #[.string x0, .string x1, .string x2, .int .i64 xa, .int .i64 xb] 63)) := m6.alloc _
          have hT6 := m6.old HI.out.2.2.2.2.2.1 id
          have y0 : W6.cell? ⟨S, 0, none⟩ = some (.string x0) := cell_of hT6 rfl
          have y1 : W6.cell? ⟨S, 1, none⟩ = some (.string x1) := cell_of hT6 rfl
          have y2 : W6.cell? ⟨S, 2, none⟩ = some (.string x2) := cell_of hT6 rfl
          have z0 : W6.cell? ⟨Q, 0, none⟩ = some (.int .i64 xa) := cell_of hQb rfl
          have z1 : W6.cell? ⟨Q, 1, none⟩ = some (.int .i64 xb) := cell_of hQb rfl
          have hroom : ((outM (smc lm) dn ++ rowsOf (x0, x1, x2) (L.take t)).length + 1) * 64 ≤ 140737488355328 := by
            have h1 := HI.out.2.2.2.2.2.2.2.2.2.2
            have h2 := HE.out.2.2.2.2.2.2.2.2.2.2.1
            have h3 := HI.out.2.2.2.2.2.2.2.2.2.1
            refine Nat.le_trans (Nat.mul_le_mul_right 64 ?_) HH.out.2.1
            omega
          have hroom2 : (outM (smc lm) dn ++ rowsOf (x0, x1, x2) (L.take t)).length + 1 ≤ maxLen := by
            unfold maxLen
            omega
          have HJ := Lib.hid (And.intro (HI.out.1.mod m7 (fun _ _ h => h)) (And.intro (block_new W6 (.cells #[.string x0, .string x1, .string x2, .int .i64 xa, .int .i64 xb] 63)) (And.intro hroom (And.intro hroom2 (And.intro m7 (And.intro s6 hQ))))))
          clear hQb m6 m7 hT6 hW6 hQ hroom hroom2 s6
          go_wp2_with (first
            | (at_builtin; refine wpList_push (f := rowC) (c := 5) (bytes := 64) (v := u3) (l := outM (smc lm) dn ++ rowsOf (x0, x1, x2) (L.take t)) elemRow rfl (.tmp 24) (.tmp 31) rfl rfl HJ.out.1 W6.heap.size ((x0, x1, x2), xa, xb) rfl HJ.out.2.1 HJ.out.2.2.1 HJ.out.2.2.2.1 ?_))
          intro v7 w7 hown7 hm7 hb7
          have HK := Lib.hid (And.intro hown7 (And.intro hm7 hb7))
          clear hown7 hm7 hb7
          go_wp2
          go_roundg (gk - 1)
          case measure => have := HI.out.2.2.2.2.2.2.2.2.1; omega
          case rel =>
            obtain ⟨i1, i2, i3, i4, i5, i6, i7, i8, i9, i10, i11⟩ := HI.out
            obtain ⟨j1, j2, j3, j4, j5, j6, j7⟩ := HJ.out
            obtain ⟨k1, k2, k3⟩ := HK.out
            have hs7 := k2.size
            have e7 : (W6.alloc (.cells #[.string x0, .string x1, .string x2, .int .i64 xa, .int .i64 xb] 63)).heap.size = Q + 2 := by rw [World.size_alloc, j6]
            have h10 := HE.out.2.2.2.2.2.2.1
            refine ⟨t + 1, by omega, by go_num, by rw [i7]; first | exact k1 | (rw [← List.append_assoc]; exact k1), (i2.mod j5 id id).mod k2 (fun e => MapIs.own_ne (IterIs.map (i2.mod j5 id id)) j1 e.symm) (fun e => iter_own_ne (i2.mod j5 id id) j1 e.symm), (i3.trans (j5.to_below (by omega) (fun _ h => h.elim))).trans (k2.to_below (by omega) (fun k hk => by have := i5 k hk.symm; omega)), by omega, fun k hk => ?_, ?_⟩
            · rcases k3 k hk with h | h
              · exact i5 k h
              · omega
            · exact k2.old (j5.old i6 id) (fun e => own_ne i1 i6 (by decide) e.symm)
end
end Go.Proofs.YtojjnfhgldjgbaaGreatDoor.Store
end
section
set_option linter.unusedVariables false
set_option linter.unusedSimpArgs false
namespace Go.Proofs.YtojjnfhgldjgbaaGreatDoor.Store
open Go.RowKit Go.Por Go.Sort Go.Proofs.YtojjnfhgldjgbaaGreatDoor.Watch Go.Por.Tupl
def docA : ByteArray := ⟨#[100, 111, 99, 58, 97]⟩
def viewerS : ByteArray := ⟨#[118, 105, 101, 119, 101, 114]⟩
def annS : ByteArray := ⟨#[117, 115, 101, 114, 58, 97, 110, 110]⟩
def annT : Tup := (docA, viewerS, annS)
theorem ann_chk : tchk annT = 0 := by decide +kernel
theorem chk1 : checkA [] 0 3 [(false, annT)] = 0 := by
  unfold checkA checkL checkL maxRev
  rw [ann_chk]
  decide +kernel
theorem app1 : apply3 3 ([], [], []) [(false, annT)] = ([(annT, [(3, 0)])], [((docA, viewerS), [annT])], [(annS, [annT])]) := by
  kernel_rfl
theorem chk2 : checkA [(annT, [(3, 0)])] 0 5 [(true, annT)] = 0 := by
  unfold checkA checkL checkL maxRev
  rw [ann_chk]
  decide +kernel
theorem app2 : apply3 5 ([(annT, [(3, 0)])], [((docA, viewerS), [annT])], [(annS, [annT])]) [(true, annT)] = ([(annT, [(3, 5)])], [((docA, viewerS), [annT])], [(annS, [annT])]) := by
  kernel_rfl
theorem has4 : (decide (readA 0 4 = 0) && atA [(annT, [(3, 5)])] annT 4) = true := by kernel_rfl
theorem has5 : (decide (readA 0 5 = 0) && atA [(annT, [(3, 5)])] annT 5) = false := by kernel_rfl
theorem users3 : usersL [(annT, [(3, 5)])] 3 (aget [((docA, viewerS), [annT])] (docA, viewerS)) = [annS] := by kernel_rfl
theorem flat1 : flatA [(annT, [(3, 5)])] = [(annT, 3, 5)] := rfl
theorem viewer_any (w : World) (u : ByteArray) : Calls Tryz.prog 65 #[.string u] w fun e w' => e = .returned (.agg #[.string docA, .string viewerS, .string u]) ∧ Below w.heap.size w w' := by
  go_enter Tryz.func65, Tryz.ntmps65
  go_wp2
  go_returns
  exact ⟨rfl, (Below.refl _ w).alloc (Nat.le_refl _) _⟩
section
variable {w : World} {s O U M MO MU : Nat} {F : Nat → Prop} {lm : List (Tup × (Value × List Span))} {lo : List (PairT × (Value × List Tup))} {lu : List (ByteArray × (Value × List Tup))} {wm : Int}
/-- Apply of one mutation, that lies in a new block. -/
theorem apply_one (h : StMem w s O U M MO MU F lm lo lu wm) {N : Nat} (hN : Short N lm lo lu) (hN2 : N + 1 ≤ 1099511627776) (m : Mut) (hok : TupOk m.2) (rev : Int) :
    Calls Tryz.prog 26 #[.pointer (some ⟨s, 0, none⟩), .int .i64 rev, .slice (some ⟨w.heap.size, 0, none⟩) 1 1] (w.alloc (.cells (mutC m).toArray 47)) fun e w' => e = .returned (.int .i64 (checkA (smc lm) wm rev [m])) ∧
      ∃ lm' lo' lu', StMem w' s O U M MO MU (grew F w w') lm' lo' lu' wm ∧ (smc lm', smc lo', smc lu') = (if checkA (smc lm) wm rev [m] = 0 then apply3 rev (smc lm, smc lo, smc lu) [m] else (smc lm, smc lo, smc lu)) ∧ Short (N + 1) lm' lo' lu' ∧ Mod F w w' := by
  have hb := block_new w (.cells (mutC m).toArray 47)
  have ma : Mod (fun _ => False) w (w.alloc (.cells (mutC m).toArray 47)) := (Mod.refl _ w).alloc _
  have sa : (w.alloc (.cells (mutC m).toArray 47)).heap.size = w.heap.size + 1 := by rw [World.size_alloc]
  refine (apply_mem (h.mod ma (fun _ _ h => h)) hN (OwnS.read mutC_len (OwnS.one (mutC_len m) hb)) (fun _ k hk hF => ?_) (fun m' hm' => by rw [List.mem_singleton] at hm'; rw [hm']; exact hok) hN2 rev).mono ?_
  · simp only [Value.ownBlock, Option.some.injEq] at hk
    have := h.lt k hF
    omega
  · rintro e w' ⟨he, lm', lo', lu', h1, h2, h3, h4⟩
    have z := h4.size
    refine ⟨he, lm', lo', lu', h1.weaken (fun b hb => ?_) (fun b hb => ?_), h2, h3, (ma.mono (S' := F) (fun _ _ h => h.elim)).trans' h4⟩
    · rcases hb with hb | hb
      · exact .inl hb
      · exact .inr ⟨by omega, hb.2⟩
    · rcases hb with hb | hb
      · have := h.lt b hb; omega
      · exact hb.2
end
theorem annOk : TupOk annT := by
  unfold TupOk annT docA viewerS annS
  decide
set_option maxRecDepth 100000 in
set_option maxHeartbeats 800000 in
theorem awake_any (w : World) : Calls Tryz.prog 29 #[] w fun e w' => e = .returned (.bool true) ∧ Below w.heap.size w w' := by
  have hv : ∀ W : World, Calls Tryz.prog 65 #[.string annS] W fun e w' => e = .returned (.agg #[.string docA, .string viewerS, .string annS]) ∧ Below W.heap.size W w' := fun W => viewer_any W annS
  have HV := Lib.hid hv
  clear hv
  go_enter Tryz.func29, Tryz.ntmps29
  go_wp2_with fail
  refine (new_any _).mono ?_
  rintro e w1 ⟨s, rfl, ⟨O, U, M, MO, MU, lm, lo, lu, h1, e1, e2, e3⟩, b1⟩
  have hsh : Short 0 lm lo lu := ⟨fun k => by rw [e1]; exact Nat.le_refl _, fun k => by rw [e2]; exact Nat.le_refl _, fun k => by rw [e3]; exact Nat.le_refl _⟩
  have H1 := Lib.hid (And.intro h1 (And.intro e1 (And.intro e2 (And.intro e3 (And.intro b1 hsh)))))
  clear h1 e1 e2 e3 b1 hsh
  go_wp2_with fail
  refine (HV.out _).mono ?_
  rintro e w2 ⟨rfl, b2⟩
  have h2 := H1.out.1.below b2
  have B2 := Lib.hid (And.intro (H1.out.2.2.2.2.1.trans (b2.mono H1.out.2.2.2.2.1.size)) h2)
  clear b2 h2
  go_wp2_with fail
  refine (apply_one B2.out.2 H1.out.2.2.2.2.2 (by decide) (false, annT) annOk 3).mono ?_
  rintro e w3 ⟨rfl, lm3, lo3, lu3, h3, p3, s3, m3⟩
  rw [H1.out.2.1, H1.out.2.2.1, H1.out.2.2.2.1, chk1, if_pos rfl, app1] at p3
  rw [H1.out.2.1, chk1]
  have q1 := congrArg (fun x : St3 => x.1) p3
  have q2 := congrArg (fun x : St3 => x.2.1) p3
  have q3 := congrArg (fun x : St3 => x.2.2) p3
  have b3 : Below w.heap.size w w3 := B2.out.1.trans (m3.to_below B2.out.1.size (fun b hb => hb.1))
  have H3 := Lib.hid (And.intro h3 (And.intro q1 (And.intro q2 (And.intro q3 (And.intro b3 s3)))))
  clear h3 p3 s3 m3 q1 q2 q3 b3
  go_wp2_with fail
  refine (HV.out _).mono ?_
  rintro e w4 ⟨rfl, b4⟩
  have h4 := H3.out.1.below b4
  have B4 := Lib.hid (And.intro (H3.out.2.2.2.2.1.trans (b4.mono H3.out.2.2.2.2.1.size)) h4)
  clear b4 h4
  go_wp2_with fail
  refine (apply_one B4.out.2 H3.out.2.2.2.2.2 (by decide) (true, annT) annOk 5).mono ?_
  rintro e w5 ⟨rfl, lm5, lo5, lu5, h5, p5, s5, m5⟩
  rw [H3.out.2.1, H3.out.2.2.1, H3.out.2.2.2.1, chk2, if_pos rfl, app2] at p5
  rw [H3.out.2.1, chk2]
  have q1 := congrArg (fun x : St3 => x.1) p5
  have q2 := congrArg (fun x : St3 => x.2.1) p5
  have q3 := congrArg (fun x : St3 => x.2.2) p5
  have b5 : Below w.heap.size w w5 := B4.out.1.trans (m5.to_below B4.out.1.size (fun b hb => by rcases hb with hb | hb; exact hb.1; exact Nat.le_trans B2.out.1.size hb.1))
  have H5 := Lib.hid (And.intro h5 (And.intro q1 (And.intro q2 (And.intro q3 (And.intro b5 s5)))))
  clear h5 p5 s5 m5 q1 q2 q3 b5
  go_wp2_with fail
  refine (HV.out _).mono ?_
  rintro e w6 ⟨rfl, b6⟩
  have h6 := H5.out.1.below b6
  have B6 := Lib.hid (And.intro (H5.out.2.2.2.2.1.trans (b6.mono H5.out.2.2.2.2.1.size)) h6)
  clear b6 h6
  go_wp2_with fail
  refine (has_mem B6.out.2 annT 4 (Nat.le_trans (H5.out.2.2.2.2.2.m _) (by decide))).mono ?_
  rintro e w7 ⟨rfl, b7⟩
  rw [H5.out.2.1, has4, show readA 0 4 = 0 from rfl]
  have h7 := B6.out.2.below b7
  have B7 := Lib.hid (And.intro (B6.out.1.trans (b7.mono B6.out.1.size)) h7)
  clear b7 h7
  go_wp2_with fail
  refine (HV.out _).mono ?_
  rintro e w8 ⟨rfl, b8⟩
  have h8 := B7.out.2.below b8
  have B8 := Lib.hid (And.intro (B7.out.1.trans (b8.mono B7.out.1.size)) h8)
  clear b8 h8
  go_wp2_with fail
  refine (has_mem B8.out.2 annT 5 (Nat.le_trans (H5.out.2.2.2.2.2.m _) (by decide))).mono ?_
  rintro e w9 ⟨rfl, b9⟩
  rw [H5.out.2.1, has5, show readA 0 5 = 0 from rfl]
  have h9 := B8.out.2.below b9
  have B9 := Lib.hid (And.intro (B8.out.1.trans (b9.mono B8.out.1.size)) h9)
  clear b9 h9
  go_wp2_with fail
  refine (users_mem B9.out.2 H5.out.2.2.2.2.2 (by decide) docA viewerS 3).mono ?_
  rintro e w10 ⟨v10, rfl, o10, b10, _⟩
  rw [H5.out.2.1, H5.out.2.2.1, show readA 0 3 = 0 from rfl, if_pos rfl, users3] at o10
  rw [show readA 0 3 = 0 from rfl]
  have hl10 : (sortB [annS]).length = 1 := (sortB_perm [annS]).length_eq
  obtain ⟨g10, c10, rfl⟩ : ∃ g cap, v10 = .slice (some ⟨g, 0, none⟩) 1 cap := by
    rcases o10.form with ⟨_, h⟩ | ⟨g, cap, h, _⟩
    · rw [h] at hl10; cases hl10
    · rw [hl10] at h; exact ⟨g, cap, h⟩
  have h10 := B9.out.2.below b10
  have B10 := Lib.hid (And.intro (B9.out.1.trans (b10.mono B9.out.1.size)) h10)
  clear b10 h10 o10 hl10
  go_wp2_with fail
  refine (rows_mem B10.out.2 (by rw [H5.out.2.1, flat1]; decide) (by rw [H5.out.2.1, flat1]; intro r hr; rw [List.mem_singleton] at hr; rw [hr]; decide)).mono ?_
  rintro e w11 ⟨v11, rfl, l11, p11, _, o11, b11, _⟩
  rw [H5.out.2.1, flat1] at p11
  have hl11 : l11.length = 1 := p11.length_eq
  obtain ⟨g11, c11, rfl⟩ : ∃ g cap, v11 = .slice (some ⟨g, 0, none⟩) 1 cap := by
    rcases o11.form with ⟨_, h⟩ | ⟨g, cap, h, _⟩
    · rw [h] at hl11; cases hl11
    · rw [hl11] at h; exact ⟨g, cap, h⟩
  have B11 := Lib.hid (B10.out.1.trans (b11.mono B10.out.1.size))
  clear b11 o11 hl11 p11
  go_wp2
  go_ret
  exact ⟨rfl, B11.out⟩
end Go.Proofs.YtojjnfhgldjgbaaGreatDoor.Store
end
section
set_option linter.unusedVariables false
set_option linter.unusedSimpArgs false
namespace Go.Proofs.YtojjnfhgldjgbaaGreatDoor.Store
open Go.RowKit Go.Por Go.Sort Go.Proofs.YtojjnfhgldjgbaaGreatDoor.Watch Go.Por.Tupl
/-- What a check that passes gives. -/
theorem checkL_ok {sp : Sp} {wm rev : Int} : ∀ {muts : List Mut} {seen : List Tup}, checkL sp wm rev seen muts = 0 →
    (∀ m ∈ muts, tchk m.2 = 0 ∧ m.2 ∉ seen ∧ lastOf (aget sp m.2) < rev ∧ wm < rev) ∧ (muts.map (·.2)).Nodup
  | [], seen, _ => ⟨fun m hm => (by cases hm), List.nodup_nil⟩
  | m :: ms, seen, h => by
    unfold checkL at h
    by_cases h1 : tchk m.2 = 0
    · rw [if_neg (by simpa using h1)] at h
      by_cases h2 : tin m.2 seen = true
      · rw [if_pos h2] at h; cases h
      · rw [if_neg h2] at h
        by_cases h3 : rev ≤ lastOf (aget sp m.2) ∨ rev ≤ wm
        · rw [if_pos h3] at h; cases h
        · rw [if_neg h3] at h
          obtain ⟨i1, i2⟩ := checkL_ok h
          have n1 : m.2 ∉ seen := fun k => h2 (tin_iff.2 k)
          refine ⟨fun x hx => ?_, ?_⟩
          · rcases List.mem_cons.1 hx with rfl | hx
            · exact ⟨h1, n1, by omega, by omega⟩
            · obtain ⟨j1, j2, j3, j4⟩ := i1 x hx
              exact ⟨j1, fun k => j2 (List.mem_append_left _ k), j3, j4⟩
          · rw [List.map_cons, List.nodup_cons]
            refine ⟨fun k => ?_, i2⟩
            obtain ⟨x, hx, e⟩ := List.mem_map.1 k
            exact (i1 x hx).2.1 (by rw [e]; exact List.mem_append_right _ (List.mem_singleton.2 rfl))
    · rw [if_pos h1] at h
      exact absurd h h1
theorem checkA_ok {sp : Sp} {wm rev : Int} {muts : List Mut} (h : checkA sp wm rev muts = 0) : 1 ≤ rev ∧ rev ≤ maxRev ∧ (∀ m ∈ muts, tchk m.2 = 0 ∧ lastOf (aget sp m.2) < rev ∧ wm < rev) ∧ (muts.map (·.2)).Nodup := by
  unfold checkA at h
  by_cases h1 : rev < 1 ∨ maxRev < rev
  · rw [if_pos h1] at h; cases h
  · rw [if_neg h1] at h
    obtain ⟨i1, i2⟩ := checkL_ok h
    exact ⟨by omega, by omega, fun m hm => ⟨(i1 m hm).1, (i1 m hm).2.2⟩, i2⟩
/-- One mutation's step at a tuple's spans. -/
def stepL (rev : Int) (d : Bool) (l : List Span) : List Span := if d = true then (if thereOf l = true then shutL l rev else l) else (if thereOf l = true then l else l ++ [(rev, 0)])
theorem aget_stepA {rev : Int} {sp : Sp} (hn : (sp.map Prod.fst).Nodup) (m : Mut) (q : Tup) : aget (stepA rev sp m) q = if q = m.2 then stepL rev m.1 (aget sp m.2) else aget sp q := by
  unfold stepA stepL
  by_cases h1 : m.1 = true
  · rw [if_pos h1, if_pos h1]
    by_cases h2 : thereOf (aget sp m.2) = true
    · rw [if_pos h2, if_pos h2, aget_gput hn]
    · rw [if_neg h2, if_neg h2]
      by_cases h3 : q = m.2
      · rw [if_pos h3, h3]
      · rw [if_neg h3]
  · rw [if_neg h1, if_neg h1]
    by_cases h2 : thereOf (aget sp m.2) = true
    · rw [if_pos h2, if_pos h2]
      by_cases h3 : q = m.2
      · rw [if_pos h3, h3]
      · rw [if_neg h3]
    · rw [if_neg h2, if_neg h2, aget_gput hn]
theorem stepA_nodup {rev : Int} {sp : Sp} (hn : (sp.map Prod.fst).Nodup) (m : Mut) : ((stepA rev sp m).map Prod.fst).Nodup := by
  unfold stepA
  split <;> split
  · exact gput_nodup hn _ _
  · exact hn
  · exact hn
  · exact gput_nodup hn _ _
theorem lastOf_snoc' (P : List Span) (x : Span) : lastOf (P ++ [x]) = max x.1 x.2 := by unfold lastOf; rw [List.getLast?_concat]
theorem thereOf_snoc' (P : List Span) (x : Span) : thereOf (P ++ [x]) = decide (x.2 = 0) := by unfold thereOf; rw [List.getLast?_concat]
theorem shutL_snoc' (P : List Span) (x : Span) (rev : Int) : shutL (P ++ [x]) rev = P ++ [(x.1, rev)] := by
  unfold shutL
  rw [List.getLast?_concat, Option.getD_some, List.length_append, List.length_singleton, Nat.add_sub_cancel]
  rw [List.set_append_right _ _ (Nat.le_refl _), Nat.sub_self]
  rfl
theorem chain_step {l : List Span} (h : Chain l) {rev : Int} (h1 : lastOf l < rev) (h2 : 1 ≤ rev) (h3 : rev ≤ maxRev) (d : Bool) : Chain (stepL rev d l) := by
  rcases List.eq_nil_or_concat l with rfl | ⟨P, x, rfl⟩
  · unfold stepL
    have e : thereOf [] = false := rfl
    rw [e]
    cases d with
    | true => exact h
    | false =>
      refine ⟨fun x hx => ?_, List.pairwise_singleton _ _⟩
      have : x = (rev, 0) := by simpa using hx
      subst this
      exact ⟨h2, h3, .inl rfl⟩
  · rw [List.concat_eq_append] at h h1 ⊢
    rw [lastOf_snoc'] at h1
    have hx := h.each x (List.mem_append_right _ (List.mem_singleton.2 rfl))
    have hp := List.pairwise_append.1 h.next
    unfold stepL
    rw [thereOf_snoc']
    by_cases hz : x.2 = 0
    · rw [decide_eq_true hz]
      cases d with
      | true =>
        rw [if_pos rfl, if_pos rfl, shutL_snoc']
        refine ⟨fun y hy => ?_, List.pairwise_append.2 ⟨hp.1, List.pairwise_singleton _ _, fun a ha b hb => ?_⟩⟩
        · rcases List.mem_append.1 hy with hy | hy
          · exact h.each y (List.mem_append_left _ hy)
          · have : y = (x.1, rev) := by simpa using hy
            subst this
            exact ⟨hx.1, hx.2.1, .inr ⟨by show x.1 < rev; omega, h3⟩⟩
        · have : b = (x.1, rev) := by simpa using hb
          subst this
          exact hp.2.2 a ha x (List.mem_singleton.2 rfl)
      | false =>
        rw [if_neg (by intro k; cases k), if_pos rfl]
        exact h
    · rw [decide_eq_false hz]
      cases d with
      | true =>
        rw [if_pos rfl, if_neg (by intro k; cases k)]
        exact h
      | false =>
        rw [if_neg (by intro k; cases k), if_neg (by intro k; cases k)]
        refine ⟨fun y hy => ?_, List.pairwise_append.2 ⟨h.next, List.pairwise_singleton _ _, fun a ha b hb => ?_⟩⟩
        · rcases List.mem_append.1 hy with hy | hy
          · exact h.each y hy
          · have : y = (rev, 0) := by simpa using hy
            subst this
            exact ⟨h2, h3, .inl rfl⟩
        · have : b = (rev, 0) := by simpa using hb
          subst this
          rcases List.mem_append.1 ha with ha | ha
          · have k := hp.2.2 a ha x (List.mem_singleton.2 rfl)
            exact ⟨k.1, by show a.2 < rev; omega⟩
          · have : a = x := by simpa using ha
            subst this
            exact ⟨hz, by show a.2 < rev; omega⟩
/-- One step of a checked mutation keeps a store good. -/
theorem good_step {sp : Sp} (h : Good sp) {rev : Int} {m : Mut} (h1 : lastOf (aget sp m.2) < rev) (h2 : 1 ≤ rev) (h3 : rev ≤ maxRev) : Good (stepA rev sp m) := by
  have hc := chain_step (h.chain m.2) h1 h2 h3 m.1
  unfold stepL at hc
  unfold stepA
  by_cases d : m.1 = true
  · rw [if_pos d] at hc ⊢
    by_cases e : thereOf (aget sp m.2) = true
    · rw [if_pos e] at hc ⊢
      refine h.put _ (fun k => ?_) hc
      have hne : aget sp m.2 ≠ [] := fun k2 => by rw [k2] at e; cases e
      have := congrArg List.length k
      unfold shutL at this
      rw [List.length_set] at this
      exact hne (List.length_eq_zero_iff.1 this)
    · rw [if_neg e]; exact h
  · rw [if_neg d] at hc ⊢
    by_cases e : thereOf (aget sp m.2) = true
    · rw [if_pos e]; exact h
    · rw [if_neg e] at hc ⊢
      exact h.put _ (by simp) hc
end Go.Proofs.YtojjnfhgldjgbaaGreatDoor.Store
end
section
set_option linter.unusedVariables false
set_option linter.unusedSimpArgs false
namespace Go.Proofs.YtojjnfhgldjgbaaGreatDoor.Store
open Go.RowKit Go.Por Go.Sort Go.Proofs.YtojjnfhgldjgbaaGreatDoor.Watch Go.Por.Tupl
section
variable {κ α : Type} [DecidableEq κ]
theorem aget_cons (e : κ × List α) (l : List (κ × List α)) (k : κ) : aget (e :: l) k = if e.1 = k then e.2 else aget l k := by
  unfold aget gfind
  rw [List.find?_cons]
  by_cases h : e.1 = k
  · rw [decide_eq_true h, if_pos h]; rfl
  · rw [decide_eq_false h, if_neg h]
theorem aget_gput' {l : List (κ × List α)} (hn : (l.map Prod.fst).Nodup) (k : κ) (v : List α) (q : κ) : aget (gput l k v) q = if q = k then v else aget l q := by
  unfold aget
  rw [gfind_gput hn]
  by_cases h : q = k
  · rw [if_pos h, if_pos h]; rfl
  · rw [if_neg h, if_neg h]
theorem gput_cons {e : κ × List α} {l : List (κ × List α)} (hn : ((e :: l).map Prod.fst).Nodup) (k : κ) (v : List α) : gput (e :: l) k v = if e.1 = k then (k, v) :: l else e :: gput l k v := by
  rw [List.map_cons, List.nodup_cons] at hn
  unfold gput
  by_cases h : e.1 = k
  · rw [if_pos h, if_pos (by rw [List.map_cons, h]; exact List.mem_cons_self), List.map_cons, if_pos h]
    congr 1
    conv => rhs; rw [← List.map_id l]
    apply List.map_congr_left
    intro p hp
    rw [if_neg (fun e2 => hn.1 (by rw [h, ← e2]; exact List.mem_map_of_mem hp))]
    rfl
  · rw [if_neg h]
    by_cases hk : k ∈ l.map Prod.fst
    · rw [if_pos (by rw [List.map_cons]; exact List.mem_cons_of_mem _ hk), if_pos hk, List.map_cons, if_neg h]
    · rw [if_neg (by rw [List.map_cons, List.mem_cons]; exact fun k2 => k2.elim (fun e2 => h e2.symm) hk), if_neg hk]
      rfl
end
theorem flat_put_len : ∀ {sp : Sp}, (sp.map Prod.fst).Nodup → ∀ (t : Tup) (l : List Span), (flatA (gput sp t l)).length + (aget sp t).length = (flatA sp).length + l.length
  | [], _, t, l => by
    show (flatA [(t, l)]).length + 0 = 0 + l.length
    unfold flatA
    simp
  | e :: sp, hn, t, l => by
    rw [gput_cons hn, aget_cons]
    have hn' := hn
    rw [List.map_cons, List.nodup_cons] at hn'
    have c : ∀ (x : Tup × List Span) (s : Sp), (flatA (x :: s)).length = x.2.length + (flatA s).length := fun x s => by
      unfold flatA
      rw [List.flatMap_cons, List.length_append, List.length_map]
    by_cases h : e.1 = t
    · rw [if_pos h, if_pos h, c, c]
      show l.length + _ + _ = _
      omega
    · rw [if_neg h, if_neg h, c, c]
      have := flat_put_len hn'.2 t l
      omega
theorem flat_stepA {sp : Sp} (hn : (sp.map Prod.fst).Nodup) (rev : Int) (m : Mut) : (flatA (stepA rev sp m)).length ≤ (flatA sp).length + 1 := by
  unfold stepA
  split <;> split
  · have := flat_put_len hn m.2 (shutL (aget sp m.2) rev)
    rw [shutL_len] at this
    omega
  · omega
  · omega
  · have := flat_put_len hn m.2 (aget sp m.2 ++ [(rev, 0)])
    rw [List.length_append, List.length_singleton] at this
    omega
theorem flat_applyA {rev : Int} : ∀ (muts : List Mut) {sp : Sp}, (sp.map Prod.fst).Nodup → (flatA (applyA rev sp muts)).length ≤ (flatA sp).length + muts.length
  | [], sp, _ => Nat.le_refl _
  | m :: ms, sp, hn => by
    have h1 := flat_applyA (rev := rev) ms (stepA_nodup (rev := rev) hn m)
    have h2 := flat_stepA hn rev m
    rw [List.length_cons]
    show (flatA (applyA rev (stepA rev sp m) ms)).length ≤ _
    omega
theorem putC_nodup {κ : Type} [DecidableEq κ] {l : List (κ × List Tup)} (hn : (l.map Prod.fst).Nodup) (k : κ) (t : Tup) : ((putC l k t).map Prod.fst).Nodup := by
  unfold putC
  split
  · exact hn
  · exact gput_nodup hn _ _
theorem aget_putC {κ : Type} [DecidableEq κ] {l : List (κ × List Tup)} (hn : (l.map Prod.fst).Nodup) (k : κ) (t : Tup) (q : κ) :
    aget (putC l k t) q = if q = k then (if tin t (aget l k) = true then aget l k else aget l k ++ [t]) else aget l q := by
  unfold putC
  by_cases h : tin t (aget l k) = true
  · rw [if_pos h, if_pos h]
    by_cases e : q = k
    · rw [if_pos e, e]
    · rw [if_neg e]
  · rw [if_neg h, if_neg h, aget_gput' hn]
/-- A part of an index: each list has its key's tuples, each of them once. -/
structure Lists {κ : Type} [DecidableEq κ] (key : Tup → κ) (sp : Sp) (l : List (κ × List Tup)) : Prop where
  keys : (l.map Prod.fst).Nodup
  once : ∀ k, (aget l k).Nodup
  just : ∀ k t, t ∈ aget l k ↔ key t = k ∧ aget sp t ≠ []
section
variable {κ : Type} [DecidableEq κ] {key : Tup → κ} {sp : Sp} {l : List (κ × List Tup)}
theorem Lists.nil : Lists key [] [] := ⟨List.nodup_nil, fun k => List.nodup_nil, fun k t => ⟨fun h => (by cases h), fun h => absurd rfl h.2⟩⟩
theorem Lists.congr {sp' : Sp} (h : Lists key sp l) (e : ∀ q, aget sp' q ≠ [] ↔ aget sp q ≠ []) : Lists key sp' l :=
  ⟨h.keys, h.once, fun k t => by rw [h.just, e]⟩
theorem Lists.add (h : Lists key sp l) (hn : (sp.map Prod.fst).Nodup) (t : Tup) {x : List Span} (hx : x ≠ []) : Lists key (gput sp t x) (putC l (key t) t) := by
  refine ⟨putC_nodup h.keys _ _, fun k => ?_, fun k q => ?_⟩
  · rw [aget_putC h.keys]
    by_cases e : k = key t
    · rw [if_pos e]
      by_cases hi : tin t (aget l (key t)) = true
      · rw [if_pos hi]; exact h.once _
      · rw [if_neg hi, List.nodup_append]
        refine ⟨h.once _, by simp, fun a ha b hb => ?_⟩
        rw [List.mem_singleton] at hb
        subst hb
        intro e2
        subst e2
        exact hi (tin_iff.2 ha)
    · rw [if_neg e]; exact h.once _
  · rw [aget_putC h.keys, aget_gput hn]
    by_cases e : k = key t
    · rw [if_pos e]
      by_cases e2 : q = t
      · rw [if_pos e2]
        subst e2
        refine ⟨fun _ => ⟨e.symm, hx⟩, fun _ => ?_⟩
        by_cases hi : tin q (aget l (key q)) = true
        · rw [if_pos hi]; exact tin_iff.1 hi
        · rw [if_neg hi]; exact List.mem_append_right _ (List.mem_singleton.2 rfl)
      · rw [if_neg e2, ← h.just, e]
        by_cases hi : tin t (aget l (key t)) = true
        · rw [if_pos hi]
        · rw [if_neg hi, List.mem_append, List.mem_singleton]
          exact ⟨fun k => k.elim id (fun k => absurd k e2), .inl⟩
    · rw [if_neg e, h.just]
      by_cases e2 : q = t
      · rw [if_pos e2]
        subst e2
        exact ⟨fun k => absurd k.1.symm e, fun k => absurd k.1.symm e⟩
      · rw [if_neg e2]
end
/-- What a store is: good, with the indices of its tuples. -/
structure Inv (x : St3) : Prop where
  good : Good x.1
  ob : Lists (fun t : Tup => (t.1, t.2.1)) x.1 x.2.1
  us : Lists (fun t : Tup => t.2.2) x.1 x.2.2
theorem Inv.nil : Inv ([], [], []) := ⟨Good.nil, Lists.nil, Lists.nil⟩
theorem Inv.step {x : St3} (h : Inv x) {rev : Int} {m : Mut} (h1 : lastOf (aget x.1 m.2) < rev) (h2 : 1 ≤ rev) (h3 : rev ≤ maxRev) : Inv (step3 rev x m) := by
  have hg := good_step h.good h1 h2 h3
  rw [← step3_fst] at hg
  refine ⟨hg, ?_, ?_⟩ <;> clear hg
  all_goals
    unfold step3
    split <;> split
  · rename_i hd ht
    refine h.ob.congr (fun q => ?_)
    rw [aget_gput h.good.nodup]
    by_cases e : q = m.2
    · rw [if_pos e, e]
      constructor
      · intro k k2
        exact k (List.length_eq_zero_iff.1 (by rw [shutL_len, k2]; rfl))
      · intro k k2
        exact k (List.length_eq_zero_iff.1 (by rw [← shutL_len _ rev, k2]; rfl))
    · rw [if_neg e]
  · exact h.ob
  · exact h.ob
  · exact h.ob.add h.good.nodup m.2 (by simp)
  · rename_i hd ht
    refine h.us.congr (fun q => ?_)
    rw [aget_gput h.good.nodup]
    by_cases e : q = m.2
    · rw [if_pos e, e]
      constructor
      · intro k k2
        exact k (List.length_eq_zero_iff.1 (by rw [shutL_len, k2]; rfl))
      · intro k k2
        exact k (List.length_eq_zero_iff.1 (by rw [← shutL_len _ rev, k2]; rfl))
    · rw [if_neg e]
  · exact h.us
  · exact h.us
  · exact h.us.add h.good.nodup m.2 (by simp)
theorem Inv.apply {rev : Int} (h2 : 1 ≤ rev) (h3 : rev ≤ maxRev) : ∀ (muts : List Mut) {x : St3}, Inv x → (∀ m ∈ muts, lastOf (aget x.1 m.2) < rev) → (muts.map (·.2)).Nodup → Inv (apply3 rev x muts)
  | [], _, h, _, _ => h
  | m :: ms, x, h, hl, hd => by
    rw [List.map_cons, List.nodup_cons] at hd
    refine Inv.apply h2 h3 ms (h.step (hl m List.mem_cons_self) h2 h3) (fun y hy => ?_) hd.2
    rw [step3_fst, aget_stepA h.good.nodup, if_neg (fun e => hd.1 (List.mem_map.2 ⟨y, hy, e⟩))]
    exact hl y (List.mem_cons_of_mem _ hy)
/-- A call of Apply. -/
def run3 (wm rev : Int) (x : St3) (muts : List Mut) : St3 := if checkA x.1 wm rev muts = 0 then apply3 rev x muts else x
theorem Inv.run {x : St3} (h : Inv x) (wm rev : Int) (muts : List Mut) : Inv (run3 wm rev x muts) := by
  unfold run3
  by_cases hc : checkA x.1 wm rev muts = 0
  · rw [if_pos hc]
    obtain ⟨h1, h2, h3, h4⟩ := checkA_ok hc
    exact h.apply h1 h2 muts (fun m hm => (h3 m hm).2.1) h4
  · rw [if_neg hc]; exact h
theorem run_len {x : St3} (h : Inv x) (wm rev : Int) (muts : List Mut) : (flatA (run3 wm rev x muts).1).length ≤ (flatA x.1).length + muts.length := by
  unfold run3
  split
  · rw [apply3_fst]; exact flat_applyA muts h.good.nodup
  · omega
theorem flat_bounds {sp : Sp} (h : Good sp) : ∀ r ∈ flatA sp, 1 ≤ r.2.1 ∧ r.2.1 ≤ maxRev ∧ (r.2.2 = 0 ∨ (r.2.1 < r.2.2 ∧ r.2.2 ≤ maxRev)) := fun r hr => by
  have h1 := (mem_flat_get h).1 hr
  exact (h.chain r.1).each _ h1
/-- The users of an object's list that are there: each once. -/
theorem atA_ne {sp : Sp} {t : Tup} {rev : Int} (h : atA sp t rev = true) : aget sp t ≠ [] := fun e => by unfold atA at h; rw [e] at h; cases h
end Go.Proofs.YtojjnfhgldjgbaaGreatDoor.Store
end
section
set_option linter.unusedVariables false
set_option linter.unusedSimpArgs false
namespace Go.Proofs.YtojjnfhgldjgbaaGreatDoor.Store
open Go.RowKit Go.Por Go.Sort Go.Proofs.YtojjnfhgldjgbaaGreatDoor.Watch Go.Por.Tupl
/-- Lists of mutations applied at rising revisions. -/
def runN (x : St3) (k : Nat) : List (List Mut) → St3
  | [] => x
  | m :: r => runN (run3 0 ((k : Int) + 1) x m) (k + 1) r
theorem runN_snoc (m : List Mut) : ∀ (l : List (List Mut)) (x : St3) (k : Nat), runN x k (l ++ [m]) = run3 0 (((k + l.length : Nat) : Int) + 1) (runN x k l) m
  | [], x, k => rfl
  | a :: l, x, k => by
    show runN _ (k + 1) (l ++ [m]) = _
    rw [runN_snoc m l, List.length_cons, show k + 1 + l.length = k + (l.length + 1) by omega]
    rfl
/-- How many mutations there are. -/
def total (l : List (List Mut)) : Nat := (l.map List.length).sum
theorem total_snoc (l : List (List Mut)) (m : List Mut) : total (l ++ [m]) = total l + m.length := by
  unfold total
  rw [List.map_append, List.sum_append]
  simp
theorem total_take {l : List (List Mut)} {i : Nat} {m : List Mut} (h : l[i]? = some m) : total (l.take (i + 1)) = total (l.take i) + m.length := by
  rw [List.take_add_one, h, Option.toList_some, total_snoc]
theorem total_le (l : List (List Mut)) (i : Nat) : total (l.take i) ≤ total l := by
  conv => rhs; rw [← List.take_append_drop i l]
  unfold total
  rw [List.map_append, List.sum_append]
  omega
theorem runN_take {l : List (List Mut)} {i : Nat} {m : List Mut} (h : l[i]? = some m) (x : St3) : runN x 0 (l.take (i + 1)) = run3 0 ((i : Int) + 1) (runN x 0 (l.take i)) m := by
  have hi := (List.getElem?_eq_some_iff.1 h).1
  rw [List.take_add_one, h, Option.toList_some, runN_snoc, List.length_take, Nat.min_eq_left (Nat.le_of_lt hi), Nat.zero_add]
theorem runN_inv : ∀ (l : List (List Mut)) {x : St3} (k : Nat), Inv x → Inv (runN x k l)
  | [], _, _, h => h
  | m :: r, x, k, h => runN_inv r (k + 1) (h.run _ _ _)
theorem runN_len : ∀ (l : List (List Mut)) {x : St3} (k : Nat), Inv x → (flatA (runN x k l).1).length ≤ (flatA x.1).length + total l
  | [], _, _, _ => Nat.le_refl _
  | m :: r, x, k, h => by
    have h1 := runN_len r (k + 1) (h.run 0 ((k : Int) + 1) m)
    have h2 := run_len h 0 ((k : Int) + 1) m
    have h3 : total (m :: r) = m.length + total r := by unfold total; rw [List.map_cons, List.sum_cons]
    rw [h3]
    show (flatA (runN (run3 0 ((k : Int) + 1) x m) (k + 1) r).1).length ≤ _
    omega
end Go.Proofs.YtojjnfhgldjgbaaGreatDoor.Store
end
section
set_option linter.unusedVariables false
set_option linter.unusedSimpArgs false
namespace Go.Proofs.YtojjnfhgldjgbaaGreatDoor.Store
open Go.RowKit Go.Por Go.Sort Go.Proofs.YtojjnfhgldjgbaaGreatDoor.Watch Go.Por.Tupl
/-- Lists of mutations that came in. -/
structure ScriptIs (w : World) (v : Value) (ms : List (Value × List Mut)) : Prop where
  rd : ReadS (fun x : Value × List Mut => [x.1]) 1 w v ms
  each : ∀ x ∈ ms, ReadS mutC 4 w x.1 x.2 ∧ ∀ m ∈ x.2, TupOk m.2
  tot : total (ms.map (·.2)) ≤ 1048576
  len : ms.length ≤ 1048576
theorem read_blk {α : Type} {f : α → List Value} {c : Nat} {w : World} {v : Value} {l : List α} (h : ReadS f c w v l) (hc : 0 < c) (hl : ∀ x, (f x).length = c) (hne : l ≠ []) {k : Nat} (hk : v.ownBlock = some k) : k < w.heap.size := by
  obtain ⟨ao, cap, rfl, _⟩ := h.form
  cases l with
  | nil => exact absurd rfl hne
  | cons m r =>
    obtain ⟨b, o, rfl, _, hb⟩ := h.lt hc hl (i := 0) (x := m) rfl
    simp only [Value.ownBlock, Option.some.injEq] at hk
    omega
theorem read_below {α : Type} {f : α → List Value} {c : Nat} {w w' : World} {v : Value} {l : List α} (h : ReadS f c w v l) (hc : 0 < c) (hl : ∀ x, (f x).length = c) (hb : Below w.heap.size w w') : ReadS f c w' v l :=
  h.mod hc hl (Mod.of_below hb (fun _ => False)) (fun _ _ h => h)
end Go.Proofs.YtojjnfhgldjgbaaGreatDoor.Store
end
section
set_option linter.unusedVariables false
set_option linter.unusedSimpArgs false
namespace Go.Proofs.YtojjnfhgldjgbaaGreatDoor.Store
open Go.RowKit Go.Por Go.ChangeShapes Go.WideShapes Go.Proofs.YtojjnfhgldjgbaaGreatDoor.Watch
section
variable {H : Type} {enc : TypeId × Value → H} {w : World} {spare : Nat → Bool} {held : Bool}
theorem bulk_sum {α : Type} (wt : α → Nat) : ∀ (xs : List α) (ds : List (DataW H)), xs.length = ds.length → (∀ (i : Nat) x d, xs[i]? = some x → ds[i]? = some d → wt x ≤ Rows.uptoBulk d) → (xs.map wt).sum ≤ Rows.uptoBulkAll ds
  | [], [], _, _ => Nat.zero_le _
  | [], _ :: _, h, _ => by simp at h
  | _ :: _, [], h, _ => by simp at h
  | x :: xs, d :: ds, h, k => by
    have h1 := bulk_sum wt xs ds (by simpa using h) (fun i x d a b => k (i + 1) x d (by simpa using a) (by simpa using b))
    have h2 := k 0 x d rfl rfl
    rw [List.map_cons, List.sum_cons]
    simp only [Rows.uptoBulkAll]
    omega
theorem open_SliceB {α : Type} {c : Nat} {R : World → List Value → α → Prop} {wt : α → Nat} {t e : TypeId} {fuel : Nat} {cs : List Value} {y : DataW H × List MemPlace} (ht : Tryz.prog.underlying t = some (.slice e)) (hc : Tryz.prog.cellsOf e = c) (hc0 : 0 < c)
    (hR : ∀ fuel cs y, DataW.trod enc Tryz.prog w 0 spare held fuel e cs = some y → ∃ x, R w cs x ∧ wt x ≤ Rows.uptoBulk y.1) (h : DataW.trod enc Tryz.prog w 0 spare held fuel t cs = some y) : ∃ v xs, cs = [v] ∧ SliceIs c R w v xs ∧ (xs.map wt).sum ≤ Rows.uptoBulk y.1 ∧ xs.length ≤ Rows.uptoBulk y.1 := by
  rcases Go.Deep.open_slice ht h with ⟨rfl, _⟩ | ⟨a, len, cap, m, n, D, Pl, rfl, _, hl, hm, hmm, hy, hx⟩
  · exact ⟨_, [], rfl, ⟨none, 0, rfl, by simp, by simp⟩, Nat.zero_le _, Nat.zero_le _⟩
  · have hlm : len ≤ m := by rw [hmm]; split <;> omega
    have each : ∀ i : Fin len, ∃ x : α, (∃ b o cs, (some a : Option Addr) = some ⟨b, o, none⟩ ∧ cs.length = c ∧ (∀ j u, cs[j]? = some u → w.cell? ⟨b, o + i.1 * c + j, none⟩ = some u) ∧ R w cs x) ∧ wt x ≤ Rows.uptoBulk (D i.1) := by
      intro i
      obtain ⟨cs', h1, h2⟩ := hx i.1 (by omega)
      obtain ⟨x, hxr, hxw⟩ := hR _ _ _ h2
      rw [hc] at h1
      obtain ⟨_, hlen, hcell⟩ := World.cells?_some h1
      obtain ⟨b, o, sp⟩ := a
      have hsp : sp = none := by
        cases sp with
        | none => rfl
        | some s =>
          obtain ⟨cs0, g1, _⟩ := hx 0 (by have := i.2; omega)
          rw [hc] at g1
          obtain ⟨_, glen, gcell⟩ := World.cells?_some g1
          have h0 := gcell 0 (by omega)
          have h3 : cs0[0]? = some cs0[0] := List.getElem?_eq_getElem (by omega)
          rw [h3] at h0
          simp only [Nat.zero_mul, Addr.add, if_true, World.cell?] at h0
          split at h0 <;> simp at h0
      subst hsp
      refine ⟨x, ⟨b, o, cs', rfl, hlen, fun j u hu => ?_, hxr⟩, hxw⟩
      have hj : j < c := by rw [← hlen]; exact (List.getElem?_eq_some_iff.1 hu).1
      have h0 := hcell j hj
      rw [Deep.add_add] at h0
      have e : (⟨b, o, none⟩ : Addr).add (i.1 * c + j) = ⟨b, o + i.1 * c + j, none⟩ := by
        unfold Addr.add
        split
        · rename_i e; rw [Nat.add_assoc, e, Nat.add_zero]
        · rw [Nat.add_assoc]
      rw [e, hu] at h0
      exact h0
    obtain ⟨F, hF⟩ := Classical.axiomOfChoice each
    have hat : ∀ i x, (List.ofFn F)[i]? = some x → ∃ hi : i < len, x = F ⟨i, hi⟩ := fun i x hx' => by
      have hi : i < len := by
        have := (List.getElem?_eq_some_iff.1 hx').1
        simpa using this
      refine ⟨hi, ?_⟩
      rw [List.getElem?_ofFn, dif_pos hi] at hx'
      exact (Option.some.inj hx').symm
    have hb := bulk_slice ((List.range len).map D) ((List.range (m - len)).map fun j => D (len + j))
    have hd : y.1 = .slice ((List.range len).map D) ((List.range (m - len)).map fun j => D (len + j)) := by rw [hy]
    rw [← hd] at hb
    have hsum := bulk_sum wt (List.ofFn F) ((List.range len).map D) (by simp) (fun i x d hx' hdd => by
      obtain ⟨hi, rfl⟩ := hat i x hx'
      rw [List.getElem?_map, List.getElem?_range hi] at hdd
      rw [← Option.some.inj hdd]
      exact (hF ⟨i, hi⟩).2)
    have hall : Rows.uptoBulkAll ((List.range len).map D) ≤ Rows.uptoBulk y.1 := by rw [hd]; simp only [Rows.uptoBulk]; omega
    refine ⟨_, List.ofFn F, rfl, ⟨some a, cap, by rw [List.length_ofFn], by rw [List.length_ofFn]; unfold maxLen at hm; omega, fun i x hx' => ?_⟩, Nat.le_trans hsum hall, by rw [List.length_ofFn]; simpa using hb⟩
    obtain ⟨hi, rfl⟩ := hat i x hx'
    exact (hF ⟨i, hi⟩).1
theorem open_mutsB {fuel : Nat} {cs : List Value} {y : DataW H × List MemPlace} (h : DataW.trod enc Tryz.prog w 0 spare held fuel 45 cs = some y) : ∃ v xs, cs = [v] ∧ SliceIs 4 (fun _ cs x => cs = mutC x ∧ TupOk x.2) w v xs ∧ xs.length ≤ Rows.uptoBulk y.1 := by
  obtain ⟨v, xs, h1, h2, _, h3⟩ := open_SliceB (R := fun _ cs x => cs = mutC x ∧ TupOk x.2) (wt := fun _ => 0) Tryz.underlying45 cellsMut (by omega) (fun fuel cs y h => by obtain ⟨x, hx⟩ := open_mutC _ _ _ h; exact ⟨x, hx, Nat.zero_le _⟩) h
  exact ⟨v, xs, h1, h2, h3⟩
theorem read_of {α : Type} {f : α → List Value} {c : Nat} {v : Value} {l : List α} {Q : α → Prop} (h : SliceIs c (fun _ cs x => cs = f x ∧ Q x) w v l) : ReadS f c w v l ∧ ∀ x ∈ l, Q x := by
  obtain ⟨ao, cap, rfl, hl, he⟩ := h
  refine ⟨⟨ao, cap, rfl, hl, fun i x hx => ?_⟩, fun x hx => ?_⟩
  · obtain ⟨b, o, cs, h1, h2, h3, h4, _⟩ := he i x hx
    exact ⟨b, o, cs, h1, h2, h3, h4⟩
  · obtain ⟨i, hi⟩ := List.getElem?_of_mem hx
    obtain ⟨b, o, cs, h1, h2, h3, h4, h5⟩ := he i x hi
    exact h5
theorem cellsMuts : Tryz.prog.cellsOf 45 = 1 := by kernel_rfl
end
end Go.Proofs.YtojjnfhgldjgbaaGreatDoor.Store
end
section
set_option linter.unusedVariables false
set_option linter.unusedSimpArgs false
namespace Go.Proofs.YtojjnfhgldjgbaaGreatDoor.Store
open Go.RowKit Go.Por Go.Sort Go.Proofs.YtojjnfhgldjgbaaGreatDoor.Watch Go.Por.Tupl
/-- One call of a script. -/
structure OpR where
  kind : Int
  rev : Int
  vm : Value
  muts : List Mut
  vr : Value
  rows : List RowT
  vo : Value
  objs : List ByteArray
  tup : Tup
def opC (x : OpR) : List Value := [.int .i64 x.kind, .int .i64 x.rev, x.vm, x.vr, x.vo, .string x.tup.1, .string x.tup.2.1, .string x.tup.2.2]
theorem opC_len (x : OpR) : (opC x).length = 8 := rfl
def TextOk (s : ByteArray) : Prop := s.size ≤ 9223372036854775807
structure OpIs (w : World) (o : OpR) : Prop where
  rm : ReadS mutC 4 w o.vm o.muts
  om : ∀ m ∈ o.muts, TupOk m.2
  rr : ReadS rowC 5 w o.vr o.rows
  or : ∀ r ∈ o.rows, TupOk r.1
  ro : ReadS strC 1 w o.vo o.objs
  oo : ∀ s ∈ o.objs, TextOk s
  ok : TupOk o.tup
theorem OpIs.below {w w' : World} {o : OpR} (h : OpIs w o) (hb : Below w.heap.size w w') : OpIs w' o :=
  ⟨read_below h.rm (by decide) mutC_len hb, h.om, read_below h.rr (by decide) rowC_len' hb, h.or, read_below h.ro (by decide) strC_len hb, h.oo, h.ok⟩
/-- How much a call holds. -/
def opW (o : OpR) : Nat := o.muts.length + o.rows.length + o.objs.length
structure OpsIs (w : World) (v : Value) (l : List OpR) : Prop where
  rd : ReadS opC 8 w v l
  each : ∀ o ∈ l, OpIs w o
  tot : (l.map opW).sum ≤ 1048576
  len : l.length ≤ 1048576
theorem OpsIs.below {w w' : World} {v : Value} {l : List OpR} (h : OpsIs w v l) (hb : Below w.heap.size w w') : OpsIs w' v l :=
  ⟨read_below h.rd (by decide) opC_len hb, fun o ho => (h.each o ho).below hb, h.tot, h.len⟩
def mutsOf (l : List OpR) : List (List Mut) := l.map (·.muts)
theorem mutsOf_tot (l : List OpR) : total (mutsOf l) ≤ (l.map opW).sum := by
  unfold total mutsOf
  induction l with
  | nil => simp
  | cons o l ih =>
    simp only [List.map_cons, List.sum_cons]
    unfold opW at *
    omega
end Go.Proofs.YtojjnfhgldjgbaaGreatDoor.Store
end
section
set_option linter.unusedVariables false
set_option linter.unusedSimpArgs false
namespace Go.Proofs.YtojjnfhgldjgbaaGreatDoor.Store
open Go.RowKit Go.Por Go.ChangeShapes Go.WideShapes Go.Proofs.YtojjnfhgldjgbaaGreatDoor.Watch
theorem cellsInt : Tryz.prog.cellsOf 3 = 1 := by kernel_rfl
theorem cellsI64 : Tryz.prog.cellsOf 2 = 1 := by kernel_rfl
theorem cellsRows : Tryz.prog.cellsOf 24 = 1 := by kernel_rfl
theorem cellsStrs : Tryz.prog.cellsOf 57 = 1 := by kernel_rfl
theorem cellsRow : Tryz.prog.cellsOf 63 = 5 := by kernel_rfl
theorem cellsOp : Tryz.prog.cellsOf 59 = 8 := by kernel_rfl
section
variable {H : Type} {enc : TypeId × Value → H} {w : World} {spare : Nat → Bool} {held : Bool}
set_option maxRecDepth 10000 in
theorem open_rowC (fuel : Nat) (cs : List Value) (y : DataW H × List MemPlace) (h : DataW.trod enc Tryz.prog w 0 spare held fuel 63 cs = some y) : ∃ x, cs = rowC x ∧ TupOk x.1 := by
  obtain ⟨xs, n, _, _, hlen, hxl, hf⟩ := DataW.trod_struct Tryz.underlying63 h
  rw [cellsRow] at hlen
  have g0 := hf 0 _ rfl
  have g1 := hf 1 _ rfl
  have g2 := hf 2 _ rfl
  have hxl' : xs.length = 3 := hxl
  clear hxl hf h
  match cs, hlen, xs, hxl' with
  | [v0, v1, v2, v3, v4], _, [y0, y1, y2], _ =>
    simp [cellsTup, cellsI64] at g0 g1 g2
    obtain ⟨⟨a, b, s⟩, ha, hok⟩ := open_tup _ _ _ g0
    obtain ⟨c, hc, _⟩ := DataW.trod_int Tryz.underlying2 g1
    obtain ⟨d, hd, _⟩ := DataW.trod_int Tryz.underlying2 g2
    simp [tupC] at ha hc hd
    obtain ⟨rfl, rfl, rfl⟩ := ha
    subst hc hd
    exact ⟨((a, b, s), c, d), rfl, hok⟩
theorem open_rowsB {fuel : Nat} {cs : List Value} {y : DataW H × List MemPlace} (h : DataW.trod enc Tryz.prog w 0 spare held fuel 24 cs = some y) : ∃ v xs, cs = [v] ∧ SliceIs 5 (fun _ cs x => cs = rowC x ∧ TupOk x.1) w v xs ∧ xs.length ≤ Rows.uptoBulk y.1 := by
  obtain ⟨v, xs, h1, h2, _, h3⟩ := open_SliceB (R := fun _ cs x => cs = rowC x ∧ TupOk x.1) (wt := fun _ => 0) Tryz.underlying24 cellsRow (by omega) (fun fuel cs y h => by obtain ⟨x, hx⟩ := open_rowC _ _ _ h; exact ⟨x, hx, Nat.zero_le _⟩) h
  exact ⟨v, xs, h1, h2, h3⟩
theorem open_strsB {fuel : Nat} {cs : List Value} {y : DataW H × List MemPlace} (h : DataW.trod enc Tryz.prog w 0 spare held fuel 57 cs = some y) : ∃ v xs, cs = [v] ∧ SliceIs 1 (fun _ cs x => cs = strC x ∧ TextOk x) w v xs ∧ xs.length ≤ Rows.uptoBulk y.1 := by
  obtain ⟨v, xs, h1, h2, _, h3⟩ := open_SliceB (R := fun _ cs x => cs = strC x ∧ TextOk x) (wt := fun _ => 0) Tryz.underlying57 cellsStr (by omega) (fun fuel cs y h => by
    obtain ⟨a, ha, _, za⟩ := DataW.trod_string Tryz.underlying9 h
    exact ⟨a, ⟨ha, by unfold maxLen at za; exact za⟩, Nat.zero_le _⟩) h
  exact ⟨v, xs, h1, h2, h3⟩
set_option maxRecDepth 100000 in
theorem open_op (fuel : Nat) (cs : List Value) (y : DataW H × List MemPlace) (h : DataW.trod enc Tryz.prog w 0 spare held fuel 59 cs = some y) : ∃ x, (cs = opC x ∧ OpIs w x) ∧ opW x ≤ Rows.uptoBulk y.1 := by
  obtain ⟨xs, n, _, hy, hlen, hxl, hf⟩ := DataW.trod_struct Tryz.underlying59 h
  rw [cellsOp] at hlen
  have g0 := hf 0 _ rfl
  have g1 := hf 1 _ rfl
  have g2 := hf 2 _ rfl
  have g3 := hf 3 _ rfl
  have g4 := hf 4 _ rfl
  have g5 := hf 5 _ rfl
  have hxl' : xs.length = 6 := hxl
  clear hxl hf h
  match cs, hlen, xs, hxl', hy with
  | [v0, v1, v2, v3, v4, v5, v6, v7], _, [y0, y1, y2, y3, y4, y5], _, hy =>
    simp [cellsInt, cellsI64, cellsMuts, cellsRows, cellsStrs, cellsTup] at g0 g1 g2 g3 g4 g5
    obtain ⟨k, hk, _⟩ := DataW.trod_int Tryz.underlying3 g0
    obtain ⟨r, hr, _⟩ := DataW.trod_int Tryz.underlying2 g1
    obtain ⟨vm, muts, hm, sm, lm⟩ := open_mutsB g2
    obtain ⟨vr, rows, hr2, sr, lr⟩ := open_rowsB g3
    obtain ⟨vo, objs, ho, so, lo⟩ := open_strsB g4
    obtain ⟨⟨a, b, s⟩, ha, hok⟩ := open_tup _ _ _ g5
    simp [tupC] at ha hk hr hm hr2 ho
    obtain ⟨rfl, rfl, rfl⟩ := ha
    subst hk hr hm hr2 ho
    refine ⟨⟨k, r, _, muts, _, rows, _, objs, (a, b, s)⟩, ⟨rfl, (read_of sm).1, (read_of sm).2, (read_of sr).1, (read_of sr).2, (read_of so).1, (read_of so).2, hok⟩, ?_⟩
    rw [hy]
    unfold opW
    simp only [List.map_cons, List.map_nil, Rows.uptoBulk, Rows.uptoBulkAll]
    omega
set_option maxRecDepth 100000 in
theorem ops_arg {ds : List (DataW H)} (hk : Rows.uptoSmall H ds = true) {ao : Option Addr} {n cap : Nat} {d : DataW H} {p : List MemPlace} (hd : d ∈ ds)
    (h : DataW.Trod enc Tryz.prog w 0 spare held 56 (.slice ao n cap) d p) : ∃ l, OpsIs w (.slice ao n cap) l := by
  obtain ⟨fuel, hf⟩ := h
  obtain ⟨v, l, h1, h2, h3, h4⟩ := open_SliceB (α := OpR) (c := 8) (R := fun _ cs x => cs = opC x ∧ OpIs w x) (wt := opW) Tryz.underlying56 cellsOp (by omega)
    (fun fuel cs y h => open_op fuel cs y h) (show DataW.trod enc Tryz.prog w 0 spare held fuel 56 [.slice ao n cap] = some (d, p) from hf)
  simp only [List.cons.injEq, and_true] at h1
  subst h1
  have hb : Rows.uptoBulkAll ds ≤ 1048576 := of_decide_eq_true hk
  have hp := bulk_part hd
  exact ⟨l, (read_of h2).1, (read_of h2).2, by simp only at h3; omega, by simp only at h4; omega⟩
end
end Go.Proofs.YtojjnfhgldjgbaaGreatDoor.Store
end
