/- Rows. -/
import Derived.Test.YtojjnfhgldjgbaaDoorRowsS
import Derived.Test.YtojjnfhgldjgbaaDoorIter
import Derived.Test.YtojjnfhgldjgbaaDoorTouch
set_option linter.unusedVariables false
set_option linter.unusedSimpArgs false
namespace Go.Proofs.YtojjnfhgldjgbaaDoor.Store
open Go.RowKit Go.Por Go.Sort Go.Proofs.YtojjnfhgldjgbaaDoor.Watch
theorem MapIs.own_ne {κ α : Type} {enc : κ → Value} {w : World} {M : Nat} {lm : List (κ × Value)} (h : MapIs w M enc lm) {f : α → List Value} {c : Nat} {E : TypeId} {v : Value} {l : List α} (ho : OwnS f c w E v l) : v.ownBlock ≠ some M := by
  obtain ⟨es, ck, h1, _⟩ := h
  rcases ho.form with ⟨rfl, _⟩ | ⟨g, cap, rfl, _, _⟩
  · simp [Value.ownBlock]
  · obtain ⟨cur, h2, _⟩ := ho.block
    intro e
    simp only [Value.ownBlock, Option.some.injEq] at e
    subst e
    rw [h1] at h2
    cases h2
theorem iter_own_ne {κ α : Type} {enc : κ → Value} {w : World} {I M : Nat} {lm dn : List (κ × Value)} (h : IterIs w I M enc lm dn) {f : α → List Value} {c : Nat} {E : TypeId} {v : Value} {l : List α} (ho : OwnS f c w E v l) : v.ownBlock ≠ some I := by
  obtain ⟨es, ck, _, _, _, _, _, idx, _, _, _, seen, hs, _⟩ := h
  rcases ho.form with ⟨rfl, _⟩ | ⟨g, cap, rfl, _, _⟩
  · simp [Value.ownBlock]
  · obtain ⟨cur, h2, _⟩ := ho.block
    intro e
    simp only [Value.ownBlock, Option.some.injEq] at e
    subst e
    rw [hs] at h2
    cases h2
/-- The rows of one tuple. -/
def rowsOf (t : Tup) (l : List Span) : List RowT := l.map (fun x => (t, x.1, x.2))
def outM (sp : Sp) (dn : List (Tup × Value)) : List RowT := dn.flatMap (fun e => rowsOf e.1 (aget sp e.1))
theorem outM_all {lm : List (Tup × (Value × List Span))} (hn : (lm.map Prod.fst).Nodup) : outM (smc lm) (smv lm) = flatA (smc lm) := by
  unfold outM flatA
  have h1 : smv lm = lm.map (fun e => (e.1, e.2.1)) := rfl
  have h2 : smc lm = lm.map (fun e => (e.1, e.2.2)) := rfl
  rw [h1]
  conv => rhs; rw [h2]
  rw [List.flatMap_map, List.flatMap_map, List.flatMap_def, List.flatMap_def]
  congr 1
  apply List.map_congr_left
  intro e he
  have h3 : aget (smc lm) e.1 = e.2.2 := aget_some (by rw [smc_fst]; exact hn) (List.mem_map.2 ⟨e, he, rfl⟩)
  show rowsOf e.1 (aget (smc lm) e.1) = _
  rw [h3]
  rfl
theorem outM_part {lm : List (Tup × (Value × List Span))} (hn : (lm.map Prod.fst).Nodup) {dn : List (Tup × Value)} (hd : dn.Nodup) (hs : ∀ e ∈ dn, e ∈ smv lm) : (outM (smc lm) dn).length ≤ (flatA (smc lm)).length := by
  classical
  obtain ⟨c, hc⟩ := nodup_part hd hs
  rw [← outM_all hn]
  have h1 := (hc.flatMap_right (fun e : Tup × Value => rowsOf e.1 (aget (smc lm) e.1))).length_eq
  unfold outM
  rw [h1, List.flatMap_append, List.length_append]
  exact Nat.le_add_right _ _
theorem rowsOf_take (t : Tup) (l : List Span) {i : Nat} {x : Span} (h : l[i]? = some x) : rowsOf t (l.take (i + 1)) = rowsOf t (l.take i) ++ [(t, x.1, x.2)] := by
  unfold rowsOf
  rw [List.take_add_one, h, Option.toList_some, List.map_append]
  rfl
section
variable {w : World} {s O U M MO MU : Nat} {F : Nat → Prop} {lm : List (Tup × (Value × List Span))} {lo : List (PairT × (Value × List Tup))} {lu : List (ByteArray × (Value × List Tup))} {wm : Int}
set_option maxRecDepth 100000 in
set_option maxHeartbeats 400000 in
theorem rows_mem (h : StMem w s O U M MO MU F lm lo lu wm) (hb : ((flatA (smc lm)).length + 1) * 64 ≤ 140737488355328) (hrev : ∀ r ∈ flatA (smc lm), 0 ≤ r.2.1 ∧ r.2.1 ≤ maxRev) :
    Calls Tryd.prog 9 #[.pointer (some ⟨s, 0, none⟩)] w fun e w' => ∃ v', e = .returned v' ∧ ∃ l', l'.Perm (flatA (smc lm)) ∧ l'.Pairwise (fun x y => ¬ rlt y x) ∧ OwnS rowC 5 w' 36 v' l' ∧ Below w.heap.size w w' ∧ ∀ k, v'.ownBlock = some k → w.heap.size ≤ k := by
  obtain ⟨B, hB⟩ : ∃ B, w.heap.size = B := ⟨_, rfl⟩
  have c := cell_of (i := 0) h.hs rfl
  obtain ⟨oI, hrng, hit⟩ := h.m.map.range Tryd.underlying45
  rw [hB] at hrng hit
  have hbI : Below B w (w.alloc oI) := by rw [← hB]; exact (Below.refl _ w).alloc (Nat.le_refl _) _
  have hsI : (w.alloc oI).heap.size = B + 1 := by rw [World.size_alloc, hB]
  obtain ⟨WI, hWI⟩ : ∃ WI, w.alloc oI = WI := ⟨_, rfl⟩
  rw [hWI] at hrng hit hbI hsI
  rw [hB]
  have HH := Lib.hid (And.intro h (And.intro hb (And.intro hrev (And.intro hit (And.intro hbI (And.intro hsI hB))))))
  clear h hb hrev hit hbI hsI hWI hB
  go_enter Tryd.func9, Tryd.ntmps9
  go_wp2
  clear hrng
  go_loopg [3] ((smv lm).length) (fun gg sv wx => ∃ dn : List (Tup × Value), dn.length + gg = (smv lm).length ∧ dn.Nodup ∧ (∀ e ∈ dn, e ∈ smv lm) ∧ OwnS rowC 5 wx 36 sv (outM (smc lm) dn) ∧ IterIs wx B M encT (smv lm) dn ∧ Below B w wx ∧ B + 1 ≤ wx.heap.size ∧ ∀ k, sv.ownBlock = some k → B + 1 ≤ k)
  case atStart => exact ⟨[], by simp, List.nodup_nil, (fun e he => by cases he), OwnS.nil _ _ _ _, HH.out.2.2.2.1, HH.out.2.2.2.2.1, by have := HH.out; omega, fun k h => by simp [Value.ownBlock] at h⟩
  case round =>
    obtain ⟨dn, hdg, hdn, hdm, hown, hit, hbel, hsz, hwh⟩ := hrel
    rcases hit.next (P := Tryd.prog) with ⟨hfin, hnx⟩ | ⟨q, v, w', hlt, hm, hnd, hnx, hit', hm', hen⟩
    · have hp := hit.all hfin
      have HE := Lib.hid (And.intro hown (And.intro hbel (And.intro hsz (And.intro hwh hp))))
      clear hown hit hbel hsz hwh hdg hp hfin hdn hdm
      go_wp2_with fail
      obtain ⟨e1, e2, e3, e4, e5⟩ := HE.out
      have hperm : (outM (smc lm) dn).Perm (flatA (smc lm)) := by
        rw [← outM_all HH.out.1.m.nodup]
        exact e5.flatMap_right _
      have hle : (flatA (smc lm)).length < 4611686018427387904 := by
        have := HH.out.2.1
        omega
      refine (sort_rows e1 (by rw [hperm.length_eq]; exact hle) (fun r hr => HH.out.2.2.1 r (hperm.mem_iff.1 hr))).mono ?_
      rintro e w5 ⟨rfl, l', hp', hso, hown5, hm5⟩
      have k3 : Below B w w5 := e2.trans (hm5.to_below (by omega) (fun k hk => by have := e4 k hk.symm; omega))
      have HK := Lib.hid (And.intro (hp'.trans hperm) (And.intro hso (And.intro hown5 (And.intro k3 e4))))
      clear hown5 hm5 k3 e1 e2 e3 e4 e5 hp' hperm hso hle
      go_wp2
      go_ret
      obtain ⟨h1, h2, h3, h4, h5⟩ := HK.out
      exact ⟨u3, rfl, l', h1, h2, h3, h4, fun k hk => by have := h5 k hk; omega⟩
    · obtain ⟨x0, x1, x2⟩ := q
      obtain ⟨L, hL⟩ : ∃ L, aget (smc lm) (x0, x1, x2) = L := ⟨_, rfl⟩
      have hown0 : OwnS spanC 2 w 56 v L := by
        obtain ⟨e0, he0, hee⟩ := List.mem_map.1 hm
        have h1 := (Prod.mk.inj hee).1
        have h2 := (Prod.mk.inj hee).2
        have h3 : aget (smc lm) e0.1 = e0.2.2 := aget_some (by rw [smc_fst]; exact HH.out.1.m.nodup) (List.mem_map.2 ⟨e0, he0, rfl⟩)
        rw [← hL, ← h1, h3, ← h2]
        exact HH.out.1.m.own e0 he0
      obtain ⟨n, hn⟩ : ∃ n, L.length = n := ⟨_, rfl⟩
      obtain ⟨ao, cp, rfl, hao⟩ : ∃ ao cp, v = .slice ao n cp ∧ (0 < n → ∃ g, ao = some ⟨g, 0, none⟩) := by
        rcases hown0.form with ⟨rfl, h2⟩ | ⟨g, cap, rfl, _, _⟩
        · exact ⟨none, 0, by rw [← hn, h2]; rfl, fun h => by rw [← hn, h2] at h; simp at h⟩
        · exact ⟨_, cap, by rw [hn], fun _ => ⟨g, rfl⟩⟩
      have hdn2 : (dn ++ [((x0, x1, x2), Value.slice ao n cp)]).Nodup := List.nodup_append.2 ⟨hdn, by simp, fun a ha b hb' e => by
        simp only [List.mem_singleton] at hb'
        rw [hb'] at e
        rw [e] at ha
        exact hnd ha⟩
      have hdm2 : ∀ e ∈ dn ++ [((x0, x1, x2), Value.slice ao n cp)], e ∈ smv lm := fun e he => by
        rcases List.mem_append.1 he with he | he
        · exact hdm e he
        · simp only [List.mem_singleton] at he
          rw [he]; exact hm
      have hcat : outM (smc lm) (dn ++ [((x0, x1, x2), Value.slice ao n cp)]) = outM (smc lm) dn ++ rowsOf (x0, x1, x2) L := by
        unfold outM
        rw [List.flatMap_append, List.flatMap_cons, List.flatMap_nil, List.append_nil, hL]
      have hbound : (outM (smc lm) dn).length + n ≤ (flatA (smc lm)).length := by
        have h1 := outM_part HH.out.1.m.nodup hdn2 hdm2
        rw [hcat, List.length_append] at h1
        unfold rowsOf at h1
        rw [List.length_map, hn] at h1
        exact h1
      obtain ⟨S, hS⟩ : ∃ S, w'.heap.size = S := ⟨_, rfl⟩
      have hs' := hm'.size
      have hnI := iter_own_ne hit hown
      have hown4 : OwnS rowC 5 (w'.alloc (.cells #[.string x0, .string x1, .string x2] 27)) 36 u3 (outM (smc lm) dn) := (hown.mod hm' (fun k hk e => hnI (by rw [hk, show k = B from e]))).mod (S := fun _ => False) ((Mod.refl _ w').alloc _) (fun _ _ h => h)
      have hit4 := hit'.mod ((Mod.refl (fun _ => False) w').alloc (.cells #[.string x0, .string x1, .string x2] 27)) (fun h => h) (fun h => h)
      have hb4 : Below B w (w'.alloc (.cells #[.string x0, .string x1, .string x2] 27)) := (hbel.trans (hm'.to_below (by omega) (fun k hk => by rw [show k = B from hk]; exact Nat.le_refl _))).alloc (by omega) _
      have hT4 := block_new w' (.cells #[.string x0, .string x1, .string x2] 27)
      have hs4 : (w'.alloc (.cells #[.string x0, .string x1, .string x2] 27)).heap.size = S + 1 := by rw [World.size_alloc, hS]
      rw [hS] at hT4
      obtain ⟨W4, hW4⟩ : ∃ W4, w'.alloc (.cells #[.string x0, .string x1, .string x2] 27) = W4 := ⟨_, rfl⟩
      rw [hW4] at hown4 hit4 hb4 hT4 hs4
      unfold encT tupC at hnx hen
      have HE := Lib.hid (And.intro hown4 (And.intro hit4 (And.intro hb4 (And.intro hT4 (And.intro hs4 (And.intro hwh (And.intro (show B + 1 ≤ S by omega) (And.intro hown0 (And.intro hn (And.intro hao (And.intro hbound (And.intro hcat (And.intro hdn2 (And.intro hdm2 (And.intro hlt hdg)))))))))))))))
      clear hown4 hit4 hb4 hT4 hs4 hwh hown0 hn hao hbound hcat hdn2 hdm2 hdg hs' hnI hown hit hit' hbel hsz hdn hdm hlt hm hm' hnd hL
      go_wp2
      clear hnx hen hW4 hS c
      go_loopg [3, 20] n (fun gg sv vi wx => ∃ t : Nat, t + gg = n ∧ vi = .int .i64 (t : Int) ∧ OwnS rowC 5 wx 36 sv (outM (smc lm) dn ++ rowsOf (x0, x1, x2) (L.take t)) ∧ IterIs wx B M encT (smv lm) (dn ++ [((x0, x1, x2), Value.slice ao n cp)]) ∧ Below B w wx ∧ S + 1 ≤ wx.heap.size ∧ (∀ k, sv.ownBlock = some k → B + 1 ≤ k) ∧ wx.heap[S]? = some (.cells #[.string x0, .string x1, .string x2] 27 (0, 0)))
      case atStart => exact ⟨0, by omega, rfl, by simpa [rowsOf] using HE.out.1, HE.out.2.1, HE.out.2.2.1, by have := HE.out.2.2.2.2.1; omega, HE.out.2.2.2.2.2.1, HE.out.2.2.2.1⟩
      case round =>
        obtain ⟨t, htg, rfl, iown, iit, ibel, isz, iwh, iT⟩ := hrel
        by_cases hg : gk = 0
        · have ht : t = n := by omega
          have hk0 : ¬ ((t : Int) < (n : Int)) := by omega
          rw [List.take_of_length_le (by rw [HE.out.2.2.2.2.2.2.2.2.1]; omega)] at iown
          have HI := Lib.hid (And.intro iown (And.intro iit (And.intro ibel (And.intro isz iwh))))
          clear iown iit ibel isz iwh iT htg hg ht
          go_wp2
          go_roundg ((smv lm).length - (dn.length + 1))
          case measure => obtain ⟨e1, e2, e3, e4, e5, e6, e7, e8, e9, e10, e11, e12, e13, e14, e15, e16⟩ := HE.out; omega
          case rel =>
            obtain ⟨i1, i2, i3, i4, i5⟩ := HI.out
            obtain ⟨e1, e2, e3, e4, e5, e6, e7, e8, e9, e10, e11, e12, e13, e14, e15, e16⟩ := HE.out
            refine ⟨dn ++ [((x0, x1, x2), Value.slice ao n cp)], ?_, e13, e14, by rw [e12]; exact i1, i2, i3, by omega, i5⟩
            rw [List.length_append, List.length_singleton]
            omega
        · have htn : t < n := by omega
          have hti : (t : Int) < (n : Int) := by omega
          obtain ⟨g, rfl⟩ := HE.out.2.2.2.2.2.2.2.2.2.1 (by omega)
          obtain ⟨x, hx⟩ : ∃ x, L[t]? = some x := ⟨_, List.getElem?_eq_getElem (by rw [HE.out.2.2.2.2.2.2.2.2.1]; exact htn)⟩
          have hrange := HE.out.2.2.2.2.2.2.2.1.range spanC_len hx
          have hgl := HE.out.2.2.2.2.2.2.2.1.lt
          rw [HH.out.2.2.2.2.2.2] at hgl
          have hrange2 : wr.rangeAt g (t * 2) (spanC x) := range_below hrange ibel hgl
          have htake := rowsOf_take (x0, x1, x2) L hx
          obtain ⟨xa, xb⟩ := x
          have hlen : (outM (smc lm) dn ++ rowsOf (x0, x1, x2) (L.take t)).length = (outM (smc lm) dn).length + t := by
            unfold rowsOf
            rw [List.length_append, List.length_map, List.length_take, HE.out.2.2.2.2.2.2.2.2.1]
            omega
          have hti2 : (t : Int) < 9223372036854775807 := by
            have h1 := HE.out.2.2.2.2.2.2.2.2.2.2.1
            have h2 := HH.out.2.1
            omega
          have HI := Lib.hid (And.intro iown (And.intro iit (And.intro ibel (And.intro isz (And.intro iwh (And.intro iT (And.intro htake (And.intro hrange2 (And.intro htg (And.intro htn hlen))))))))))
          clear iown iit ibel isz iwh iT htake hrange hrange2 htg htn hg hx hlen hgl
          go_upto_region 8 with (first
            | (refine wpList_load_mid rfl 56 (.tmp 22) rfl g (t * 2) rfl (spanC (xa, xb)) _ HI.out.2.2.2.2.2.2.2.1 Tryd.underlying56 rfl infoSpan ?_; unfold spanC))
          obtain ⟨Q, hQ⟩ : ∃ Q, wr.heap.size = Q := ⟨_, rfl⟩
          have hQb := block_new wr (.cells #[.int .i64 xa, .int .i64 xb] 56)
          have m6 : Mod (fun _ => False) wr (wr.alloc (.cells #[.int .i64 xa, .int .i64 xb] 56)) := (Mod.refl _ wr).alloc _
          have s6 : (wr.alloc (.cells #[.int .i64 xa, .int .i64 xb] 56)).heap.size = Q + 1 := by rw [World.size_alloc, hQ]
          rw [hQ] at hQb ⊢
          generalize hW6 : wr.alloc (.cells #[.int .i64 xa, .int .i64 xb] 56) = W6 at *
          have m7 : Mod (fun _ => False) wr (W6.alloc (.cells #[.string x0, .string x1, .string x2, .int .i64 xa, .int .i64 xb] 36)) := m6.alloc _
          have hT6 := m6.old HI.out.2.2.2.2.2.1 id
          have y0 : W6.cell? ⟨S, 0, none⟩ = some (.string x0) := cell_of hT6 rfl
          have y1 : W6.cell? ⟨S, 1, none⟩ = some (.string x1) := cell_of hT6 rfl
          have y2 : W6.cell? ⟨S, 2, none⟩ = some (.string x2) := cell_of hT6 rfl
          have z0 : W6.cell? ⟨Q, 0, none⟩ = some (.int .i64 xa) := cell_of hQb rfl
          have z1 : W6.cell? ⟨Q, 1, none⟩ = some (.int .i64 xb) := cell_of hQb rfl
          have hroom : ((outM (smc lm) dn ++ rowsOf (x0, x1, x2) (L.take t)).length + 1) * 64 ≤ 140737488355328 := by
            have h1 := HI.out.2.2.2.2.2.2.2.2.2.2
            have h2 := HE.out.2.2.2.2.2.2.2.2.2.2.1
            have h3 := HI.out.2.2.2.2.2.2.2.2.2.1
            refine Nat.le_trans (Nat.mul_le_mul_right 64 ?_) HH.out.2.1
            omega
          have hroom2 : (outM (smc lm) dn ++ rowsOf (x0, x1, x2) (L.take t)).length + 1 ≤ maxLen := by
            unfold maxLen
            omega
          have HJ := Lib.hid (And.intro (HI.out.1.mod m7 (fun _ _ h => h)) (And.intro (block_new W6 (.cells #[.string x0, .string x1, .string x2, .int .i64 xa, .int .i64 xb] 36)) (And.intro hroom (And.intro hroom2 (And.intro m7 (And.intro s6 hQ))))))
          clear hQb m6 m7 hT6 hW6 hQ hroom hroom2 s6
          go_wp2_with (first
            | (at_builtin; refine wpList_push (f := rowC) (c := 5) (bytes := 64) (v := u3) (l := outM (smc lm) dn ++ rowsOf (x0, x1, x2) (L.take t)) elemRow rfl (.tmp 24) (.tmp 31) rfl rfl HJ.out.1 W6.heap.size ((x0, x1, x2), xa, xb) rfl HJ.out.2.1 HJ.out.2.2.1 HJ.out.2.2.2.1 ?_))
          intro v7 w7 hown7 hm7 hb7
          have HK := Lib.hid (And.intro hown7 (And.intro hm7 hb7))
          clear hown7 hm7 hb7
          go_wp2
          go_roundg (gk - 1)
          case measure => have := HI.out.2.2.2.2.2.2.2.2.1; omega
          case rel =>
            obtain ⟨i1, i2, i3, i4, i5, i6, i7, i8, i9, i10, i11⟩ := HI.out
            obtain ⟨j1, j2, j3, j4, j5, j6, j7⟩ := HJ.out
            obtain ⟨k1, k2, k3⟩ := HK.out
            have hs7 := k2.size
            have e7 : (W6.alloc (.cells #[.string x0, .string x1, .string x2, .int .i64 xa, .int .i64 xb] 36)).heap.size = Q + 2 := by rw [World.size_alloc, j6]
            have h10 := HE.out.2.2.2.2.2.2.1
            refine ⟨t + 1, by omega, by go_num, by rw [i7]; first | exact k1 | (rw [← List.append_assoc]; exact k1), (i2.mod j5 id id).mod k2 (fun e => MapIs.own_ne (IterIs.map (i2.mod j5 id id)) j1 e.symm) (fun e => iter_own_ne (i2.mod j5 id id) j1 e.symm), (i3.trans (j5.to_below (by omega) (fun _ h => h.elim))).trans (k2.to_below (by omega) (fun k hk => by have := i5 k hk.symm; omega)), by omega, fun k hk => ?_, ?_⟩
            · rcases k3 k hk with h | h
              · exact i5 k h
              · omega
            · exact k2.old (j5.old i6 id) (fun e => own_ne i1 i6 (by decide) e.symm)
end
end Go.Proofs.YtojjnfhgldjgbaaDoor.Store
