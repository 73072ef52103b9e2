/- Check. -/
import Derived.Test.YtojjnfhgldjgbaaDoorLastP
import Derived.Test.YtojjnfhgldjgbaaDoorCheckP
import Derived.Test.YtojjnfhgldjgbaaDoorAddP
set_option linter.unusedVariables false
set_option linter.unusedSimpArgs false
namespace Go.Proofs.YtojjnfhgldjgbaaDoor.Store
open Go.RowKit Go.Por Go.Sort Go.Proofs.YtojjnfhgldjgbaaDoor.Watch Go.Por.Tupl
theorem OwnS.one {α : Type} {f : α → List Value} {c : Nat} {w : World} {E : TypeId} {g : Nat} {x : α} (hc : (f x).length = c) (h : w.heap[g]? = some (.cells (f x).toArray E (0, 0))) : OwnS f c w E (.slice (some ⟨g, 0, none⟩) 1 1) [x] := by
  refine ⟨by simp [hc], .inr ⟨g, 1, _, rfl, Nat.zero_le _, h, Nat.le_refl _, by unfold maxLen; omega, by simp [hc], ?_⟩⟩
  rw [List.flatMap_cons, List.flatMap_nil, List.append_nil, List.length_singleton, Nat.one_mul]
  exact List.take_of_length_le (by simp [hc])
theorem row_mid {w : World} {b : Nat} {x0 x1 x2 x3 : Value} {t : TypeId} (h : w.heap[b]? = some (.cells #[x0, x1, x2, x3] t (0, 0))) : w.rangeAt b 1 [x1, x2, x3] := fun j u hu => by
  match j, hu with
  | 0, hu => simp at hu; subst hu; exact cell_of (i := 1) h rfl
  | 1, hu => simp at hu; subst hu; exact cell_of (i := 2) h rfl
  | 2, hu => simp at hu; subst hu; exact cell_of (i := 3) h rfl
  | n + 3, hu => simp at hu
/-- A tuple's texts have sizes that a machine can count. -/
def TupOk (t : Tup) : Prop := t.1.size ≤ 9223372036854775807 ∧ t.2.1.size ≤ 9223372036854775807 ∧ t.2.2.size ≤ 9223372036854775807
/-- The tuples seen, as the map holds them. -/
def seenV (l : List Tup) : List (Tup × Value) := l.map (fun t => (t, .int .i64 1))
theorem seenV_fst (l : List Tup) : (seenV l).map Prod.fst = l := by unfold seenV; rw [List.map_map]; exact List.map_id' l
theorem seen_put {l : List Tup} {t : Tup} (h : t ∉ l) : mput (seenV l) t (.int .i64 1) = seenV (l ++ [t]) := by
  unfold mput
  rw [seenV_fst, if_neg h]
  unfold seenV
  rw [List.map_append]
  rfl
section
variable {w : World} {s O U M MO MU : Nat} {F : Nat → Prop} {lm : List (Tup × (Value × List Span))} {lo : List (PairT × (Value × List Tup))} {lu : List (ByteArray × (Value × List Tup))} {wm : Int}
/-- What 'seen[t]++' does: the three runs, and the map behind. -/
theorem seen_step {w : World} {B : Nat} {l : List Tup} (h : MapIs w B encT (seenV l)) (t : Tup) {v0 : Int} (hv : v0 = if tin t l = true then 1 else 0) :
    (Instr.lookup 71 (.map (some B)) (encT t) false).run Tryd.prog w = .ok (.int .i64 v0) w ∧
    ∃ (st : Nat) (w1 : World), (Instr.mapEntry 71 (.map (some B)) (encT t)).run Tryd.prog w = .ok (.tuple #[.int .i64 v0, .int .i64 (st : Int)]) w1 ∧ Mod (fun b => b = B) w w1 ∧
      (∀ W : World, W.heap[B]? = w1.heap[B]? → (Instr.lookup 71 (.map (some B)) (encT t) false).run Tryd.prog W = .ok (.int .i64 v0) W) ∧
      ∃ w2, (Instr.entryStore 71 (.map (some B)) (.int .i64 (st : Int)) (.int .i64 (v0 + 1))).run Tryd.prog w1 = .ok () w2 ∧ Mod (fun b => b = B) w1 w2 ∧
        (tin t l = false → MapIs w2 B encT (seenV (l ++ [t]))) ∧ (∀ W : World, W.heap[B]? = w2.heap[B]? → (Instr.lookup 71 (.map (some B)) (encT t) false).run Tryd.prog W = .ok (.int .i64 (v0 + 1)) W) := by
  have hz : ∀ W : World, (zeroValue 3).run Tryd.prog W = .ok (.int .i64 0) W := fun W => by kernel_rfl
  obtain ⟨st, o1, hr1, hm1, hst⟩ := h.entry keyTup Tryd.underlying71 t (hz w)
  have hg : (gfind (seenV l) t).getD (.int .i64 0) = .int .i64 v0 := by
    by_cases hk : tin t l = true
    · rw [hv, if_pos hk]
      have hmem : (t, Value.int .i64 1) ∈ seenV l := List.mem_map.2 ⟨t, tin_iff.1 hk, rfl⟩
      rw [(gfind_some h.nodup).2 hmem]
      rfl
    · rw [hv, if_neg hk]
      rw [gfind_none.2 (by rw [seenV_fst]; exact fun hm => hk (tin_iff.2 hm))]
      rfl
  rw [hg] at hr1 hm1
  have look : ∀ (W : World) (ll : List (Tup × Value)) (u : Value), MapIs W B encT ll → (t, u) ∈ ll → (Instr.lookup 71 (.map (some B)) (encT t) false).run Tryd.prog W = .ok u W := fun W ll u hW hu => by
    have := MapIs.look_hit keyTup Tryd.underlying71 hW hu false
    simpa using this
  refine ⟨?_, st, _, hr1, setB_mod w B o1, fun W hW => look W _ _ (hm1.keep hW) (mem_mput.2 (.inl ⟨rfl, rfl⟩)), ?_⟩
  · by_cases hk : tin t l = true
    · have hmem : (t, Value.int .i64 1) ∈ seenV l := List.mem_map.2 ⟨t, tin_iff.1 hk, rfl⟩
      rw [hv, if_pos hk]
      exact look w _ _ h hmem
    · rw [hv, if_neg hk]
      have := MapIs.look_miss keyTup Tryd.underlying71 h (k := t) (by rw [seenV_fst]; exact fun hm => hk (tin_iff.2 hm)) (hz w) false
      simpa using this
  · obtain ⟨o, hr2, hm2⟩ := hst (setB w B o1) (.int .i64 (v0 + 1)) (setB_at w o1 h.lt)
    refine ⟨_, hr2, setB_mod _ B o, fun hk => ?_, fun W hW => look W _ _ (hm2.keep hW) (mem_mput.2 (.inl ⟨rfl, rfl⟩))⟩
    have e : v0 + 1 = 1 := by rw [hv, if_neg (by rw [hk]; decide)]; rfl
    rw [e] at hm2
    rw [seen_put (fun hm => by rw [tin_iff.2 hm] at hk; cases hk)] at hm2
    exact hm2
set_option maxRecDepth 100000 in
set_option maxHeartbeats 6400000 in
theorem check_mem (h : StMem w s O U M MO MU F lm lo lu wm) {v : Value} {muts : List Mut} (hr : ReadS mutC 4 w v muts) (hok : ∀ m ∈ muts, TupOk m.2) (rev : Int) : Calls Tryd.prog 15 #[.pointer (some ⟨s, 0, none⟩), .int .i64 rev, v] w fun e w' => e = .returned (.int .i64 (checkA (smc lm) wm rev muts)) ∧ Below w.heap.size w w' := by
  obtain ⟨ao, cap, rfl, hlen⟩ := hr.form
  obtain ⟨n, hn⟩ : ∃ n, muts.length = n := ⟨_, rfl⟩
  obtain ⟨R, hR⟩ : ∃ R, checkA (smc lm) wm rev muts = R := ⟨_, rfl⟩
  rw [hn] at hr hlen ⊢
  rw [hR]
  have HH := Lib.hid (And.intro h (And.intro hr (And.intro hlen (And.intro hn (And.intro hok hR)))))
  clear h hr hR hok
  by_cases h1 : 1 ≤ rev
  · by_cases h2 : rev ≤ 1125899906842624
    · have hR2 : checkL (smc lm) wm rev [] muts = R := by
        rw [← HH.out.2.2.2.2.2]
        unfold checkA maxRev
        rw [if_neg (by omega)]
      obtain ⟨B, hB⟩ : ∃ B, w.heap.size = B := ⟨_, rfl⟩
      rw [hB]
      go_enter Tryd.func15, Tryd.ntmps15
      have hmm := @run_makeMap Tryd.prog
      go_wp2
      clear hmm
      have hM0 := MapIs.made w encT
      have hbel0 : Below B w (w.alloc (.map #[] 0)) := by rw [← hB]; exact (Below.refl _ w).alloc (Nat.le_refl _) _
      rw [hB] at hM0
      generalize hW3 : w.alloc (.map #[] 0) = W3 at *
      have HW := Lib.hid (And.intro hM0 (And.intro hbel0 (And.intro hR2 hB)))
      clear hM0 hbel0 hW3 hR2 hB
      go_loopg [20] n (fun gg vi wx => ∃ (t : Nat), t + gg = n ∧ vi = .int .i64 (t : Int) ∧ Below B w wx ∧ MapIs wx B encT (seenV ((muts.take t).map (·.2))) ∧ checkL (smc lm) wm rev ((muts.take t).map (·.2)) (muts.drop t) = R)
      case atStart => exact ⟨0, by omega, rfl, HW.out.2.1, HW.out.1, HW.out.2.2.1⟩
      case round =>
        obtain ⟨t, htg, rfl, hbel, hmap, hck⟩ := hrel
        by_cases hg : gk = 0
        · have ht : t = n := by omega
          have hk0 : ¬ ((t : Int) < (n : Int)) := by omega
          have e0 : R = 0 := by
            rw [← hck, List.drop_eq_nil_of_le (by rw [HH.out.2.2.2.1]; omega)]
            rfl
          subst e0
          have HE := Lib.hid hbel
          clear hbel hmap hck htg hg ht
          go_wp2
          go_ret
          exact ⟨rfl, HE.out⟩
        · have htn : t < n := by omega
          obtain ⟨⟨d, t0, t1, t2⟩, hx⟩ : ∃ m, muts[t]? = some m := ⟨_, List.getElem?_eq_getElem (by rw [HH.out.2.2.2.1]; exact htn)⟩
          obtain ⟨b, o, rfl, hrange, hbl⟩ := HH.out.2.1.lt (by decide) mutC_len hx
          rw [HW.out.2.2.2] at hbl
          have hrange2 : wr.rangeAt b (o + t * 4) (mutC (d, t0, t1, t2)) := range_below hrange hbel hbl
          have hti : (t : Int) < (n : Int) := by omega
          have hmt : TupOk (t0, t1, t2) := HH.out.2.2.2.2.1 (d, t0, t1, t2) (List.mem_of_getElem? hx)
          have hdrop : muts.drop t = (d, t0, t1, t2) :: muts.drop (t + 1) := by
            have hlt : t < muts.length := by rw [HH.out.2.2.2.1]; exact htn
            rw [List.drop_eq_getElem_cons hlt]
            congr 1
            rw [List.getElem?_eq_getElem hlt] at hx
            exact Option.some.inj hx
          have htake : (muts.take (t + 1)).map (·.2) = (muts.take t).map (·.2) ++ [(t0, t1, t2)] := by
            rw [List.take_add_one, hx, Option.toList_some, List.map_append]
            rfl
          obtain ⟨l, hl⟩ : ∃ l, (muts.take t).map (fun x : Mut => x.2) = l := ⟨_, rfl⟩
          rw [hl] at hmap hck htake
          rw [hdrop] at hck
          unfold checkL at hck
          have HE := Lib.hid (And.intro hbel (And.intro hmap (And.intro hck (And.intro htake (And.intro hmt (And.intro hrange2 (And.intro htg htn)))))))
          clear hbel hmap hck htake hmt hrange2 htg hrange hdrop hl hx hg htn hbl
          go_upto_region 7 with (first
            | (refine wpList_load_mid rfl 30 (.tmp 22) rfl b (o + t * 4) rfl (mutC (d, t0, t1, t2)) _ HE.out.2.2.2.2.2.1 Tryd.underlying30 rfl infoMut0 ?_; unfold mutC))
          obtain ⟨Q, hQ⟩ : ∃ Q, wr.heap.size = Q := ⟨_, rfl⟩
          have hQb := block_new wr (.cells #[.bool d, .string t0, .string t1, .string t2] 30)
          have m4 : Mod (fun _ => False) wr (wr.alloc (.cells #[.bool d, .string t0, .string t1, .string t2] 30)) := (Mod.refl _ wr).alloc _
          have s4 : (wr.alloc (.cells #[.bool d, .string t0, .string t1, .string t2] 30)).heap.size = Q + 1 := by rw [World.size_alloc, hQ]
          rw [hQ] at hQb ⊢
          generalize hW4 : wr.alloc (.cells #[.bool d, .string t0, .string t1, .string t2] 30) = W4 at *
          have HF := Lib.hid (And.intro hQb (And.intro m4 (And.intro s4 (And.intro hQ (row_mid hQb)))))
          clear hQb m4 s4 hQ hW4
          go_wp2_with (first
            | (refine wpList_load_mid rfl 27 (.tmp 24) rfl Q 1 rfl [.string t0, .string t1, .string t2] _ HF.out.2.2.2.2 Tryd.underlying27 rfl infoTup0 ?_))
          have hs5 : (W4.alloc (.cells #[.string t0, .string t1, .string t2] 27)).heap.size = Q + 2 := by rw [World.size_alloc, HF.out.2.2.1]
          have m5 : Mod (fun _ => False) W4 (W4.alloc (.cells #[.string t0, .string t1, .string t2] 27)) := (Mod.refl _ W4).alloc _
          refine (check_one (t0, t1, t2) (OwnS.one rfl (block_new W4 (.cells #[.string t0, .string t1, .string t2] 27))) HE.out.2.2.2.2.1.1 HE.out.2.2.2.2.1.2.1 HE.out.2.2.2.2.1.2.2).mono ?_
          rintro e w6 ⟨rfl, hb6⟩
          have m6 : Mod (fun _ => False) W4 w6 := m5.trans' (Mod.of_below hb6 _)
          have hbel6 : Below B w w6 := (HE.out.1.trans ((HF.out.2.1.trans' m6).to_below (B := B) (by have z1 := HE.out.1.size; have z2 := HW.out.2.2.2; omega) (fun _ h => h.elim)))
          have HG := Lib.hid (And.intro m6 hbel6)
          clear hs5 m5 hb6 m6 hbel6
          obtain ⟨q, hq⟩ : ∃ q, tchk (t0, t1, t2) = q := ⟨_, rfl⟩
          rw [hq] at HE ⊢
          clear hq
          by_cases hq0 : q = 0
          · subst hq0
            have hmap6 : MapIs w6.drew B encT (seenV l) := HE.out.2.1.mod ((HF.out.2.1.trans' HG.out.1).drew) id
            have hQ6 := HG.out.1.old HF.out.1 id
            have hBQ : Q ≠ B := fun e => by
              obtain ⟨es, ck, hm, _⟩ := hmap6
              rw [← e] at hm
              have h9 : w6.drew.heap[Q]? = w6.heap[Q]? := rfl
              rw [h9, hQ6] at hm
              cases hm
            cases htin : tin (t0, t1, t2) l with
            | true =>
              obtain ⟨k1, st, w7, k2, m7, k3, w8, k4, m8, k5, k6⟩ := seen_step (v0 := 1) hmap6 (t0, t1, t2) (by rw [htin]; rfl)
              have k1' : (Instr.lookup 71 (.map (some B)) (.agg #[.string t0, .string t1, .string t2]) false).run Tryd.prog w6.drew = .ok (.int .i64 1) w6.drew := k1
              have k2' : (Instr.mapEntry 71 (.map (some B)) (.agg #[.string t0, .string t1, .string t2])).run Tryd.prog w6.drew = .ok (.tuple #[.int .i64 1, .int .i64 (st : Int)]) w7 := k2
              have k3' : (Instr.lookup 71 (.map (some B)) (.agg #[.string t0, .string t1, .string t2]) false).run Tryd.prog w7 = .ok (.int .i64 1) w7 := k3 w7 rfl
              have k4' : (Instr.entryStore 71 (.map (some B)) (.int .i64 (st : Int)) (.int .i64 2)).run Tryd.prog w7 = .ok () w8 := k4
              have k6' : (Instr.lookup 71 (.map (some B)) (.agg #[.string t0, .string t1, .string t2]) false).run Tryd.prog w8 = .ok (.int .i64 2) w8 := k6 w8 rfl
              have q7 := m7.old (show w6.drew.heap[Q]? = _ from hQ6) hBQ
              have q8 := m8.old q7 hBQ
              have m8a : Mod (fun b => b = B) w6 w8 := ((Mod.refl (fun b => b = B) w6).drew.trans' m7).trans' m8
              have eR : R = 5 := by
                have z := HE.out.2.2.1
                rw [if_neg (by decide), if_pos htin] at z
                exact z.symm
              clear k1 k2 k4 k6 hmap6
              go_upto_region 10 with fail
              refine wp_region_held_drew (S := fun w' => w'.heap[Q]? = some (.cells #[.bool d, .string t0, .string t1, .string t2] 30 (0, 0))) (by kernel_rfl) hQ6 (fun hS => ?_)
              clear hQ6
              refine takeD (i := 0) rfl (by kernel_rfl) (by kernel_rfl) (by kernel_rfl) (fun _ _ _ h => h) hS (Or.inl ⟨by rfl, fun w hSw => by go_simp; rfl⟩) ?_
              simp only [Act.put, List.setIfInBounds_toArray, List.set_cons_zero, List.set_cons_succ]
              refine takeD (i := 1) rfl (by kernel_rfl) (by kernel_rfl) (by kernel_rfl) (fun _ _ _ h => h) hS (Or.inl ⟨by rfl, fun w hSw => by go_simp; rfl⟩) ?_
              simp only [Act.put, List.setIfInBounds_toArray, List.set_cons_zero, List.set_cons_succ]
              refine takeD (i := 2) rfl (by kernel_rfl) (by kernel_rfl) (by kernel_rfl) (fun _ _ _ h => h) hS (yieldsIf_load_mid (by rfl) 27 (.tmp 32) rfl Q 1 rfl ([.string t0, .string t1, .string t2]) _ (fun w hSw => row_mid hSw) Tryd.underlying27 rfl infoTup0) ?_
              simp only [Act.put, List.setIfInBounds_toArray, List.set_cons_zero, List.set_cons_succ]
              refine wpAnyH_ready (rs := [3, 5]) (by kernel_rfl) (by simp) ?_
              refine consD (i := 3) rfl (fun K' hK' => ?_) (consD (i := 5) rfl (fun K' hK' => ?_) AllReadyH.nil)
              · rw [if_pos (by rfl)]
                go_simp
                refine hK'.out _ _ hS (fun hS => ?_)
                clear hK' K'
                refine takeD (i := 4) (v := (.int .i64 2)) rfl (by kernel_rfl) (by kernel_rfl) (by kernel_rfl) (fun _ _ _ h => h) hS (Or.inl ⟨by rfl, fun w hSw => by go_simp; rfl⟩) ?_
                simp only [Act.put, List.setIfInBounds_toArray, List.set_cons_zero, List.set_cons_succ]
                refine wpAnyH_ready (rs := [5]) (by kernel_rfl) (by simp) ?_
                refine consD (i := 5) rfl (fun K' hK' => ?_) AllReadyH.nil
                rw [if_pos (by rfl)]
                go_simp
                refine hK'.out _ _ q7 (fun hS => ?_)
                clear hK' K'
                refine takeD (i := 6) (v := (.int .i64 (st : Int))) rfl (by kernel_rfl) (by kernel_rfl) (by kernel_rfl) (fun _ _ _ h => h) hS (Or.inl ⟨by rfl, fun w hSw => by go_simp⟩) ?_
                simp only [Act.put, List.setIfInBounds_toArray, List.set_cons_zero, List.set_cons_succ]
                refine wpAnyH_ready (rs := [7]) (by kernel_rfl) (by simp) ?_
                refine consD (i := 7) rfl (fun K' hK' => ?_) AllReadyH.nil
                rw [if_pos (by rfl)]
                go_simp
                refine hK'.out _ _ q8 (fun hS => ?_)
                clear hK' K'
                refine wpAnyH_done (by kernel_rfl) ?_ _
                clear hS
                have HQ := Lib.hid (And.intro (row_mid q8) (And.intro q8 (And.intro m8a k5)))
                clear q7 q8 m8a k5 m7 m8 k3
                simp only [Exit.then]
                go_wp2_with (first
                  | (refine wpList_load_mid rfl 27 (.tmp 40) rfl Q 1 rfl [.string t0, .string t1, .string t2] _ HQ.out.1 Tryd.underlying27 rfl infoTup0 ?_)
                  | (refine wpList_load_mid rfl 27 (.tmp 47) rfl Q 1 rfl [.string t0, .string t1, .string t2] _ HQ.out.1 Tryd.underlying27 rfl infoTup0 ?_))
                go_ret
                exact ⟨by rw [eR]; rfl, HG.out.2.trans (HQ.out.2.2.1.to_below (B := B) (by have z1 := HE.out.1.size; have z2 := HW.out.2.2.2; have z3 := (HF.out.2.1.trans' HG.out.1).size; omega) (fun x h => by omega))⟩
              · rw [if_pos (by rfl)]
                go_simp
                refine hK'.out _ _ q7 (fun hS => ?_)
                clear hK' K'
                refine takeD (i := 6) (v := (.int .i64 (st : Int))) rfl (by kernel_rfl) (by kernel_rfl) (by kernel_rfl) (fun _ _ _ h => h) hS (Or.inl ⟨by rfl, fun w hSw => by go_simp⟩) ?_
                simp only [Act.put, List.setIfInBounds_toArray, List.set_cons_zero, List.set_cons_succ]
                refine wpAnyH_ready (rs := [3]) (by kernel_rfl) (by simp) ?_
                refine consD (i := 3) rfl (fun K' hK' => ?_) AllReadyH.nil
                rw [if_pos (by rfl)]
                go_simp
                refine hK'.out _ _ q7 (fun hS => ?_)
                clear hK' K'
                refine takeD (i := 4) (v := (.int .i64 2)) rfl (by kernel_rfl) (by kernel_rfl) (by kernel_rfl) (fun _ _ _ h => h) hS (Or.inl ⟨by rfl, fun w hSw => by go_simp; rfl⟩) ?_
                simp only [Act.put, List.setIfInBounds_toArray, List.set_cons_zero, List.set_cons_succ]
                refine wpAnyH_ready (rs := [7]) (by kernel_rfl) (by simp) ?_
                refine consD (i := 7) rfl (fun K' hK' => ?_) AllReadyH.nil
                rw [if_pos (by rfl)]
                go_simp
                refine hK'.out _ _ q8 (fun hS => ?_)
                clear hK' K'
                refine wpAnyH_done (by kernel_rfl) ?_ _
                clear hS
                have HQ := Lib.hid (And.intro (row_mid q8) (And.intro q8 (And.intro m8a k5)))
                clear q7 q8 m8a k5 m7 m8 k3
                simp only [Exit.then]
                go_wp2_with (first
                  | (refine wpList_load_mid rfl 27 (.tmp 40) rfl Q 1 rfl [.string t0, .string t1, .string t2] _ HQ.out.1 Tryd.underlying27 rfl infoTup0 ?_)
                  | (refine wpList_load_mid rfl 27 (.tmp 47) rfl Q 1 rfl [.string t0, .string t1, .string t2] _ HQ.out.1 Tryd.underlying27 rfl infoTup0 ?_))
                go_ret
                exact ⟨by rw [eR]; rfl, HG.out.2.trans (HQ.out.2.2.1.to_below (B := B) (by have z1 := HE.out.1.size; have z2 := HW.out.2.2.2; have z3 := (HF.out.2.1.trans' HG.out.1).size; omega) (fun x h => by omega))⟩
            | false =>
              obtain ⟨k1, st, w7, k2, m7, k3, w8, k4, m8, k5, k6⟩ := seen_step (v0 := 0) hmap6 (t0, t1, t2) (by rw [htin]; rfl)
              have k1' : (Instr.lookup 71 (.map (some B)) (.agg #[.string t0, .string t1, .string t2]) false).run Tryd.prog w6.drew = .ok (.int .i64 0) w6.drew := k1
              have k2' : (Instr.mapEntry 71 (.map (some B)) (.agg #[.string t0, .string t1, .string t2])).run Tryd.prog w6.drew = .ok (.tuple #[.int .i64 0, .int .i64 (st : Int)]) w7 := k2
              have k3' : (Instr.lookup 71 (.map (some B)) (.agg #[.string t0, .string t1, .string t2]) false).run Tryd.prog w7 = .ok (.int .i64 0) w7 := k3 w7 rfl
              have k4' : (Instr.entryStore 71 (.map (some B)) (.int .i64 (st : Int)) (.int .i64 1)).run Tryd.prog w7 = .ok () w8 := k4
              have k6' : (Instr.lookup 71 (.map (some B)) (.agg #[.string t0, .string t1, .string t2]) false).run Tryd.prog w8 = .ok (.int .i64 1) w8 := k6 w8 rfl
              have q7 := m7.old (show w6.drew.heap[Q]? = _ from hQ6) hBQ
              have q8 := m8.old q7 hBQ
              have m8a : Mod (fun b => b = B) w6 w8 := ((Mod.refl (fun b => b = B) w6).drew.trans' m7).trans' m8
              clear k1 k2 k4 k6 hmap6
              go_upto_region 10 with fail
              refine wp_region_held_drew (S := fun w' => w'.heap[Q]? = some (.cells #[.bool d, .string t0, .string t1, .string t2] 30 (0, 0))) (by kernel_rfl) hQ6 (fun hS => ?_)
              clear hQ6
              refine takeD (i := 0) rfl (by kernel_rfl) (by kernel_rfl) (by kernel_rfl) (fun _ _ _ h => h) hS (Or.inl ⟨by rfl, fun w hSw => by go_simp; rfl⟩) ?_
              simp only [Act.put, List.setIfInBounds_toArray, List.set_cons_zero, List.set_cons_succ]
              refine takeD (i := 1) rfl (by kernel_rfl) (by kernel_rfl) (by kernel_rfl) (fun _ _ _ h => h) hS (Or.inl ⟨by rfl, fun w hSw => by go_simp; rfl⟩) ?_
              simp only [Act.put, List.setIfInBounds_toArray, List.set_cons_zero, List.set_cons_succ]
              refine takeD (i := 2) rfl (by kernel_rfl) (by kernel_rfl) (by kernel_rfl) (fun _ _ _ h => h) hS (yieldsIf_load_mid (by rfl) 27 (.tmp 32) rfl Q 1 rfl ([.string t0, .string t1, .string t2]) _ (fun w hSw => row_mid hSw) Tryd.underlying27 rfl infoTup0) ?_
              simp only [Act.put, List.setIfInBounds_toArray, List.set_cons_zero, List.set_cons_succ]
              refine wpAnyH_ready (rs := [3, 5]) (by kernel_rfl) (by simp) ?_
              refine consD (i := 3) rfl (fun K' hK' => ?_) (consD (i := 5) rfl (fun K' hK' => ?_) AllReadyH.nil)
              · rw [if_pos (by rfl)]
                go_simp
                refine hK'.out _ _ hS (fun hS => ?_)
                clear hK' K'
                refine takeD (i := 4) (v := (.int .i64 1)) rfl (by kernel_rfl) (by kernel_rfl) (by kernel_rfl) (fun _ _ _ h => h) hS (Or.inl ⟨by rfl, fun w hSw => by go_simp; rfl⟩) ?_
                simp only [Act.put, List.setIfInBounds_toArray, List.set_cons_zero, List.set_cons_succ]
                refine wpAnyH_ready (rs := [5]) (by kernel_rfl) (by simp) ?_
                refine consD (i := 5) rfl (fun K' hK' => ?_) AllReadyH.nil
                rw [if_pos (by rfl)]
                go_simp
                refine hK'.out _ _ q7 (fun hS => ?_)
                clear hK' K'
                refine takeD (i := 6) (v := (.int .i64 (st : Int))) rfl (by kernel_rfl) (by kernel_rfl) (by kernel_rfl) (fun _ _ _ h => h) hS (Or.inl ⟨by rfl, fun w hSw => by go_simp⟩) ?_
                simp only [Act.put, List.setIfInBounds_toArray, List.set_cons_zero, List.set_cons_succ]
                refine wpAnyH_ready (rs := [7]) (by kernel_rfl) (by simp) ?_
                refine consD (i := 7) rfl (fun K' hK' => ?_) AllReadyH.nil
                rw [if_pos (by rfl)]
                go_simp
                refine hK'.out _ _ q8 (fun hS => ?_)
                clear hK' K'
                refine wpAnyH_done (by kernel_rfl) ?_ _
                clear hS
                have HQ := Lib.hid (And.intro (row_mid q8) (And.intro q8 (And.intro m8a k5)))
                clear q7 q8 m8a k5 m7 m8 k3
                simp only [Exit.then]
                go_wp2_with (first
                  | (refine wpList_load_mid rfl 27 (.tmp 40) rfl Q 1 rfl [.string t0, .string t1, .string t2] _ HQ.out.1 Tryd.underlying27 rfl infoTup0 ?_)
                  | (refine wpList_load_mid rfl 27 (.tmp 47) rfl Q 1 rfl [.string t0, .string t1, .string t2] _ HQ.out.1 Tryd.underlying27 rfl infoTup0 ?_))
                have hbel8 : Below B w w8 := HG.out.2.trans (HQ.out.2.2.1.to_below (B := B) (by have z1 := HE.out.1.size; have z2 := HW.out.2.2.2; have z3 := (HF.out.2.1.trans' HG.out.1).size; omega) (fun x h => by omega))
                have hS8 : StMem w8 s O U M MO MU F lm lo lu wm := HH.out.1.mod (Mod.of_below (HW.out.2.2.2.symm ▸ hbel8) (fun _ => False)) (fun _ _ h => h)
                refine (last_any hS8 (t0, t1, t2)).mono ?_
                rintro e w9 ⟨rfl, hb9⟩
                have m9 : Mod (fun _ => False) w8 w9 := Mod.of_below hb9 _
                have c := cell_of (i := 3) (m9.old hS8.hs id) rfl
                have hbel9 : Below B w w9 := hbel8.trans (hb9.mono (by have z1 := hbel8.size; have z2 := HW.out.2.2.2; omega))
                have HZ := Lib.hid (And.intro hbel9 m9)
                clear hbel8 hS8 hb9 m9 hbel9
                obtain ⟨L, hL⟩ : ∃ L, lastOf (aget (smc lm) (t0, t1, t2)) = L := ⟨_, rfl⟩
                rw [hL] at HE ⊢
                have HT := Lib.hid htin
                clear hL htin k1' k2' k3' k4' k6'
                by_cases hl1 : rev ≤ L
                · have eR : R = 70 := by
                    have z := HE.out.2.2.1
                    rw [if_neg (by decide), if_neg (by rw [HT.out]; decide), if_pos (.inl hl1)] at z
                    exact z.symm
                  go_wp2
                  go_ret
                  exact ⟨by rw [eR]; rfl, HZ.out.1⟩
                · by_cases hl2 : rev ≤ wm
                  · have eR : R = 70 := by
                      have z := HE.out.2.2.1
                      rw [if_neg (by decide), if_neg (by rw [HT.out]; decide), if_pos (.inr hl2)] at z
                      exact z.symm
                    go_wp2
                    go_ret
                    exact ⟨by rw [eR]; rfl, HZ.out.1⟩
                  · have eR : checkL (smc lm) wm rev (l ++ [(t0, t1, t2)]) (List.drop (t + 1) muts) = R := by
                      have z := HE.out.2.2.1
                      rw [if_neg (by decide), if_neg (by rw [HT.out]; decide), if_neg (by rintro (h | h) <;> omega)] at z
                      exact z
                    have HU := Lib.hid eR
                    clear eR
                    go_wp2
                    go_roundg (gk - 1)
                    case measure => have := HE.out.2.2.2.2.2.2; omega
                    case rel =>
                      obtain ⟨e1, e2, e3, e4, e5, e6, e7, e8⟩ := HE.out
                      exact ⟨t + 1, by omega, by go_num, HZ.out.1, by rw [e4]; exact (HQ.out.2.2.2 HT.out).mod HZ.out.2 id, by rw [e4]; exact HU.out⟩
              · rw [if_pos (by rfl)]
                go_simp
                refine hK'.out _ _ q7 (fun hS => ?_)
                clear hK' K'
                refine takeD (i := 6) (v := (.int .i64 (st : Int))) rfl (by kernel_rfl) (by kernel_rfl) (by kernel_rfl) (fun _ _ _ h => h) hS (Or.inl ⟨by rfl, fun w hSw => by go_simp⟩) ?_
                simp only [Act.put, List.setIfInBounds_toArray, List.set_cons_zero, List.set_cons_succ]
                refine wpAnyH_ready (rs := [3]) (by kernel_rfl) (by simp) ?_
                refine consD (i := 3) rfl (fun K' hK' => ?_) AllReadyH.nil
                rw [if_pos (by rfl)]
                go_simp
                refine hK'.out _ _ q7 (fun hS => ?_)
                clear hK' K'
                refine takeD (i := 4) (v := (.int .i64 1)) rfl (by kernel_rfl) (by kernel_rfl) (by kernel_rfl) (fun _ _ _ h => h) hS (Or.inl ⟨by rfl, fun w hSw => by go_simp; rfl⟩) ?_
                simp only [Act.put, List.setIfInBounds_toArray, List.set_cons_zero, List.set_cons_succ]
                refine wpAnyH_ready (rs := [7]) (by kernel_rfl) (by simp) ?_
                refine consD (i := 7) rfl (fun K' hK' => ?_) AllReadyH.nil
                rw [if_pos (by rfl)]
                go_simp
                refine hK'.out _ _ q8 (fun hS => ?_)
                clear hK' K'
                refine wpAnyH_done (by kernel_rfl) ?_ _
                clear hS
                have HQ := Lib.hid (And.intro (row_mid q8) (And.intro q8 (And.intro m8a k5)))
                clear q7 q8 m8a k5 m7 m8 k3
                simp only [Exit.then]
                go_wp2_with (first
                  | (refine wpList_load_mid rfl 27 (.tmp 40) rfl Q 1 rfl [.string t0, .string t1, .string t2] _ HQ.out.1 Tryd.underlying27 rfl infoTup0 ?_)
                  | (refine wpList_load_mid rfl 27 (.tmp 47) rfl Q 1 rfl [.string t0, .string t1, .string t2] _ HQ.out.1 Tryd.underlying27 rfl infoTup0 ?_))
                have hbel8 : Below B w w8 := HG.out.2.trans (HQ.out.2.2.1.to_below (B := B) (by have z1 := HE.out.1.size; have z2 := HW.out.2.2.2; have z3 := (HF.out.2.1.trans' HG.out.1).size; omega) (fun x h => by omega))
                have hS8 : StMem w8 s O U M MO MU F lm lo lu wm := HH.out.1.mod (Mod.of_below (HW.out.2.2.2.symm ▸ hbel8) (fun _ => False)) (fun _ _ h => h)
                refine (last_any hS8 (t0, t1, t2)).mono ?_
                rintro e w9 ⟨rfl, hb9⟩
                have m9 : Mod (fun _ => False) w8 w9 := Mod.of_below hb9 _
                have c := cell_of (i := 3) (m9.old hS8.hs id) rfl
                have hbel9 : Below B w w9 := hbel8.trans (hb9.mono (by have z1 := hbel8.size; have z2 := HW.out.2.2.2; omega))
                have HZ := Lib.hid (And.intro hbel9 m9)
                clear hbel8 hS8 hb9 m9 hbel9
                obtain ⟨L, hL⟩ : ∃ L, lastOf (aget (smc lm) (t0, t1, t2)) = L := ⟨_, rfl⟩
                rw [hL] at HE ⊢
                have HT := Lib.hid htin
                clear hL htin k1' k2' k3' k4' k6'
                by_cases hl1 : rev ≤ L
                · have eR : R = 70 := by
                    have z := HE.out.2.2.1
                    rw [if_neg (by decide), if_neg (by rw [HT.out]; decide), if_pos (.inl hl1)] at z
                    exact z.symm
                  go_wp2
                  go_ret
                  exact ⟨by rw [eR]; rfl, HZ.out.1⟩
                · by_cases hl2 : rev ≤ wm
                  · have eR : R = 70 := by
                      have z := HE.out.2.2.1
                      rw [if_neg (by decide), if_neg (by rw [HT.out]; decide), if_pos (.inr hl2)] at z
                      exact z.symm
                    go_wp2
                    go_ret
                    exact ⟨by rw [eR]; rfl, HZ.out.1⟩
                  · have eR : checkL (smc lm) wm rev (l ++ [(t0, t1, t2)]) (List.drop (t + 1) muts) = R := by
                      have z := HE.out.2.2.1
                      rw [if_neg (by decide), if_neg (by rw [HT.out]; decide), if_neg (by rintro (h | h) <;> omega)] at z
                      exact z
                    have HU := Lib.hid eR
                    clear eR
                    go_wp2
                    go_roundg (gk - 1)
                    case measure => have := HE.out.2.2.2.2.2.2; omega
                    case rel =>
                      obtain ⟨e1, e2, e3, e4, e5, e6, e7, e8⟩ := HE.out
                      exact ⟨t + 1, by omega, by go_num, HZ.out.1, by rw [e4]; exact (HQ.out.2.2.2 HT.out).mod HZ.out.2 id, by rw [e4]; exact HU.out⟩
          · have hq1 : (q == 0) = false := by simp [hq0]
            have eR : R = q := by
              have := HE.out.2.2.1
              rw [if_pos hq0] at this
              exact this.symm
            subst eR
            go_wp2
            go_ret
            exact ⟨rfl, HG.out.2⟩
    · have eR : R = 1 := by
        rw [← HH.out.2.2.2.2.2]
        unfold checkA maxRev
        rw [if_pos (by omega)]
      subst eR
      go_enter Tryd.func15, Tryd.ntmps15
      go_wp2
      go_ret
      exact ⟨rfl, Below.refl _ _⟩
  · have eR : R = 1 := by
      rw [← HH.out.2.2.2.2.2]
      unfold checkA maxRev
      rw [if_pos (by omega)]
    subst eR
    go_enter Tryd.func15, Tryd.ntmps15
    go_wp2
    go_ret
    exact ⟨rfl, Below.refl _ _⟩
end
end Go.Proofs.YtojjnfhgldjgbaaDoor.Store
