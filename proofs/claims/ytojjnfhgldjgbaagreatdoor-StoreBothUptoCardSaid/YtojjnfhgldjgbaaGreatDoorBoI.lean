/- StoreBoth, where what came in is of bulk at most 1048576: who has a relation, what a user has, and Has say the same: part 9 of 14: what it leans on. -/
import Derived.Test.YtojjnfhgldjgbaaGreatDoorRows
import Derived.OpenShut
import Derived.SizedLaws
import Derived.Test.YtojjnfhgldjgbaaGreatDoorBoA
import Derived.Test.YtojjnfhgldjgbaaGreatDoorBoB
import Derived.Test.YtojjnfhgldjgbaaGreatDoorBoC
import Derived.Test.YtojjnfhgldjgbaaGreatDoorBoD
import Derived.Test.YtojjnfhgldjgbaaGreatDoorBoE
import Derived.Test.YtojjnfhgldjgbaaGreatDoorBoF
import Derived.Test.YtojjnfhgldjgbaaGreatDoorBoG
import Derived.Test.YtojjnfhgldjgbaaGreatDoorBoH
section
set_option linter.unusedVariables false
set_option linter.unusedSimpArgs false
namespace Go.Proofs.YtojjnfhgldjgbaaGreatDoor.Store
open Go.RowKit Go.Por Go.Sort Go.Proofs.YtojjnfhgldjgbaaGreatDoor.Watch Go.Por.Tupl
theorem OwnS.one {α : Type} {f : α → List Value} {c : Nat} {w : World} {E : TypeId} {g : Nat} {x : α} (hc : (f x).length = c) (h : w.heap[g]? = some (.cells (f x).toArray E (0, 0))) : OwnS f c w E (.slice (some ⟨g, 0, none⟩) 1 1) [x] := by
  refine ⟨by simp [hc], .inr ⟨g, 1, _, rfl, Nat.zero_le _, h, Nat.le_refl _, by unfold maxLen; omega, by simp [hc], ?_⟩⟩
  rw [List.flatMap_cons, List.flatMap_nil, List.append_nil, List.length_singleton, Nat.one_mul]
  exact List.take_of_length_le (by simp [hc])
theorem row_mid {w : World} {b : Nat} {x0 x1 x2 x3 : Value} {t : TypeId} (h : w.heap[b]? = some (.cells #[x0, x1, x2, x3] t (0, 0))) : w.rangeAt b 1 [x1, x2, x3] := fun j u hu => by
  match j, hu with
  | 0, hu => simp at hu; subst hu; exact cell_of (i := 1) h rfl
  | 1, hu => simp at hu; subst hu; exact cell_of (i := 2) h rfl
  | 2, hu => simp at hu; subst hu; exact cell_of (i := 3) h rfl
  | n + 3, hu => simp at hu
/-- A tuple's texts have sizes that a machine can count. -/
def TupOk (t : Tup) : Prop := t.1.size ≤ 9223372036854775807 ∧ t.2.1.size ≤ 9223372036854775807 ∧ t.2.2.size ≤ 9223372036854775807
/-- The tuples seen, as the map holds them. -/
def seenV (l : List Tup) : List (Tup × Value) := l.map (fun t => (t, .int .i64 1))
theorem seenV_fst (l : List Tup) : (seenV l).map Prod.fst = l := by unfold seenV; rw [List.map_map]; exact List.map_id' l
theorem seen_put {l : List Tup} {t : Tup} (h : t ∉ l) : mput (seenV l) t (.int .i64 1) = seenV (l ++ [t]) := by
  unfold mput
  rw [seenV_fst, if_neg h]
  unfold seenV
  rw [List.map_append]
  rfl
section
variable {w : World} {s O U M MO MU : Nat} {F : Nat → Prop} {lm : List (Tup × (Value × List Span))} {lo : List (PairT × (Value × List Tup))} {lu : List (ByteArray × (Value × List Tup))} {wm : Int}
/-- What 'seen[t]++' does: the three runs, and the map behind. -/
theorem seen_step {w : World} {B : Nat} {l : List Tup} (h : MapIs w B encT (seenV l)) (t : Tup) {v0 : Int} (hv : v0 = if tin t l = true then 1 else 0) :
    (Instr.lookup 89 (.map (some B)) (encT t) false).run Tryz.prog w = .ok (.int .i64 v0) w ∧
    ∃ (st : Nat) (w1 : World), (Instr.mapEntry 89 (.map (some B)) (encT t)).run Tryz.prog w = .ok (.tuple #[.int .i64 v0, .int .i64 (st : Int)]) w1 ∧ Mod (fun b => b = B) w w1 ∧
      (∀ W : World, W.heap[B]? = w1.heap[B]? → (Instr.lookup 89 (.map (some B)) (encT t) false).run Tryz.prog W = .ok (.int .i64 v0) W) ∧
      ∃ w2, (Instr.entryStore 89 (.map (some B)) (.int .i64 (st : Int)) (.int .i64 (v0 + 1))).run Tryz.prog w1 = .ok () w2 ∧ Mod (fun b => b = B) w1 w2 ∧
        (tin t l = false → MapIs w2 B encT (seenV (l ++ [t]))) ∧ (∀ W : World, W.heap[B]? = w2.heap[B]? → (Instr.lookup 89 (.map (some B)) (encT t) false).run Tryz.prog W = .ok (.int .i64 (v0 + 1)) W) := by
  have hz : ∀ W : World, (zeroValue 3).run Tryz.prog W = .ok (.int .i64 0) W := fun W => by kernel_rfl
  obtain ⟨st, o1, hr1, hm1, hst⟩ := h.entry keyTup Tryz.underlying89 t (hz w)
  have hg : (gfind (seenV l) t).getD (.int .i64 0) = .int .i64 v0 := by
    by_cases hk : tin t l = true
    · rw [hv, if_pos hk]
      have hmem : (t, Value.int .i64 1) ∈ seenV l := List.mem_map.2 ⟨t, tin_iff.1 hk, rfl⟩
      rw [(gfind_some h.nodup).2 hmem]
      rfl
    · rw [hv, if_neg hk]
      rw [gfind_none.2 (by rw [seenV_fst]; exact fun hm => hk (tin_iff.2 hm))]
      rfl
  rw [hg] at hr1 hm1
  have look : ∀ (W : World) (ll : List (Tup × Value)) (u : Value), MapIs W B encT ll → (t, u) ∈ ll → (Instr.lookup 89 (.map (some B)) (encT t) false).run Tryz.prog W = .ok u W := fun W ll u hW hu => by
    have := MapIs.look_hit keyTup Tryz.underlying89 hW hu false
    simpa using this
  refine ⟨?_, st, _, hr1, setB_mod w B o1, fun W hW => look W _ _ (hm1.keep hW) (mem_mput.2 (.inl ⟨rfl, rfl⟩)), ?_⟩
  · by_cases hk : tin t l = true
    · have hmem : (t, Value.int .i64 1) ∈ seenV l := List.mem_map.2 ⟨t, tin_iff.1 hk, rfl⟩
      rw [hv, if_pos hk]
      exact look w _ _ h hmem
    · rw [hv, if_neg hk]
      have := MapIs.look_miss keyTup Tryz.underlying89 h (k := t) (by rw [seenV_fst]; exact fun hm => hk (tin_iff.2 hm)) (hz w) false
      simpa using this
  · obtain ⟨o, hr2, hm2⟩ := hst (setB w B o1) (.int .i64 (v0 + 1)) (setB_at w o1 h.lt)
    refine ⟨_, hr2, setB_mod _ B o, fun hk => ?_, fun W hW => look W _ _ (hm2.keep hW) (mem_mput.2 (.inl ⟨rfl, rfl⟩))⟩
    have e : v0 + 1 = 1 := by rw [hv, if_neg (by rw [hk]; decide)]; rfl
    rw [e] at hm2
    rw [seen_put (fun hm => by rw [tin_iff.2 hm] at hk; cases hk)] at hm2
    exact hm2
set_option maxRecDepth 100000 in
set_option maxHeartbeats 6400000 in
theorem check_mem (h : StMem w s O U M MO MU F lm lo lu wm) {v : Value} {muts : List Mut} (hr : ReadS mutC 4 w v muts) (hok : ∀ m ∈ muts, TupOk m.2) (rev : Int) : Calls Tryz.prog 58 #[.pointer (some ⟨s, 0, none⟩), .int .i64 rev, v] w fun e w' => e = .returned (.int .i64 (checkA (smc lm) wm rev muts)) ∧ Below w.heap.size w w' := by
  obtain ⟨ao, cap, rfl, hlen⟩ := hr.form
  obtain ⟨n, hn⟩ : ∃ n, muts.length = n := ⟨_, rfl⟩
  obtain ⟨R, hR⟩ : ∃ R, checkA (smc lm) wm rev muts = R := ⟨_, rfl⟩
  rw [hn] at hr hlen ⊢
  rw [hR]
  have HH := Lib.hid (And.intro h (And.intro hr (And.intro hlen (And.intro hn (And.intro hok hR)))))
  clear h hr hR hok
  by_cases h1 : 1 ≤ rev
  · by_cases h2 : rev ≤ 1125899906842624
    · have hR2 : checkL (smc lm) wm rev [] muts = R := by
        rw [← HH.out.2.2.2.2.2]
        unfold checkA maxRev
        rw [if_neg (by omega)]
      obtain ⟨B, hB⟩ : ∃ B, w.heap.size = B := ⟨_, rfl⟩
      rw [hB]
      go_enter Tryz.func58, Tryz.ntmps58
      have hmm := @run_makeMap Tryz.prog
      go_wp2
      clear hmm
      have hM0 := MapIs.made w encT
      have hbel0 : Below B w (w.alloc (.map #[] 0)) := by rw [← hB]; exact (Below.refl _ w).alloc (Nat.le_refl _) _
      rw [hB] at hM0
      generalize hW3 : w.alloc (.map #[] 0) = W3 at *
      have HW := Lib.hid (And.intro hM0 (And.intro hbel0 (And.intro hR2 hB)))
      clear hM0 hbel0 hW3 hR2 hB
      go_loopg [20] n (fun gg vi wx => ∃ (t : Nat), t + gg = n ∧ vi = .int .i64 (t : Int) ∧ Below B w wx ∧ MapIs wx B encT (seenV ((muts.take t).map (·.2))) ∧ checkL (smc lm) wm rev ((muts.take t).map (·.2)) (muts.drop t) = R)
      case atStart => exact ⟨0, by omega, rfl, HW.out.2.1, HW.out.1, HW.out.2.2.1⟩
      case round =>
        obtain ⟨t, htg, rfl, hbel, hmap, hck⟩ := hrel
        by_cases hg : gk = 0
        · have ht : t = n := by omega
          have hk0 : ¬ ((t : Int) < (n : Int)) := by omega
          have e0 : R = 0 := by
            rw [← hck, List.drop_eq_nil_of_le (by rw [HH.out.2.2.2.1]; omega)]
            rfl
          subst e0
          have HE := Lib.hid hbel
          clear hbel hmap hck htg hg ht
          go_wp2
          go_ret
          exact ⟨rfl, HE.out⟩
        · have htn : t < n := by omega
          obtain ⟨⟨d, t0, t1, t2⟩, hx⟩ : ∃ m, muts[t]? = some m := ⟨_, List.getElem?_eq_getElem (by rw [HH.out.2.2.2.1]; exact htn)⟩
          obtain ⟨b, o, rfl, hrange, hbl⟩ := HH.out.2.1.lt (by decide) mutC_len hx
          rw [HW.out.2.2.2] at hbl
          have hrange2 : wr.rangeAt b (o + t * 4) (mutC (d, t0, t1, t2)) := range_below hrange hbel hbl
          have hti : (t : Int) < (n : Int) := by omega
          have hmt : TupOk (t0, t1, t2) := HH.out.2.2.2.2.1 (d, t0, t1, t2) (List.mem_of_getElem? hx)
          have hdrop : muts.drop t = (d, t0, t1, t2) :: muts.drop (t + 1) := by
            have hlt : t < muts.length := by rw [HH.out.2.2.2.1]; exact htn
            rw [List.drop_eq_getElem_cons hlt]
            congr 1
            rw [List.getElem?_eq_getElem hlt] at hx
            exact Option.some.inj hx
          have htake : (muts.take (t + 1)).map (·.2) = (muts.take t).map (·.2) ++ [(t0, t1, t2)] := by
            rw [List.take_add_one, hx, Option.toList_some, List.map_append]
            rfl
          obtain ⟨l, hl⟩ : ∃ l, (muts.take t).map (fun x : Mut => x.2) = l := ⟨_, rfl⟩
          rw [hl] at hmap hck htake
          rw [hdrop] at hck
          unfold checkL at hck
          have HE := Lib.hid (And.intro hbel (And.intro hmap (And.intro hck (And.intro htake (And.intro hmt (And.intro hrange2 (And.intro htg htn)))))))
          clear hbel hmap hck htake hmt hrange2 htg hrange hdrop hl hx hg htn hbl
          go_upto_region 7 with (first
            | (refine wpList_load_mid rfl 47 (.tmp 22) rfl b (o + t * 4) rfl (mutC (d, t0, t1, t2)) _ HE.out.2.2.2.2.2.1 Tryz.underlying47 rfl infoMut0 ?_; unfold mutC))
          obtain ⟨Q, hQ⟩ : ∃ Q, wr.heap.size = Q := ⟨_, rfl⟩
          have hQb := block_new wr (.cells #[.bool d, .string t0, .string t1, .string t2] 47)
          have m4 : Mod (fun _ => False) wr (wr.alloc (.cells #[.bool d, .string t0, .string t1, .string t2] 47)) := (Mod.refl _ wr).alloc _
          have s4 : (wr.alloc (.cells #[.bool d, .string t0, .string t1, .string t2] 47)).heap.size = Q + 1 := by rw [World.size_alloc, hQ]
          rw [hQ] at hQb ⊢
          generalize hW4 : wr.alloc (.cells #[.bool d, .string t0, .string t1, .string t2] 47) = W4 at *
          have HF := Lib.hid (And.intro hQb (And.intro m4 (And.intro s4 (And.intro hQ (row_mid hQb)))))
          clear hQb m4 s4 hQ hW4
          go_wp2_with (first
            | (refine wpList_load_mid rfl 41 (.tmp 24) rfl Q 1 rfl [.string t0, .string t1, .string t2] _ HF.out.2.2.2.2 Tryz.underlying41 rfl infoTup0 ?_))
          have hs5 : (W4.alloc (.cells #[.string t0, .string t1, .string t2] 41)).heap.size = Q + 2 := by rw [World.size_alloc, HF.out.2.2.1]
          have m5 : Mod (fun _ => False) W4 (W4.alloc (.cells #[.string t0, .string t1, .string t2] 41)) := (Mod.refl _ W4).alloc _
          refine (check_one (t0, t1, t2) (OwnS.one rfl (block_new W4 (.cells #[.string t0, .string t1, .string t2] 41))) HE.out.2.2.2.2.1.1 HE.out.2.2.2.2.1.2.1 HE.out.2.2.2.2.1.2.2).mono ?_
          rintro e w6 ⟨rfl, hb6⟩
          have m6 : Mod (fun _ => False) W4 w6 := m5.trans' (Mod.of_below hb6 _)
          have hbel6 : Below B w w6 := (HE.out.1.trans ((HF.out.2.1.trans' m6).to_below (B := B) (by have z1 := HE.out.1.size; have z2 := HW.out.2.2.2; omega) (fun _ h => h.elim)))
          have HG := Lib.hid (And.intro m6 hbel6)
          clear hs5 m5 hb6 m6 hbel6
          obtain ⟨q, hq⟩ : ∃ q, tchk (t0, t1, t2) = q := ⟨_, rfl⟩
          rw [hq] at HE ⊢
          clear hq
          by_cases hq0 : q = 0
          · subst hq0
            have hmap6 : MapIs w6.drew B encT (seenV l) := HE.out.2.1.mod ((HF.out.2.1.trans' HG.out.1).drew) id
            have hQ6 := HG.out.1.old HF.out.1 id
            have hBQ : Q ≠ B := fun e => by
              obtain ⟨es, ck, hm, _⟩ := hmap6
              rw [← e] at hm
              have h9 : w6.drew.heap[Q]? = w6.heap[Q]? := rfl
              rw [h9, hQ6] at hm
              cases hm
            cases htin : tin (t0, t1, t2) l with
            | true =>
              obtain ⟨k1, st, w7, k2, m7, k3, w8, k4, m8, k5, k6⟩ := seen_step (v0 := 1) hmap6 (t0, t1, t2) (by rw [htin]; rfl)
              have k1' : (Instr.lookup 89 (.map (some B)) (.agg #[.string t0, .string t1, .string t2]) false).run Tryz.prog w6.drew = .ok (.int .i64 1) w6.drew := k1
              have k2' : (Instr.mapEntry 89 (.map (some B)) (.agg #[.string t0, .string t1, .string t2])).run Tryz.prog w6.drew = .ok (.tuple #[.int .i64 1, .int .i64 (st : Int)]) w7 := k2
              have k3' : (Instr.lookup 89 (.map (some B)) (.agg #[.string t0, .string t1, .string t2]) false).run Tryz.prog w7 = .ok (.int .i64 1) w7 := k3 w7 rfl
              have k4' : (Instr.entryStore 89 (.map (some B)) (.int .i64 (st : Int)) (.int .i64 2)).run Tryz.prog w7 = .ok () w8 := k4
              have k6' : (Instr.lookup 89 (.map (some B)) (.agg #[.string t0, .string t1, .string t2]) false).run Tryz.prog w8 = .ok (.int .i64 2) w8 := k6 w8 rfl
              have q7 := m7.old (show w6.drew.heap[Q]? = _ from hQ6) hBQ
              have q8 := m8.old q7 hBQ
              have m8a : Mod (fun b => b = B) w6 w8 := ((Mod.refl (fun b => b = B) w6).drew.trans' m7).trans' m8
              have eR : R = 5 := by
                have z := HE.out.2.2.1
                rw [if_neg (by decide), if_pos htin] at z
                exact z.symm
              clear k1 k2 k4 k6 hmap6
              go_upto_region 10 with fail
              refine wp_region_held_drew (S := fun w' => w'.heap[Q]? = some (.cells #[.bool d, .string t0, .string t1, .string t2] 47 (0, 0))) (by kernel_rfl) hQ6 (fun hS => ?_)
              clear hQ6
              refine takeD (i := 0) rfl (by kernel_rfl) (by kernel_rfl) (by kernel_rfl) (fun _ _ _ h => h) hS (Or.inl ⟨by rfl, fun w hSw => by go_simp; rfl⟩) ?_
              simp only [Act.put, List.setIfInBounds_toArray, List.set_cons_zero, List.set_cons_succ]
              refine takeD (i := 1) rfl (by kernel_rfl) (by kernel_rfl) (by kernel_rfl) (fun _ _ _ h => h) hS (Or.inl ⟨by rfl, fun w hSw => by go_simp; rfl⟩) ?_
              simp only [Act.put, List.setIfInBounds_toArray, List.set_cons_zero, List.set_cons_succ]
              refine takeD (i := 2) rfl (by kernel_rfl) (by kernel_rfl) (by kernel_rfl) (fun _ _ _ h => h) hS (yieldsIf_load_mid (by rfl) 41 (.tmp 32) rfl Q 1 rfl ([.string t0, .string t1, .string t2]) _ (fun w hSw => row_mid hSw) Tryz.underlying41 rfl infoTup0) ?_
              simp only [Act.put, List.setIfInBounds_toArray, List.set_cons_zero, List.set_cons_succ]
              refine wpAnyH_ready (rs := [3, 5]) (by kernel_rfl) (by simp) ?_
              refine consD (i := 3) rfl (fun K' hK' => ?_) (consD (i := 5) rfl (fun K' hK' => ?_) AllReadyH.nil)
              · rw [if_pos (by rfl)]
                go_simp
                refine hK'.out _ _ hS (fun hS => ?_)
                clear hK' K'
                refine takeD (i := 4) (v := (.int .i64 2)) rfl (by kernel_rfl) (by kernel_rfl) (by kernel_rfl) (fun _ _ _ h => h) hS (Or.inl ⟨by rfl, fun w hSw => by go_simp; rfl⟩) ?_
                simp only [Act.put, List.setIfInBounds_toArray, List.set_cons_zero, List.set_cons_succ]
                refine wpAnyH_ready (rs := [5]) (by kernel_rfl) (by simp) ?_
                refine consD (i := 5) rfl (fun K' hK' => ?_) AllReadyH.nil
                rw [if_pos (by rfl)]
                go_simp
                refine hK'.out _ _ q7 (fun hS => ?_)
                clear hK' K'
                refine takeD (i := 6) (v := (.int .i64 (st : Int))) rfl (by kernel_rfl) (by kernel_rfl) (by kernel_rfl) (fun _ _ _ h => h) hS (Or.inl ⟨by rfl, fun w hSw => by go_simp⟩) ?_
                simp only [Act.put, List.setIfInBounds_toArray, List.set_cons_zero, List.set_cons_succ]
                refine wpAnyH_ready (rs := [7]) (by kernel_rfl) (by simp) ?_
                refine consD (i := 7) rfl (fun K' hK' => ?_) AllReadyH.nil
                rw [if_pos (by rfl)]
                go_simp
                refine hK'.out _ _ q8 (fun hS => ?_)
                clear hK' K'
                refine wpAnyH_done (by kernel_rfl) ?_ _
                clear hS
                have HQ := Lib.hid (And.intro (row_mid q8) (And.intro q8 (And.intro m8a k5)))
                clear q7 q8 m8a k5 m7 m8 k3
                simp only [Exit.then]
                go_wp2_with (first
                  | (refine wpList_load_mid rfl 41 (.tmp 40) rfl Q 1 rfl [.string t0, .string t1, .string t2] _ HQ.out.1 Tryz.underlying41 rfl infoTup0 ?_)
                  | (refine wpList_load_mid rfl 41 (.tmp 47) rfl Q 1 rfl [.string t0, .string t1, .string t2] _ HQ.out.1 Tryz.underlying41 rfl infoTup0 ?_))
                go_ret
                exact ⟨by rw [eR]; rfl, HG.out.2.trans (HQ.out.2.2.1.to_below (B := B) (by have z1 := HE.out.1.size; have z2 := HW.out.2.2.2; have z3 := (HF.out.2.1.trans' HG.out.1).size; omega) (fun x h => by omega))⟩
              · rw [if_pos (by rfl)]
                go_simp
                refine hK'.out _ _ q7 (fun hS => ?_)
                clear hK' K'
                refine takeD (i := 6) (v := (.int .i64 (st : Int))) rfl (by kernel_rfl) (by kernel_rfl) (by kernel_rfl) (fun _ _ _ h => h) hS (Or.inl ⟨by rfl, fun w hSw => by go_simp⟩) ?_
                simp only [Act.put, List.setIfInBounds_toArray, List.set_cons_zero, List.set_cons_succ]
                refine wpAnyH_ready (rs := [3]) (by kernel_rfl) (by simp) ?_
                refine consD (i := 3) rfl (fun K' hK' => ?_) AllReadyH.nil
                rw [if_pos (by rfl)]
                go_simp
                refine hK'.out _ _ q7 (fun hS => ?_)
                clear hK' K'
                refine takeD (i := 4) (v := (.int .i64 2)) rfl (by kernel_rfl) (by kernel_rfl) (by kernel_rfl) (fun _ _ _ h => h) hS (Or.inl ⟨by rfl, fun w hSw => by go_simp; rfl⟩) ?_
                simp only [Act.put, List.setIfInBounds_toArray, List.set_cons_zero, List.set_cons_succ]
                refine wpAnyH_ready (rs := [7]) (by kernel_rfl) (by simp) ?_
                refine consD (i := 7) rfl (fun K' hK' => ?_) AllReadyH.nil
                rw [if_pos (by rfl)]
                go_simp
                refine hK'.out _ _ q8 (fun hS => ?_)
                clear hK' K'
                refine wpAnyH_done (by kernel_rfl) ?_ _
                clear hS
                have HQ := Lib.hid (And.intro (row_mid q8) (And.intro q8 (And.intro m8a k5)))
                clear q7 q8 m8a k5 m7 m8 k3
                simp only [Exit.then]
                go_wp2_with (first
                  | (refine wpList_load_mid rfl 41 (.tmp 40) rfl Q 1 rfl [.string t0, .string t1, .string t2] _ HQ.out.1 Tryz.underlying41 rfl infoTup0 ?_)
                  | (refine wpList_load_mid rfl 41 (.tmp 47) rfl Q 1 rfl [.string t0, .string t1, .string t2] _ HQ.out.1 Tryz.underlying41 rfl infoTup0 ?_))
                go_ret
                exact ⟨by rw [eR]; rfl, HG.out.2.trans (HQ.out.2.2.1.to_below (B := B) (by have z1 := HE.out.1.size; have z2 := HW.out.2.2.2; have z3 := (HF.out.2.1.trans' HG.out.1).size; omega) (fun x h => by omega))⟩
            | false =>
              obtain ⟨k1, st, w7, k2, m7, k3, w8, k4, m8, k5, k6⟩ := seen_step (v0 := 0) hmap6 (t0, t1, t2) (by rw [htin]; rfl)
              have k1' : (Instr.lookup 89 (.map (some B)) (.agg #[.string t0, .string t1, .string t2]) false).run Tryz.prog w6.drew = .ok (.int .i64 0) w6.drew := k1
              have k2' : (Instr.mapEntry 89 (.map (some B)) (.agg #[.string t0, .string t1, .string t2])).run Tryz.prog w6.drew = .ok (.tuple #[.int .i64 0, .int .i64 (st : Int)]) w7 := k2
              have k3' : (Instr.lookup 89 (.map (some B)) (.agg #[.string t0, .string t1, .string t2]) false).run Tryz.prog w7 = .ok (.int .i64 0) w7 := k3 w7 rfl
              have k4' : (Instr.entryStore 89 (.map (some B)) (.int .i64 (st : Int)) (.int .i64 1)).run Tryz.prog w7 = .ok () w8 := k4
              have k6' : (Instr.lookup 89 (.map (some B)) (.agg #[.string t0, .string t1, .string t2]) false).run Tryz.prog w8 = .ok (.int .i64 1) w8 := k6 w8 rfl
              have q7 := m7.old (show w6.drew.heap[Q]? = _ from hQ6) hBQ
              have q8 := m8.old q7 hBQ
              have m8a : Mod (fun b => b = B) w6 w8 := ((Mod.refl (fun b => b = B) w6).drew.trans' m7).trans' m8
              clear k1 k2 k4 k6 hmap6
              go_upto_region 10 with fail
              refine wp_region_held_drew (S := fun w' => w'.heap[Q]? = some (.cells #[.bool d, .string t0, .string t1, .string t2] 47 (0, 0))) (by kernel_rfl) hQ6 (fun hS => ?_)
              clear hQ6
              refine takeD (i := 0) rfl (by kernel_rfl) (by kernel_rfl) (by kernel_rfl) (fun _ _ _ h => h) hS (Or.inl ⟨by rfl, fun w hSw => by go_simp; rfl⟩) ?_
              simp only [Act.put, List.setIfInBounds_toArray, List.set_cons_zero, List.set_cons_succ]
              refine takeD (i := 1) rfl (by kernel_rfl) (by kernel_rfl) (by kernel_rfl) (fun _ _ _ h => h) hS (Or.inl ⟨by rfl, fun w hSw => by go_simp; rfl⟩) ?_
              simp only [Act.put, List.setIfInBounds_toArray, List.set_cons_zero, List.set_cons_succ]
              refine takeD (i := 2) rfl (by kernel_rfl) (by kernel_rfl) (by kernel_rfl) (fun _ _ _ h => h) hS (yieldsIf_load_mid (by rfl) 41 (.tmp 32) rfl Q 1 rfl ([.string t0, .string t1, .string t2]) _ (fun w hSw => row_mid hSw) Tryz.underlying41 rfl infoTup0) ?_
              simp only [Act.put, List.setIfInBounds_toArray, List.set_cons_zero, List.set_cons_succ]
              refine wpAnyH_ready (rs := [3, 5]) (by kernel_rfl) (by simp) ?_
              refine consD (i := 3) rfl (fun K' hK' => ?_) (consD (i := 5) rfl (fun K' hK' => ?_) AllReadyH.nil)
              · rw [if_pos (by rfl)]
                go_simp
                refine hK'.out _ _ hS (fun hS => ?_)
                clear hK' K'
                refine takeD (i := 4) (v := (.int .i64 1)) rfl (by kernel_rfl) (by kernel_rfl) (by kernel_rfl) (fun _ _ _ h => h) hS (Or.inl ⟨by rfl, fun w hSw => by go_simp; rfl⟩) ?_
                simp only [Act.put, List.setIfInBounds_toArray, List.set_cons_zero, List.set_cons_succ]
                refine wpAnyH_ready (rs := [5]) (by kernel_rfl) (by simp) ?_
                refine consD (i := 5) rfl (fun K' hK' => ?_) AllReadyH.nil
                rw [if_pos (by rfl)]
                go_simp
                refine hK'.out _ _ q7 (fun hS => ?_)
                clear hK' K'
                refine takeD (i := 6) (v := (.int .i64 (st : Int))) rfl (by kernel_rfl) (by kernel_rfl) (by kernel_rfl) (fun _ _ _ h => h) hS (Or.inl ⟨by rfl, fun w hSw => by go_simp⟩) ?_
                simp only [Act.put, List.setIfInBounds_toArray, List.set_cons_zero, List.set_cons_succ]
                refine wpAnyH_ready (rs := [7]) (by kernel_rfl) (by simp) ?_
                refine consD (i := 7) rfl (fun K' hK' => ?_) AllReadyH.nil
                rw [if_pos (by rfl)]
                go_simp
                refine hK'.out _ _ q8 (fun hS => ?_)
                clear hK' K'
                refine wpAnyH_done (by kernel_rfl) ?_ _
                clear hS
                have HQ := Lib.hid (And.intro (row_mid q8) (And.intro q8 (And.intro m8a k5)))
                clear q7 q8 m8a k5 m7 m8 k3
                simp only [Exit.then]
                go_wp2_with (first
                  | (refine wpList_load_mid rfl 41 (.tmp 40) rfl Q 1 rfl [.string t0, .string t1, .string t2] _ HQ.out.1 Tryz.underlying41 rfl infoTup0 ?_)
                  | (refine wpList_load_mid rfl 41 (.tmp 47) rfl Q 1 rfl [.string t0, .string t1, .string t2] _ HQ.out.1 Tryz.underlying41 rfl infoTup0 ?_))
                have hbel8 : Below B w w8 := HG.out.2.trans (HQ.out.2.2.1.to_below (B := B) (by have z1 := HE.out.1.size; have z2 := HW.out.2.2.2; have z3 := (HF.out.2.1.trans' HG.out.1).size; omega) (fun x h => by omega))
                have hS8 : StMem w8 s O U M MO MU F lm lo lu wm := HH.out.1.mod (Mod.of_below (HW.out.2.2.2.symm ▸ hbel8) (fun _ => False)) (fun _ _ h => h)
                refine (last_any hS8 (t0, t1, t2)).mono ?_
                rintro e w9 ⟨rfl, hb9⟩
                have m9 : Mod (fun _ => False) w8 w9 := Mod.of_below hb9 _
                have c := cell_of (i := 3) (m9.old hS8.hs id) rfl
                have hbel9 : Below B w w9 := hbel8.trans (hb9.mono (by have z1 := hbel8.size; have z2 := HW.out.2.2.2; omega))
                have HZ := Lib.hid (And.intro hbel9 m9)
                clear hbel8 hS8 hb9 m9 hbel9
                obtain ⟨L, hL⟩ : ∃ L, lastOf (aget (smc lm) (t0, t1, t2)) = L := ⟨_, rfl⟩
                rw [hL] at HE ⊢
                have HT := Lib.hid htin
                clear hL htin k1' k2' k3' k4' k6'
                by_cases hl1 : rev ≤ L
                · have eR : R = 70 := by
                    have z := HE.out.2.2.1
                    rw [if_neg (by decide), if_neg (by rw [HT.out]; decide), if_pos (.inl hl1)] at z
                    exact z.symm
                  go_wp2
                  go_ret
                  exact ⟨by rw [eR]; rfl, HZ.out.1⟩
                · by_cases hl2 : rev ≤ wm
                  · have eR : R = 70 := by
                      have z := HE.out.2.2.1
                      rw [if_neg (by decide), if_neg (by rw [HT.out]; decide), if_pos (.inr hl2)] at z
                      exact z.symm
                    go_wp2
                    go_ret
                    exact ⟨by rw [eR]; rfl, HZ.out.1⟩
                  · have eR : checkL (smc lm) wm rev (l ++ [(t0, t1, t2)]) (List.drop (t + 1) muts) = R := by
                      have z := HE.out.2.2.1
                      rw [if_neg (by decide), if_neg (by rw [HT.out]; decide), if_neg (by rintro (h | h) <;> omega)] at z
                      exact z
                    have HU := Lib.hid eR
                    clear eR
                    go_wp2
                    go_roundg (gk - 1)
                    case measure => have := HE.out.2.2.2.2.2.2; omega
                    case rel =>
                      obtain ⟨e1, e2, e3, e4, e5, e6, e7, e8⟩ := HE.out
                      exact ⟨t + 1, by omega, by go_num, HZ.out.1, by rw [e4]; exact (HQ.out.2.2.2 HT.out).mod HZ.out.2 id, by rw [e4]; exact HU.out⟩
              · rw [if_pos (by rfl)]
                go_simp
                refine hK'.out _ _ q7 (fun hS => ?_)
                clear hK' K'
                refine takeD (i := 6) (v := (.int .i64 (st : Int))) rfl (by kernel_rfl) (by kernel_rfl) (by kernel_rfl) (fun _ _ _ h => h) hS (Or.inl ⟨by rfl, fun w hSw => by go_simp⟩) ?_
                simp only [Act.put, List.setIfInBounds_toArray, List.set_cons_zero, List.set_cons_succ]
                refine wpAnyH_ready (rs := [3]) (by kernel_rfl) (by simp) ?_
                refine consD (i := 3) rfl (fun K' hK' => ?_) AllReadyH.nil
                rw [if_pos (by rfl)]
                go_simp
                refine hK'.out _ _ q7 (fun hS => ?_)
                clear hK' K'
                refine takeD (i := 4) (v := (.int .i64 1)) rfl (by kernel_rfl) (by kernel_rfl) (by kernel_rfl) (fun _ _ _ h => h) hS (Or.inl ⟨by rfl, fun w hSw => by go_simp; rfl⟩) ?_
                simp only [Act.put, List.setIfInBounds_toArray, List.set_cons_zero, List.set_cons_succ]
                refine wpAnyH_ready (rs := [7]) (by kernel_rfl) (by simp) ?_
                refine consD (i := 7) rfl (fun K' hK' => ?_) AllReadyH.nil
                rw [if_pos (by rfl)]
                go_simp
                refine hK'.out _ _ q8 (fun hS => ?_)
                clear hK' K'
                refine wpAnyH_done (by kernel_rfl) ?_ _
                clear hS
                have HQ := Lib.hid (And.intro (row_mid q8) (And.intro q8 (And.intro m8a k5)))
                clear q7 q8 m8a k5 m7 m8 k3
                simp only [Exit.then]
                go_wp2_with (first
                  | (refine wpList_load_mid rfl 41 (.tmp 40) rfl Q 1 rfl [.string t0, .string t1, .string t2] _ HQ.out.1 Tryz.underlying41 rfl infoTup0 ?_)
                  | (refine wpList_load_mid rfl 41 (.tmp 47) rfl Q 1 rfl [.string t0, .string t1, .string t2] _ HQ.out.1 Tryz.underlying41 rfl infoTup0 ?_))
                have hbel8 : Below B w w8 := HG.out.2.trans (HQ.out.2.2.1.to_below (B := B) (by have z1 := HE.out.1.size; have z2 := HW.out.2.2.2; have z3 := (HF.out.2.1.trans' HG.out.1).size; omega) (fun x h => by omega))
                have hS8 : StMem w8 s O U M MO MU F lm lo lu wm := HH.out.1.mod (Mod.of_below (HW.out.2.2.2.symm ▸ hbel8) (fun _ => False)) (fun _ _ h => h)
                refine (last_any hS8 (t0, t1, t2)).mono ?_
                rintro e w9 ⟨rfl, hb9⟩
                have m9 : Mod (fun _ => False) w8 w9 := Mod.of_below hb9 _
                have c := cell_of (i := 3) (m9.old hS8.hs id) rfl
                have hbel9 : Below B w w9 := hbel8.trans (hb9.mono (by have z1 := hbel8.size; have z2 := HW.out.2.2.2; omega))
                have HZ := Lib.hid (And.intro hbel9 m9)
                clear hbel8 hS8 hb9 m9 hbel9
                obtain ⟨L, hL⟩ : ∃ L, lastOf (aget (smc lm) (t0, t1, t2)) = L := ⟨_, rfl⟩
                rw [hL] at HE ⊢
                have HT := Lib.hid htin
                clear hL htin k1' k2' k3' k4' k6'
                by_cases hl1 : rev ≤ L
                · have eR : R = 70 := by
                    have z := HE.out.2.2.1
                    rw [if_neg (by decide), if_neg (by rw [HT.out]; decide), if_pos (.inl hl1)] at z
                    exact z.symm
                  go_wp2
                  go_ret
                  exact ⟨by rw [eR]; rfl, HZ.out.1⟩
                · by_cases hl2 : rev ≤ wm
                  · have eR : R = 70 := by
                      have z := HE.out.2.2.1
                      rw [if_neg (by decide), if_neg (by rw [HT.out]; decide), if_pos (.inr hl2)] at z
                      exact z.symm
                    go_wp2
                    go_ret
                    exact ⟨by rw [eR]; rfl, HZ.out.1⟩
                  · have eR : checkL (smc lm) wm rev (l ++ [(t0, t1, t2)]) (List.drop (t + 1) muts) = R := by
                      have z := HE.out.2.2.1
                      rw [if_neg (by decide), if_neg (by rw [HT.out]; decide), if_neg (by rintro (h | h) <;> omega)] at z
                      exact z
                    have HU := Lib.hid eR
                    clear eR
                    go_wp2
                    go_roundg (gk - 1)
                    case measure => have := HE.out.2.2.2.2.2.2; omega
                    case rel =>
                      obtain ⟨e1, e2, e3, e4, e5, e6, e7, e8⟩ := HE.out
                      exact ⟨t + 1, by omega, by go_num, HZ.out.1, by rw [e4]; exact (HQ.out.2.2.2 HT.out).mod HZ.out.2 id, by rw [e4]; exact HU.out⟩
          · have hq1 : (q == 0) = false := by simp [hq0]
            have eR : R = q := by
              have := HE.out.2.2.1
              rw [if_pos hq0] at this
              exact this.symm
            subst eR
            go_wp2
            go_ret
            exact ⟨rfl, HG.out.2⟩
    · have eR : R = 1 := by
        rw [← HH.out.2.2.2.2.2]
        unfold checkA maxRev
        rw [if_pos (by omega)]
      subst eR
      go_enter Tryz.func58, Tryz.ntmps58
      go_wp2
      go_ret
      exact ⟨rfl, Below.refl _ _⟩
  · have eR : R = 1 := by
      rw [← HH.out.2.2.2.2.2]
      unfold checkA maxRev
      rw [if_pos (by omega)]
    subst eR
    go_enter Tryz.func58, Tryz.ntmps58
    go_wp2
    go_ret
    exact ⟨rfl, Below.refl _ _⟩
end
end Go.Proofs.YtojjnfhgldjgbaaGreatDoor.Store
end
section
set_option linter.unusedVariables false
set_option linter.unusedSimpArgs false
namespace Go.Proofs.YtojjnfhgldjgbaaGreatDoor.Store
open Go.RowKit Go.Por Go.ChangeShapes Go.WideShapes Go.Proofs.YtojjnfhgldjgbaaGreatDoor.Watch
theorem cellsBool : Tryz.prog.cellsOf 4 = 1 := by kernel_rfl
theorem cellsStr : Tryz.prog.cellsOf 9 = 1 := by kernel_rfl
theorem cellsTup : Tryz.prog.cellsOf 41 = 3 := by kernel_rfl
theorem cellsMut : Tryz.prog.cellsOf 47 = 4 := by kernel_rfl
section
variable {H : Type} {enc : TypeId × Value → H} {w : World} {spare : Nat → Bool} {held : Bool}
set_option maxRecDepth 10000 in
theorem open_tup (fuel : Nat) (cs : List Value) (y : DataW H × List MemPlace) (h : DataW.trod enc Tryz.prog w 0 spare held fuel 41 cs = some y) : ∃ x, cs = tupC x ∧ TupOk x := by
  obtain ⟨xs, n, _, _, hlen, hxl, hf⟩ := DataW.trod_struct Tryz.underlying41 h
  rw [cellsTup] at hlen
  have g0 := hf 0 _ rfl
  have g1 := hf 1 _ rfl
  have g2 := hf 2 _ rfl
  have hxl' : xs.length = 3 := hxl
  clear hxl hf h
  match cs, hlen, xs, hxl' with
  | [v0, v1, v2], _, [y0, y1, y2], _ =>
    simp [cellsStr] at g0 g1 g2
    obtain ⟨a, ha, _, za⟩ := DataW.trod_string Tryz.underlying9 g0
    obtain ⟨b, hb, _, zb⟩ := DataW.trod_string Tryz.underlying9 g1
    obtain ⟨s, hs, _, zs⟩ := DataW.trod_string Tryz.underlying9 g2
    simp at ha hb hs
    subst ha hb hs
    exact ⟨(a, b, s), rfl, by unfold maxLen at za; exact za, by unfold maxLen at zb; exact zb, by unfold maxLen at zs; exact zs⟩
set_option maxRecDepth 10000 in
theorem open_mutC (fuel : Nat) (cs : List Value) (y : DataW H × List MemPlace) (h : DataW.trod enc Tryz.prog w 0 spare held fuel 47 cs = some y) : ∃ x, cs = mutC x ∧ TupOk x.2 := by
  obtain ⟨xs, n, _, _, hlen, hxl, hf⟩ := DataW.trod_struct Tryz.underlying47 h
  rw [cellsMut] at hlen
  have g0 := hf 0 _ rfl
  have g1 := hf 1 _ rfl
  have hxl' : xs.length = 2 := hxl
  clear hxl hf h
  match cs, hlen, xs, hxl' with
  | [v0, v1, v2, v3], _, [y0, y1], _ =>
    simp [cellsTup, cellsBool] at g0 g1
    obtain ⟨c, hc, _⟩ := DataW.trod_bool Tryz.underlying4 g0
    obtain ⟨⟨a, b, s⟩, ha, hok⟩ := open_tup _ _ _ g1
    simp [tupC] at ha hc
    obtain ⟨rfl, rfl, rfl⟩ := ha
    subst hc
    exact ⟨(c, a, b, s), rfl, hok⟩
end
end Go.Proofs.YtojjnfhgldjgbaaGreatDoor.Store
end
section
set_option linter.unusedVariables false
set_option linter.unusedSimpArgs false
namespace Go.Proofs.YtojjnfhgldjgbaaGreatDoor.Store
open Go.RowKit Go.Por Go.ChangeShapes Go.WideShapes Go.Proofs.YtojjnfhgldjgbaaGreatDoor.Watch

theorem bulk_one {H : Type} (d : DataW H) : 1 ≤ Rows.uptoBulk d := by
  cases d with
  | lit l => cases l <;> simp [Rows.uptoBulk]
  | nil => simp [Rows.uptoBulk]
  | ptr d => simp [Rows.uptoBulk]
  | slice elems spare => simp [Rows.uptoBulk]
  | agg parts => simp [Rows.uptoBulk]
  | iface t d => simp [Rows.uptoBulk]
  | map entries => simp [Rows.uptoBulk]
  | held h => simp [Rows.uptoBulk]
theorem bulk_part {H : Type} {d : DataW H} {l : List (DataW H)} (h : d ∈ l) : Rows.uptoBulk d ≤ Rows.uptoBulkAll l := by
  induction l with
  | nil => cases h
  | cons x r ih =>
    simp only [Rows.uptoBulkAll]
    rcases List.mem_cons.1 h with e | e
    · subst e; omega
    · have := ih e; omega
theorem bulk_len {H : Type} (l : List (DataW H)) : l.length ≤ Rows.uptoBulkAll l := by
  induction l with
  | nil => simp [Rows.uptoBulkAll]
  | cons x r ih => have := bulk_one x; simp only [Rows.uptoBulkAll, List.length_cons]; omega
theorem bulk_slice {H : Type} (elems spare : List (DataW H)) : elems.length ≤ Rows.uptoBulk (.slice elems spare) := by
  have h1 := bulk_len elems
  simp only [Rows.uptoBulk]
  omega
end Go.Proofs.YtojjnfhgldjgbaaGreatDoor.Store
end
section
set_option linter.unusedVariables false
set_option linter.unusedSimpArgs false
namespace Go.Proofs.YtojjnfhgldjgbaaGreatDoor.Store
open Go.RowKit Go.Por Go.Sort Go.Proofs.YtojjnfhgldjgbaaGreatDoor.Watch
def strC (s : ByteArray) : List Value := [.string s]
theorem strC_len (s : ByteArray) : (strC s).length = 1 := rfl
theorem strC_one (s : ByteArray) : ∀ u ∈ strC s, u.oneCell' = true := by
  intro u hu
  simp only [strC, List.mem_singleton] at hu
  subst hu
  rfl
def strL (x : List UInt8) : List Value := [encStr x]
theorem strL_len (x : List UInt8) : (strL x).length = 1 := rfl
/-- The texts in order. -/
def sortB (l : List ByteArray) : List ByteArray := ((l.map (fun s => s.data.toList)).mergeSort (fun x y => decide (x ≤ y))).map (fun x => ⟨x.toArray⟩)
theorem sortB_perm (l : List ByteArray) : (sortB l).Perm l := by
  unfold sortB
  have h := ((List.mergeSort_perm (l.map (fun s : ByteArray => s.data.toList)) (fun x y => decide (x ≤ y))).map (fun x : List UInt8 => (⟨x.toArray⟩ : ByteArray)))
  refine h.trans ?_
  rw [List.map_map]
  have e : (fun x : List UInt8 => (⟨x.toArray⟩ : ByteArray)) ∘ (fun s : ByteArray => s.data.toList) = id := by
    funext s
    rfl
  rw [e, List.map_id]
theorem own_str {w : World} {E : TypeId} {v : Value} {l : List ByteArray} : OwnS strC 1 w E v l ↔ OwnS strL 1 w E v (l.map (fun s => s.data.toList)) := by
  unfold OwnS
  rw [List.length_map, List.flatMap_map]
  exact Iff.rfl
theorem flat_one (d : Array (List UInt8)) (c : Array Value) : putCells encStr 0 d c = putCells id 0 (flatK strL 1 d) c := by
  unfold putCells
  apply Array.ext
  · simp
  · intro i h1 h2
    rw [Array.getElem_mapIdx, Array.getElem_mapIdx]
    have hz : (flatK strL 1 d).size = d.size := by rw [size_flatK, Nat.mul_one]
    by_cases h : 0 ≤ i ∧ i < 0 + d.size
    · rw [if_pos h, if_pos (by rw [hz]; exact h)]
      have h3 : i - 0 < d.size * 1 := by omega
      show encStr d[i - 0]! = (flatK strL 1 d)[i - 0]!
      rw [get_flatK strL 1 d _ h3, Nat.div_one, Nat.mod_one]
      rfl
    · rw [if_neg h, if_neg (by rw [hz]; exact h)]
theorem sort_strs {w : World} {v : Value} {l : List ByteArray} (h : OwnS strC 1 w 9 v l) (hl : l.length < 4611686018427387904) :
    Calls Tryz.prog 66 #[v] w fun e w' => e = .returned (.tuple #[]) ∧ OwnS strC 1 w' 9 v (sortB l) ∧ Mod (fun x => some x = v.ownBlock) w w' := by
  have h' := own_str.1 h
  rcases h.form with ⟨rfl, rfl⟩ | ⟨g, cap, rfl, hc1, hc2⟩
  · refine (Tryz.slices_Sort_string_none none 0 w).mono ?_
    rintro e w' ⟨he, rfl⟩
    exact ⟨he, by simpa [sortB] using h, Mod.refl _ _⟩
  · obtain ⟨m, hm⟩ : ∃ m, l.map (fun s : ByteArray => s.data.toList) = m := ⟨_, rfl⟩
    have hml : m.length = l.length := by rw [← hm, List.length_map]
    rw [hm] at h'
    have hH : Holds encStr w g 0 m.toArray := fun j hj => by
      have h1 := h'.holds strL_len j (by rw [size_flatK, Nat.mul_one]; exact hj)
      rw [get_flatK strL 1 m.toArray j (by rw [Nat.mul_one]; exact hj), Nat.div_one, Nat.mod_one] at h1
      exact h1
    have hcon := Tryz.slices_Sort_string g 0 cap m w hH h'.lt (by rw [hml]; exact hl)
    rw [hml] at hcon
    refine hcon.mono ?_
    rintro e w' ⟨he, n, os, rfl⟩
    have e1 : grow (putRow encStr (Sort.ahead w n) g 0 (m.mergeSort fun x y => decide (x ≤ y)).toArray) os = sortWorldK strL 1 w g 0 n (m.mergeSort fun x y => decide (x ≤ y)).toArray os := by
      unfold sortWorldK putRowK putRow
      congr 2
      funext c
      exact flat_one _ _
    rw [e1]
    have hso := h'.sorted strL_len (l' := m.mergeSort fun x y => decide (x ≤ y)) (List.mergeSort_perm _ _).length_eq n os
    refine ⟨he, own_str.2 ?_, hso.2.mono (fun x _ hx => by rw [show x = g from hx]; rfl)⟩
    have e2 : (sortB l).map (fun s : ByteArray => s.data.toList) = m.mergeSort fun x y => decide (x ≤ y) := by
      unfold sortB
      rw [List.map_map, hm]
      exact List.map_id' _
    rw [e2]
    exact hso.1
end Go.Proofs.YtojjnfhgldjgbaaGreatDoor.Store
end
section
set_option linter.unusedVariables false
set_option linter.unusedSimpArgs false
namespace Go.Proofs.YtojjnfhgldjgbaaGreatDoor.Store
open Go.RowKit Go.Por Go.Sort Go.Proofs.YtojjnfhgldjgbaaGreatDoor.Watch

set_option maxRecDepth 100000 in
set_option maxHeartbeats 800000 in
theorem askS_any (w : World) {kb : Nat} {rev : Int} (hk : w.cell? ⟨kb, 0, none⟩ = some (.int .i64 rev)) (hlt : kb < w.heap.size) (x : Span) :
    Calls Tryz.prog 91 #[.agg #[.int .i64 x.1, .int .i64 x.2], .pointer (some ⟨kb, 0, none⟩)] w fun e w' => e = .returned (.bool (hasS rev x)) ∧ Below w.heap.size w w' := by
  have hh : ∀ W : World, Calls Tryz.prog 92 #[.agg #[.int .i64 x.1, .int .i64 x.2], .int .i64 rev] W fun e w' => e = .returned (.bool (hasS rev x)) ∧ Below W.heap.size W w' := fun W => spanHas_any W x rev
  have HH := Lib.hid hh
  clear hh
  go_enter Tryz.func91, Tryz.ntmps91
  go_wp2_with fail
  refine (HH.out _).mono ?_
  rintro e w1 ⟨rfl, hb⟩
  have H1 := Lib.hid hb
  clear hb
  go_wp2
  go_ret
  refine ⟨rfl, ?_⟩
  refine ((Below.refl _ w).alloc (Nat.le_refl _) _).trans ((H1.out).mono ?_)
  rw [World.size_alloc]
  omega

set_option maxRecDepth 100000 in
set_option maxHeartbeats 800000 in
theorem indexS_any {w : World} {v : Value} {l : List Span} (h : OwnS spanC 2 w 119 v l) (hlen : l.length ≤ 1099511627776) {kb : Nat} {rev : Int} (hk : w.cell? ⟨kb, 0, none⟩ = some (.int .i64 rev)) (hlt : kb < w.heap.size) :
    Calls Tryz.prog 97 #[v, .func (.func 91) #[] #[.pointer (some ⟨kb, 0, none⟩)]] w fun e w' => ∃ i : Int, e = .returned (.int .i64 i) ∧ decide (0 ≤ i) = l.any (hasS rev) ∧ Below w.heap.size w w' := by
  obtain ⟨n, hn⟩ : ∃ n, l.length = n := ⟨_, rfl⟩
  obtain ⟨a, cap, rfl, hrow⟩ : ∃ a cap, v = .slice a n cap ∧ (0 < n → ∃ g, a = some ⟨g, 0, none⟩) := by
    rcases h.form with ⟨rfl, rfl⟩ | ⟨g, cap, rfl, _⟩
    · exact ⟨none, 0, by rw [← hn]; rfl, fun h => by rw [← hn] at h; simp at h⟩
    · exact ⟨_, cap, by rw [hn], fun _ => ⟨g, rfl⟩⟩
  rw [hn] at hlen
  have HH := Lib.hid (And.intro h (And.intro hrow hn))
  clear h hrow hn
  go_enter Tryz.func97, Tryz.ntmps97
  go_wp2
  go_loopg [8] n (fun g i wx => ∃ t : Nat, t + g = n ∧ i = .int .i64 (t : Int) ∧ (∀ j, j < t → ∀ y, l[j]? = some y → hasS rev y = false) ∧ Below w.heap.size w wx)
  case atStart => exact ⟨0, by omega, rfl, fun j hj => by omega, Below.refl _ _⟩
  case round =>
    obtain ⟨t, htg, rfl, hno, hbel⟩ := hrel
    by_cases hg : gk = 0
    · have hk0 : ¬ ((t : Int) < (n : Int)) := by omega
      have HE := Lib.hid (And.intro hno (And.intro hbel (show t = n by omega)))
      clear hno hbel htg hg
      go_wp2
      go_ret
      obtain ⟨hno, hbel, ht⟩ := HE.out
      refine ⟨-1, rfl, ?_, hbel⟩
      have h1 : l.any (hasS rev) = false := by
        rw [List.any_eq_false]
        intro x hx
        obtain ⟨j, hj⟩ := List.getElem?_of_mem hx
        have : j < l.length := by
          rcases Nat.lt_or_ge j l.length with h | h
          · exact h
          · simp [List.getElem?_eq_none h] at hj
        rw [hno j (by rw [HH.out.2.2] at this; omega) x hj]
        simp
      rw [h1]
      rfl
    · have ht : t < n := by omega
      obtain ⟨g, rfl⟩ := HH.out.2.1 (by omega)
      obtain ⟨x, hx⟩ : ∃ x, l[t]? = some x := ⟨_, List.getElem?_eq_getElem (by rw [HH.out.2.2]; exact ht)⟩
      have hgl := HH.out.1.lt
      have c0 : wr.cell? ⟨g, t * 2, none⟩ = some (.int .i64 x.1) := by
        rw [hbel.cell (p := ⟨g, t * 2, none⟩) hgl]; exact HH.out.1.cell spanC_len hx (j := 0) (by omega) rfl
      have c1 : wr.cell? ⟨g, t * 2 + 1, none⟩ = some (.int .i64 x.2) := by
        rw [hbel.cell (p := ⟨g, t * 2 + 1, none⟩) hgl]; exact HH.out.1.cell spanC_len hx (j := 1) (by omega) rfl
      have ck : wr.cell? ⟨kb, 0, none⟩ = some (.int .i64 rev) := by rw [hbel.cell (p := ⟨kb, 0, none⟩) hlt]; exact hk
      have hbs := hbel.size
      have hti : (t : Int) < (n : Int) := by omega
      have HE := Lib.hid (And.intro hno (And.intro hbel (And.intro htg hx)))
      clear hno hbel htg hg hx
      go_wp2_with fail
      refine (askS_any wr ck (by omega) x).mono ?_
      rintro e w1 ⟨rfl, hb1⟩
      obtain ⟨hno, hbel, htg, hx⟩ := HE.out
      have HF := Lib.hid (hbel.trans (hb1.mono hbs))
      clear hno hbel htg hx hb1
      cases hkx : hasS rev x with
      | true =>
        have HK := Lib.hid hkx
        clear hkx
        go_wp2
        go_ret
        obtain ⟨hno, hbel, htg, hx⟩ := HE.out
        refine ⟨(t : Int), rfl, ?_, HF.out⟩
        have h1 : l.any (hasS rev) = true := List.any_eq_true.2 ⟨x, List.mem_of_getElem? hx, HK.out⟩
        rw [h1]
        exact decide_eq_true (by omega)
      | false =>
        have HK := Lib.hid hkx
        clear hkx
        go_wp2
        go_roundg (gk - 1)
        case measure => have := HE.out.2.2.1; omega
        case rel =>
          obtain ⟨hno, hbel, htg, hx⟩ := HE.out
          refine ⟨t + 1, by omega, by go_num, fun j hj y hy => ?_, HF.out⟩
          by_cases hjt : j = t
          · subst hjt
            rw [hx] at hy
            cases hy
            exact HK.out
          · exact hno j (by omega) y hy
set_option maxRecDepth 100000 in
set_option maxHeartbeats 800000 in
theorem containsS_any {w : World} {v : Value} {l : List Span} (h : OwnS spanC 2 w 119 v l) (hlen : l.length ≤ 1099511627776) {kb : Nat} {rev : Int} (hk : w.cell? ⟨kb, 0, none⟩ = some (.int .i64 rev)) (hlt : kb < w.heap.size) :
    Calls Tryz.prog 90 #[v, .func (.func 91) #[] #[.pointer (some ⟨kb, 0, none⟩)]] w fun e w' => e = .returned (.bool (l.any (hasS rev))) ∧ Below w.heap.size w w' := by
  have HH := Lib.hid (indexS_any h hlen hk hlt)
  clear h hk
  go_enter Tryz.func90, Tryz.ntmps90
  go_wp2_with fail
  refine (HH.out).mono ?_
  rintro e w1 ⟨i, rfl, hi, hb⟩
  have H1 := Lib.hid (And.intro hi hb)
  clear hi hb
  go_wp2
  go_ret
  rw [← H1.out.1]
  exact ⟨rfl, H1.out.2⟩
section
variable {w : World} {s O U M MO MU : Nat} {F : Nat → Prop} {lm : List (Tup × (Value × List Span))} {lo : List (PairT × (Value × List Tup))} {lu : List (ByteArray × (Value × List Tup))} {wm : Int}
set_option maxRecDepth 100000 in
set_option maxHeartbeats 800000 in
theorem at_any (h : StMem w s O U M MO MU F lm lo lu wm) (t : Tup) (rev : Int) (hlen : (aget (smc lm) t).length ≤ 1099511627776) : Calls Tryz.prog 62 #[.pointer (some ⟨s, 0, none⟩), .agg (tupC t).toArray, .int .i64 rev] w fun e w' => e = .returned (.bool ((aget (smc lm) t).any (hasS rev))) ∧ Below w.heap.size w w' := by
  obtain ⟨t0, t1, t2⟩ := t
  obtain ⟨K, hK⟩ : ∃ K, w.heap.size = K := ⟨_, rfl⟩
  obtain ⟨v, hv⟩ : ∃ v, slv lm (t0, t1, t2) = v := ⟨_, rfl⟩
  obtain ⟨L, hL⟩ : ∃ L, aget (smc lm) (t0, t1, t2) = L := ⟨_, rfl⟩
  obtain ⟨W1, hW1⟩ : ∃ W1, (w.alloc (.cells #[.string t0, .string t1, .string t2] 41)).alloc (.cells #[.int .i64 rev] 2) = W1 := ⟨_, rfl⟩
  have m1 : Mod (fun _ => False) w W1 := by rw [← hW1]; exact ((Mod.refl _ w).alloc _).alloc _
  have hs1 : W1.heap.size = K + 2 := by rw [← hW1, World.size_alloc, World.size_alloc, hK]
  have hb1 : Below K w W1 := by rw [← hW1, ← hK]; exact ((Below.refl _ w).alloc (Nat.le_refl _) _).alloc (by simp) _
  have hT1 : W1.heap[K]? = some (.cells #[.string t0, .string t1, .string t2] 41 (0, 0)) := by rw [← hW1, ← hK]; exact block_alloc (block_new w _) _
  have hR1 : W1.heap[K + 1]? = some (.cells #[.int .i64 rev] 2 (0, 0)) := by
    have h1 := block_new (w.alloc (.cells #[.string t0, .string t1, .string t2] 41)) (.cells #[.int .i64 rev] 2)
    rw [World.size_alloc, hK] at h1
    rw [← hW1]
    exact h1
  have hlook : ∀ W : World, SlMap W M encT spanC 2 119 F lm → (Instr.lookup 104 (.map (some M)) (.agg #[.string t0, .string t1, .string t2]) false).run Tryz.prog W = .ok v W := fun W hW => by
    rw [← hv]
    exact hW.look keyTup Tryz.underlying104 (zeroSpans W) (t0, t1, t2)
  have hown : ∀ W : World, SlMap W M encT spanC 2 119 F lm → OwnS spanC 2 W 119 v L := fun W hW => by
    rw [← hv, ← hL]
    exact (hW.at (t0, t1, t2)).1
  rw [hL] at hlen ⊢
  have HH := Lib.hid (And.intro h (And.intro hlook (And.intro m1 (And.intro hb1 (And.intro hT1 (And.intro hR1 (And.intro (h.m.mod m1 id (fun _ _ _ _ h => h)) (And.intro hown (And.intro hlen (And.intro hK hs1))))))))))
  clear h hlook m1 hb1 hT1 hR1 hown hlen hv hL hs1
  unfold tupC
  go_enter Tryz.func62, Tryz.ntmps62
  go_upto_region 1 with fail
  clear hW1
  refine wp_region_held_drew (S := fun w' => Mod (fun _ => False) W1 w') (by kernel_rfl) ((Mod.refl _ W1).drew) (fun hS => ?_)
  refine takeD (i := 0) rfl (by kernel_rfl) (by kernel_rfl) (by kernel_rfl) (fun _ _ _ h => h) hS (Or.inl ⟨by rfl, fun w hSw => by go_simp; rfl⟩) ?_
  simp only [Act.put, List.setIfInBounds_toArray, List.set_cons_zero, List.set_cons_succ]
  refine takeD (i := 1) rfl (by kernel_rfl) (by kernel_rfl) (by kernel_rfl) (fun _ _ _ h => h) hS (Or.inl ⟨by rfl, fun w hSw => by go_simp; rfl⟩) ?_
  simp only [Act.put, List.setIfInBounds_toArray, List.set_cons_zero, List.set_cons_succ]
  refine takeD (i := 2) rfl (by kernel_rfl) (by kernel_rfl) (by kernel_rfl) (fun _ _ _ h => h) hS (Or.inl ⟨by rfl, fun w hSw => by go_simp; rfl⟩) ?_
  simp only [Act.put, List.setIfInBounds_toArray, List.set_cons_zero, List.set_cons_succ]
  refine takeD (i := 3) (v := (.map (some M))) rfl (by kernel_rfl) (by kernel_rfl) (by kernel_rfl) (fun _ _ _ h => h) hS (Or.inl ⟨by rfl, fun w hSw => by have c := cell_of (i := 0) (hSw.old (HH.out.2.2.1.old HH.out.1.hs id) id) rfl; go_simp⟩) ?_
  simp only [Act.put, List.setIfInBounds_toArray, List.set_cons_zero, List.set_cons_succ]
  refine takeD (i := 4) rfl (by kernel_rfl) (by kernel_rfl) (by kernel_rfl) (fun _ _ _ h => h) hS (yieldsIf_load_mid (by rfl) 41 (.tmp 4) rfl K 0 rfl ([.string t0, .string t1, .string t2]) _ (fun w hSw => row_range (hSw.old HH.out.2.2.2.2.1 id)) Tryz.underlying41 rfl infoTup0) ?_
  simp only [Act.put, List.setIfInBounds_toArray, List.set_cons_zero, List.set_cons_succ]
  refine takeD (i := 5) (v := v) rfl (by kernel_rfl) (by kernel_rfl) (by kernel_rfl) (fun _ _ _ h => h) hS (Or.inl ⟨by rfl, fun w hSw => by have c := HH.out.2.1 w (HH.out.2.2.2.2.2.2.1.mod hSw id (fun _ _ _ _ h => h)); go_simp⟩) ?_
  simp only [Act.put, List.setIfInBounds_toArray, List.set_cons_zero, List.set_cons_succ]
  refine takeD (i := 6) rfl (by kernel_rfl) (by kernel_rfl) (by kernel_rfl) (fun _ _ _ h => h) hS (Or.inl ⟨by rfl, fun w hSw => by go_simp; rfl⟩) ?_
  simp only [Act.put, List.setIfInBounds_toArray, List.set_cons_zero, List.set_cons_succ]
  refine wpAnyH_ready (rs := [7]) (by kernel_rfl) (by simp) ?_
  refine consD (i := 7) rfl (fun K' hK' => ?_) AllReadyH.nil
  rw [if_pos (by rfl)]
  go_simp
  have hm := HH.out.2.2.2.2.2.2.1.mod hS id (fun _ _ _ _ h => h)
  have hsz := hS.size
  have hs1 := HH.out.2.2.2.2.2.2.2.2.2.2
  refine (containsS_any (HH.out.2.2.2.2.2.2.2.1 _ hm) HH.out.2.2.2.2.2.2.2.2.1 (kb := K + 1) (rev := rev) (cell_of (i := 0) (hS.old HH.out.2.2.2.2.2.1 id) rfl) (by omega)).mono ?_
  rintro e w3 ⟨rfl, hb3⟩
  dsimp only
  refine hK'.out _ _ (hS.trans' (Mod.of_below hb3 (fun _ => False))) (fun hS' => ?_)
  clear hK' K'
  refine takeD (i := 8) rfl (by kernel_rfl) (by kernel_rfl) (by kernel_rfl) (fun _ _ _ h => h) hS' (Or.inl ⟨by rfl, fun w hSw => by go_simp; rfl⟩) ?_
  simp only [Act.put, List.setIfInBounds_toArray, List.set_cons_zero, List.set_cons_succ]
  refine wpAnyH_done (by kernel_rfl) ?_ _
  have H3 := Lib.hid (And.intro hS hb3)
  clear hS hS' hb3 hm hsz hs1
  simp only [Exit.then]
  go_wp2
  go_ret
  refine ⟨rfl, ?_⟩
  rw [HH.out.2.2.2.2.2.2.2.2.2.1]
  have h1 : Below K W1 W1.drew := (Below.refl K W1).drew
  refine HH.out.2.2.2.1.trans (h1.trans (H3.out.2.mono ?_))
  have h2 := h1.size
  have h3 := HH.out.2.2.2.2.2.2.2.2.2.2
  omega
end
end Go.Proofs.YtojjnfhgldjgbaaGreatDoor.Store
end
section
set_option linter.unusedVariables false
set_option linter.unusedSimpArgs false
namespace Go.Proofs.YtojjnfhgldjgbaaGreatDoor.Store
open Go.RowKit Go.Por Go.Sort Go.Proofs.YtojjnfhgldjgbaaGreatDoor.Watch
section
variable {w : World} {s O U M MO MU : Nat} {F : Nat → Prop} {lm : List (Tup × (Value × List Span))} {lo : List (PairT × (Value × List Tup))} {lu : List (ByteArray × (Value × List Tup))} {wm : Int}
theorem StMem.below {w' : World} (h : StMem w s O U M MO MU F lm lo lu wm) (hb : Below w.heap.size w w') : StMem w' s O U M MO MU F lm lo lu wm := h.mod (Mod.of_below hb (fun _ => False)) (fun _ _ h => h)
set_option maxRecDepth 100000 in
set_option maxHeartbeats 800000 in
theorem has_mem (h : StMem w s O U M MO MU F lm lo lu wm) (t : Tup) (rev : Int) (hlen : (aget (smc lm) t).length ≤ 1099511627776) : Calls Tryz.prog 27 #[.pointer (some ⟨s, 0, none⟩), .agg (tupC t).toArray, .int .i64 rev] w fun e w' => e = .returned (.tuple #[.bool (decide (readA wm rev = 0) && atA (smc lm) t rev), .int .i64 (readA wm rev)]) ∧ Below w.heap.size w w' := by
  obtain ⟨t0, t1, t2⟩ := t
  have HH := Lib.hid (And.intro h hlen)
  clear h hlen
  have har : ∀ W, StMem W s O U M MO MU F lm lo lu wm → Calls Tryz.prog 61 #[.pointer (some ⟨s, 0, none⟩), .int .i64 rev] W fun e w' => e = .returned (.int .i64 (readA wm rev)) ∧ w' = W := fun W hW => readable_any hW rev
  have hat : ∀ W, StMem W s O U M MO MU F lm lo lu wm → Calls Tryz.prog 62 #[.pointer (some ⟨s, 0, none⟩), .agg #[.string t0, .string t1, .string t2], .int .i64 rev] W fun e w' => e = .returned (.bool (atA (smc lm) (t0, t1, t2) rev)) ∧ Below W.heap.size W w' := fun W hW => at_any hW (t0, t1, t2) rev HH.out.2
  obtain ⟨q, hq⟩ : ∃ q, readA wm rev = q := ⟨_, rfl⟩
  obtain ⟨b, hb⟩ : ∃ b, atA (smc lm) (t0, t1, t2) rev = b := ⟨_, rfl⟩
  rw [hq] at har ⊢
  rw [hb] at hat ⊢
  have HC := Lib.hid (And.intro har hat)
  clear har hat hq hb
  unfold tupC
  go_enter Tryz.func27, Tryz.ntmps27
  go_wp2_with fail
  have hb1 : Below w.heap.size w (w.alloc (.cells #[.string t0, .string t1, .string t2] 41)) := (Below.refl _ w).alloc (Nat.le_refl _) _
  have hm1 := HH.out.1.below hb1
  refine (HC.out.1 _ hm1).mono ?_
  rintro e w1 ⟨rfl, rfl⟩
  have H1 := Lib.hid (And.intro hb1 hm1)
  clear hb1 hm1
  by_cases h0 : q = 0
  · subst h0
    go_wp2_with fail
    refine (HC.out.2 _ H1.out.2).mono ?_
    rintro e w2 ⟨rfl, hb2⟩
    have H2 := Lib.hid hb2
    clear hb2
    go_wp2
    go_ret2
    refine ⟨?_, H1.out.1.trans (H2.out.mono (by rw [World.size_alloc]; omega))⟩
    simp
  · have h1 : (q == 0) = false := by simp [h0]
    go_wp2
    go_ret2
    refine ⟨?_, H1.out.1⟩
    simp [h0]
end
end Go.Proofs.YtojjnfhgldjgbaaGreatDoor.Store
end
