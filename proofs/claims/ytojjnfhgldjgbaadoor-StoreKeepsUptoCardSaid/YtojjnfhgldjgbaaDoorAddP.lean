/- add. -/
import Derived.Test.YtojjnfhgldjgbaaDoorStMemA
set_option linter.unusedVariables false
set_option linter.unusedSimpArgs false
namespace Go.Proofs.YtojjnfhgldjgbaaDoor.Store
open Go.RowKit Go.Por Go.Sort Go.Proofs.YtojjnfhgldjgbaaDoor.Watch
section
variable {w : World} {s O U M MO MU : Nat} {F : Nat → Prop} {lm : List (Tup × (Value × List Span))} {lo : List (PairT × (Value × List Tup))} {lu : List (ByteArray × (Value × List Tup))} {wm : Int}
/-- No list is longer than N. -/
structure Short (N : Nat) (lm : List (Tup × (Value × List Span))) (lo : List (PairT × (Value × List Tup))) (lu : List (ByteArray × (Value × List Tup))) : Prop where
  m : ∀ k, (aget (smc lm) k).length ≤ N
  o : ∀ k, (aget (smc lo) k).length ≤ N
  u : ∀ k, (aget (smc lu) k).length ≤ N
set_option maxRecDepth 100000 in
set_option maxHeartbeats 4000000 in
theorem add_mem (h : StMem w s O U M MO MU F lm lo lu wm) {N : Nat} (hN : Short N lm lo lu) (hN2 : N ≤ 1099511627776) (t : Tup) (x : Span) : Calls Tryd.prog 17 #[.pointer (some ⟨s, 0, none⟩), .agg (tupC t).toArray, .agg (spanC x).toArray] w fun e w' => e = .returned (.tuple #[]) ∧
    ∃ lm' lo' lu', StMem w' s O U M MO MU (grew F w w') lm' lo' lu' wm ∧ smc lm' = gput (smc lm) t (aget (smc lm) t ++ [x]) ∧ smc lo' = putC (smc lo) (t.1, t.2.1) t ∧ smc lu' = putC (smc lu) t.2.2 t ∧ Mod F w w' := by
  obtain ⟨t0, t1, t2⟩ := t
  obtain ⟨x0, x1⟩ := x
  obtain ⟨K, hK⟩ : ∃ K, w.heap.size = K := ⟨_, rfl⟩
  obtain ⟨v, hv⟩ : ∃ v, slv lm (t0, t1, t2) = v := ⟨_, rfl⟩
  obtain ⟨W1, hW1⟩ : ∃ W1, (w.alloc (.cells #[.string t0, .string t1, .string t2] 27)).alloc (.cells #[.int .i64 x0, .int .i64 x1] 56) = W1 := ⟨_, rfl⟩
  have m1 : Mod (fun _ => False) w W1 := by rw [← hW1]; exact ((Mod.refl _ w).alloc _).alloc _
  have hs1 : W1.heap.size = K + 2 := by rw [← hW1, World.size_alloc, World.size_alloc, hK]
  have hT1 : W1.heap[K]? = some (.cells #[.string t0, .string t1, .string t2] 27 (0, 0)) := by rw [← hW1, ← hK]; exact block_alloc (block_new w _) _
  have hR1 : W1.heap[K + 1]? = some (.cells #[.int .i64 x0, .int .i64 x1] 56 (0, 0)) := by
    have h1 := block_new (w.alloc (.cells #[.string t0, .string t1, .string t2] 27)) (.cells #[.int .i64 x0, .int .i64 x1] 56)
    rw [World.size_alloc, hK] at h1
    rw [← hW1]
    exact h1
  have h1 : StMem W1 s O U M MO MU F lm lo lu wm := h.mod m1 (fun _ _ h => h)
  have hlen := hN.m (t0, t1, t2)
  obtain ⟨st, w3, hr3, hm3, v', w5, w6, hr5, hm5, hr6, hm6, hs6⟩ := SlMap.pushE (tm := 45) (h1.m.tight.mod (((Mod.refl (fun _ => False) W1).drew).alloc (.cells #[.int .i64 x0, .int .i64 x1] 56)) id (fun _ _ _ _ h => h)) elemSpan keyTup Tryd.underlying45 (zeroSpans _) (t0, t1, t2) (x0, x1) 53 (block_new W1.drew (.cells #[.int .i64 x0, .int .i64 x1] 56)) (by omega) (by unfold maxLen; omega)
  have e2 : W1.drew.heap.size = K + 2 := hs1
  have m2 : Mod (fun _ => False) W1 (W1.drew.alloc (.cells #[.int .i64 x0, .int .i64 x1] 56)) := ((Mod.refl _ W1).drew).alloc _
  have s2 : (W1.drew.alloc (.cells #[.int .i64 x0, .int .i64 x1] 56)).heap.size = K + 3 := by rw [World.size_alloc, e2]
  obtain ⟨n1, n2, n3⟩ := h1.nm hT1
  obtain ⟨n4, n5, n6⟩ := h1.nm hR1
  obtain ⟨n7, n8, n9⟩ := h1.nm h1.hs
  have fT : ¬ blk lm K := fun hb => by have := h.m.blk_lt K hb; omega
  have fR : ¬ blk lm (K + 1) := fun hb => by have := h.m.blk_lt (K + 1) hb; omega
  have fs : ¬ blk lm s := h1.m.blk_ne h1.hs (by decide)
  have q3 := hm3.old (m2.old h1.hs id) n7
  have q3' := hm3.old (m2.old hT1 id) n1
  have q3'' := hm3.old (m2.old hR1 id) n4
  have q5 := hm5.old q3 (fun e => fs (slv_blk e))
  have q5' := hm5.old q3' (fun e => fT (slv_blk e))
  have q5'' := hm5.old q3'' (fun e => fR (slv_blk e))
  have q6 := hm6.old q5 n7
  have q6' := hm6.old q5' n1
  have q6'' := hm6.old q5'' n4
  have hr3' : (Instr.mapEntry 45 (.map (some M)) (.agg #[.string t0, .string t1, .string t2])).run Tryd.prog (W1.alloc (.cells #[.int .i64 x0, .int .i64 x1] 56)).drew = .ok (.tuple #[v, goInt st]) w3 := by rw [← hv]; exact hr3
  rw [hv] at hr5
  have hgo : goInt (st : Int) = .int .i64 (st : Int) := rfl
  have m16 : Mod (fun b => b = M ∨ blk lm b) w w6 := by
    have a1 : Mod (fun b => b = M ∨ blk lm b) w (W1.drew.alloc (.cells #[.int .i64 x0, .int .i64 x1] 56)) := (m1.trans' m2).mono (fun _ _ h => h.elim)
    exact ((a1.trans hm3 (fun b hb => .inl (.inl hb))).trans hm5 (fun b hb => .inl (.inr (slv_blk hb)))).trans hm6 (fun b hb => .inl (.inl hb))
  have hs6' : SlMap w6 M encT spanC 2 56 (fun b => blk lm b ∨ (w.heap.size ≤ b ∧ b < w6.heap.size)) (gput lm (t0, t1, t2) (v', aget (smc lm) (t0, t1, t2) ++ [(x0, x1)])) := hs6.weaken (fun b hb => by
    have := hm6.size
    rcases hb with hb | hb
    · exact .inl hb
    · exact .inr ⟨by omega, by omega⟩)
  have hA := h.setM m16 hs6'
  have HH := Lib.hid (And.intro h1.hs (And.intro hT1 hR1))
  have HB := Lib.hid (And.intro (And.intro q3 (And.intro q3' q3'')) (And.intro (And.intro q5 (And.intro q5' q5'')) (And.intro q6 (And.intro q6' q6''))))
  have HA := Lib.hid (And.intro hA (And.intro m16 (And.intro hN (And.intro hN2 (And.intro hK (And.intro h.lt (And.intro h.o.blk_lt (And.intro h.u.blk_lt (And.intro (fun b (hb : b = M ∨ blk lm b) => hb.elim (fun e => e ▸ h.fM) (h.m.blk_F b)) (And.intro (fun b (hb : b = MO ∨ blk lo b) => hb.elim (fun e => e ▸ h.fMO) (h.o.blk_F b)) (fun b (hb : b = MU ∨ blk lu b) => hb.elim (fun e => e ▸ h.fMU) (h.u.blk_F b))))))))))))
  have HR5 := Lib.hid hr5
  have HR6 := Lib.hid hr6
  clear h hN hlen m1 hT1 hR1 h1 hm3 hm5 hm6 hs6 hr3 hr5 hr6 e2 m2 s2 n1 n2 n3 n4 n5 n6 n7 n8 n9 fT fR fs q3 q3' q3'' q5 q5' q5'' q6 q6' q6'' m16 hs6' hA hs1 hN2
  unfold tupC spanC
  go_enter Tryd.func17, Tryd.ntmps17
  go_upto_region 1 with fail
  clear hW1 hK
  refine wp_region_held_drew (S := fun w' => w'.heap[s]? = some (.cells #[.map (some M), .pointer (some ⟨O, 0, none⟩), .pointer (some ⟨U, 0, none⟩), .int .i64 wm] 52 (0, 0)) ∧ w'.heap[K]? = some (.cells #[.string t0, .string t1, .string t2] 27 (0, 0)) ∧ w'.heap[K + 1]? = some (.cells #[.int .i64 x0, .int .i64 x1] 56 (0, 0))) (by kernel_rfl) HH.out (fun hS => ?_)
  refine takeD (i := 0) rfl (by kernel_rfl) (by kernel_rfl) (by kernel_rfl) (fun _ _ _ h => h) hS (Or.inl ⟨by rfl, fun w hSw => by go_simp; rfl⟩) ?_
  simp only [Act.put, List.setIfInBounds_toArray, List.set_cons_zero, List.set_cons_succ]
  refine takeD (i := 1) rfl (by kernel_rfl) (by kernel_rfl) (by kernel_rfl) (fun _ _ _ h => h) hS (Or.inl ⟨by rfl, fun w hSw => by go_simp; rfl⟩) ?_
  simp only [Act.put, List.setIfInBounds_toArray, List.set_cons_zero, List.set_cons_succ]
  refine takeD (i := 2) rfl (by kernel_rfl) (by kernel_rfl) (by kernel_rfl) (fun _ _ _ h => h) hS (Or.inl ⟨by rfl, fun w hSw => by go_simp; rfl⟩) ?_
  simp only [Act.put, List.setIfInBounds_toArray, List.set_cons_zero, List.set_cons_succ]
  refine takeD (i := 3) (v := (.map (some M))) rfl (by kernel_rfl) (by kernel_rfl) (by kernel_rfl) (fun _ _ _ h => h) hS (Or.inl ⟨by rfl, fun w hSw => by have c := cell_of (i := 0) hSw.1 rfl; go_simp⟩) ?_
  simp only [Act.put, List.setIfInBounds_toArray, List.set_cons_zero, List.set_cons_succ]
  refine takeD (i := 4) rfl (by kernel_rfl) (by kernel_rfl) (by kernel_rfl) (fun _ _ _ h => h) hS (yieldsIf_load_mid (by rfl) 27 (.tmp 4) rfl K 0 rfl ([.string t0, .string t1, .string t2]) _ (fun w hSw => row_range hSw.2.1) Tryd.underlying27 rfl infoTup0) ?_
  simp only [Act.put, List.setIfInBounds_toArray, List.set_cons_zero, List.set_cons_succ]
  refine takeD (i := 5) rfl (by kernel_rfl) (by kernel_rfl) (by kernel_rfl) (fun _ _ _ h => h) hS (yieldsIf_load_mid (by rfl) 56 (.tmp 5) rfl (K + 1) 0 rfl ([.int .i64 x0, .int .i64 x1]) _ (fun w hSw => row_range hSw.2.2) Tryd.underlying56 rfl infoSpan) ?_
  simp only [Act.put, List.setIfInBounds_toArray, List.set_cons_zero, List.set_cons_succ]
  refine wpAnyH_ready (rs := [6]) (by kernel_rfl) (by simp) ?_
  refine consD (i := 6) rfl (fun K' hK' => ?_) AllReadyH.nil
  rw [if_pos (by rfl)]
  go_simp
  refine hK'.out _ _ ⟨block_alloc hS.1 _, block_alloc hS.2.1 _, block_alloc hS.2.2 _⟩ (fun hS => ?_)
  clear hK' K'
  refine wpAnyH_ready (rs := [7]) (by kernel_rfl) (by simp) ?_
  refine consD (i := 7) rfl (fun K' hK' => ?_) AllReadyH.nil
  rw [if_pos (by rfl)]
  go_simp
  clear hr3'
  refine hK'.out _ _ HB.out.1 (fun hS => ?_)
  clear hK' K'
  refine takeD (i := 8) (v := v) rfl (by kernel_rfl) (by kernel_rfl) (by kernel_rfl) (fun _ _ _ h => h) hS (Or.inl ⟨by rfl, fun w hSw => by go_simp⟩) ?_
  simp only [Act.put, List.setIfInBounds_toArray, List.set_cons_zero, List.set_cons_succ]
  refine takeD (i := 10) (v := (.int .i64 (st : Int))) rfl (by kernel_rfl) (by kernel_rfl) (by kernel_rfl) (fun _ _ _ h => h) hS (Or.inl ⟨by rfl, fun w hSw => by go_simp⟩) ?_
  simp only [Act.put, List.setIfInBounds_toArray, List.set_cons_zero, List.set_cons_succ]
  refine wpAnyH_ready (rs := [9]) (by kernel_rfl) (by simp) ?_
  refine consD (i := 9) rfl (fun K' hK' => ?_) AllReadyH.nil
  refine step_append_run rfl (.tmp 11) (.tmp 13) 53 rfl _ _ _ _ rfl rfl HR5.out ?_
  refine hK'.out _ _ HB.out.2.1 (fun hS => ?_)
  clear hK' K'
  refine wpAnyH_ready (rs := [11]) (by kernel_rfl) (by simp) ?_
  refine consD (i := 11) rfl (fun K' hK' => ?_) AllReadyH.nil
  rw [if_pos (by rfl)]
  have hr6' : (Instr.entryStore 45 (.map (some M)) (.int .i64 (st : Int)) v').run Tryd.prog w5 = .ok () w6 := HR6.out
  go_simp
  clear hr6'
  refine hK'.out _ _ HB.out.2.2 (fun hS => ?_)
  clear hK' K' hS
  refine wpAnyH_done (by kernel_rfl) ?_ _
  simp only [Exit.then]
  go_upto_region 2 with fail
  clear HR5 HR6 hgo
  obtain ⟨lm', hlm⟩ : ∃ lm', gput lm (t0, t1, t2) (v', aget (smc lm) (t0, t1, t2) ++ [(x0, x1)]) = lm' := ⟨_, rfl⟩
  have hlm2 : smc lm' = gput (smc lm) (t0, t1, t2) (aget (smc lm) (t0, t1, t2) ++ [(x0, x1)]) := by rw [← hlm, smc_gput]
  rw [hlm] at HA
  have HL := Lib.hid hlm2
  clear hlm hlm2 hv
  refine wp_region_held_drew (S := fun w' => w'.heap[s]? = some (.cells #[.map (some M), .pointer (some ⟨O, 0, none⟩), .pointer (some ⟨U, 0, none⟩), .int .i64 wm] 52 (0, 0)) ∧ w'.heap[K]? = some (.cells #[.string t0, .string t1, .string t2] 27 (0, 0)) ∧ w'.heap[K + 1]? = some (.cells #[.int .i64 x0, .int .i64 x1] 56 (0, 0))) (by kernel_rfl) HB.out.2.2 (fun hS => ?_)
  refine takeD (i := 0) rfl (by kernel_rfl) (by kernel_rfl) (by kernel_rfl) (fun _ _ _ h => h) hS (Or.inl ⟨by rfl, fun w hSw => by go_simp; rfl⟩) ?_
  simp only [Act.put, List.setIfInBounds_toArray, List.set_cons_zero, List.set_cons_succ]
  refine takeD (i := 1) rfl (by kernel_rfl) (by kernel_rfl) (by kernel_rfl) (fun _ _ _ h => h) hS (Or.inl ⟨by rfl, fun w hSw => by go_simp; rfl⟩) ?_
  simp only [Act.put, List.setIfInBounds_toArray, List.set_cons_zero, List.set_cons_succ]
  refine takeD (i := 2) rfl (by kernel_rfl) (by kernel_rfl) (by kernel_rfl) (fun _ _ _ h => h) hS (Or.inl ⟨by rfl, fun w hSw => by go_simp; rfl⟩) ?_
  simp only [Act.put, List.setIfInBounds_toArray, List.set_cons_zero, List.set_cons_succ]
  refine takeD (i := 3) (v := (.pointer (some ⟨O, 0, none⟩))) rfl (by kernel_rfl) (by kernel_rfl) (by kernel_rfl) (fun _ _ _ h => h) hS (Or.inl ⟨by rfl, fun w hSw => by have c := cell_of (i := 1) hSw.1 rfl; go_simp⟩) ?_
  simp only [Act.put, List.setIfInBounds_toArray, List.set_cons_zero, List.set_cons_succ]
  refine takeD (i := 4) rfl (by kernel_rfl) (by kernel_rfl) (by kernel_rfl) (fun _ _ _ h => h) hS (Or.inl ⟨by rfl, fun w hSw => by go_simp; rfl⟩) ?_
  simp only [Act.put, List.setIfInBounds_toArray, List.set_cons_zero, List.set_cons_succ]
  refine takeD (i := 5) (v := (.string t0)) rfl (by kernel_rfl) (by kernel_rfl) (by kernel_rfl) (fun _ _ _ h => h) hS (Or.inl ⟨by rfl, fun w hSw => by have c := cell_of (i := 0) hSw.2.1 rfl; go_simp⟩) ?_
  simp only [Act.put, List.setIfInBounds_toArray, List.set_cons_zero, List.set_cons_succ]
  refine takeD (i := 6) rfl (by kernel_rfl) (by kernel_rfl) (by kernel_rfl) (fun _ _ _ h => h) hS (Or.inl ⟨by rfl, fun w hSw => by go_simp; rfl⟩) ?_
  simp only [Act.put, List.setIfInBounds_toArray, List.set_cons_zero, List.set_cons_succ]
  refine takeD (i := 7) (v := (.string t1)) rfl (by kernel_rfl) (by kernel_rfl) (by kernel_rfl) (fun _ _ _ h => h) hS (Or.inl ⟨by rfl, fun w hSw => by have c := cell_of (i := 1) hSw.2.1 rfl; go_simp⟩) ?_
  simp only [Act.put, List.setIfInBounds_toArray, List.set_cons_zero, List.set_cons_succ]
  refine takeD (i := 8) rfl (by kernel_rfl) (by kernel_rfl) (by kernel_rfl) (fun _ _ _ h => h) hS (Or.inl ⟨by rfl, fun w hSw => by go_simp; rfl⟩) ?_
  simp only [Act.put, List.setIfInBounds_toArray, List.set_cons_zero, List.set_cons_succ]
  refine takeD (i := 9) rfl (by kernel_rfl) (by kernel_rfl) (by kernel_rfl) (fun _ _ _ h => h) hS (yieldsIf_load_mid (by rfl) 27 (.tmp 4) rfl K 0 rfl ([.string t0, .string t1, .string t2]) _ (fun w hSw => row_range hSw.2.1) Tryd.underlying27 rfl infoTup0) ?_
  simp only [Act.put, List.setIfInBounds_toArray, List.set_cons_zero, List.set_cons_succ]
  refine wpAnyH_ready (rs := [10]) (by kernel_rfl) (by simp) ?_
  refine consD (i := 10) rfl (fun K' hK' => ?_) AllReadyH.nil
  rw [if_pos (by rfl)]
  go_simp
  have hA6 : StMem w6.drew s O U M MO MU (grew F w w6) lm' lo lu wm := HA.out.1.mod ((Mod.refl (fun _ => False) w6).drew) (fun _ _ h => h)
  refine (putO hA6.hO hA6.o.tight hA6.o.blk_lt (t0, t1) (t0, t1, t2) (Nat.le_trans (HA.out.2.2.1.o _) HA.out.2.2.2.1)).mono ?_
  rintro e w7 ⟨rfl, lo', hs7, hlo, hm7⟩
  have hm7' : Mod (fun b => b = MO ∨ blk lo b) w6.drew w7 := hm7.mono (fun b _ hb => hb.imp id slv_blk)
  have hA7 := hA6.setO hm7' hs7
  have k1 := hm7'.old hS.1 (fun hb => hb.elim (hA6.nm hS.1).2.1 (fun hb => hA6.o.blk_ne hS.1 (by decide) hb))
  have kK : ∀ b, blk lo b → b < K := fun b hb => by rw [← HA.out.2.2.2.2.1]; exact HA.out.2.2.2.2.2.2.1 b hb
  have k2 := hm7'.old hS.2.1 (fun hb => hb.elim (hA6.nm hS.2.1).2.1 (fun hb => by have := kK _ hb; omega))
  have k3 := hm7'.old hS.2.2 (fun hb => hb.elim (hA6.nm hS.2.2).2.1 (fun hb => by have := kK _ hb; omega))
  dsimp only
  refine hK'.out _ _ ⟨k1, k2, k3⟩ (fun hS' => ?_)
  clear hK' K' hS'
  have H7 := Lib.hid (And.intro hA7 (And.intro hlo (And.intro hm7' (And.intro k1 (And.intro k2 k3)))))
  clear hA6 hs7 hlo hm7 hm7' hA7 k1 k2 k3 kK hS
  refine wpAnyH_done (by kernel_rfl) ?_ _
  simp only [Exit.then]
  go_upto_region 3 with fail
  refine wp_region_held_drew (S := fun w' => w'.heap[s]? = some (.cells #[.map (some M), .pointer (some ⟨O, 0, none⟩), .pointer (some ⟨U, 0, none⟩), .int .i64 wm] 52 (0, 0)) ∧ w'.heap[K]? = some (.cells #[.string t0, .string t1, .string t2] 27 (0, 0)) ∧ w'.heap[K + 1]? = some (.cells #[.int .i64 x0, .int .i64 x1] 56 (0, 0))) (by kernel_rfl) H7.out.2.2.2 (fun hS => ?_)
  refine takeD (i := 0) rfl (by kernel_rfl) (by kernel_rfl) (by kernel_rfl) (fun _ _ _ h => h) hS (Or.inl ⟨by rfl, fun w hSw => by go_simp; rfl⟩) ?_
  simp only [Act.put, List.setIfInBounds_toArray, List.set_cons_zero, List.set_cons_succ]
  refine takeD (i := 1) rfl (by kernel_rfl) (by kernel_rfl) (by kernel_rfl) (fun _ _ _ h => h) hS (Or.inl ⟨by rfl, fun w hSw => by go_simp; rfl⟩) ?_
  simp only [Act.put, List.setIfInBounds_toArray, List.set_cons_zero, List.set_cons_succ]
  refine takeD (i := 2) rfl (by kernel_rfl) (by kernel_rfl) (by kernel_rfl) (fun _ _ _ h => h) hS (Or.inl ⟨by rfl, fun w hSw => by go_simp; rfl⟩) ?_
  simp only [Act.put, List.setIfInBounds_toArray, List.set_cons_zero, List.set_cons_succ]
  refine takeD (i := 3) (v := (.pointer (some ⟨U, 0, none⟩))) rfl (by kernel_rfl) (by kernel_rfl) (by kernel_rfl) (fun _ _ _ h => h) hS (Or.inl ⟨by rfl, fun w hSw => by have c := cell_of (i := 2) hSw.1 rfl; go_simp⟩) ?_
  simp only [Act.put, List.setIfInBounds_toArray, List.set_cons_zero, List.set_cons_succ]
  refine takeD (i := 4) rfl (by kernel_rfl) (by kernel_rfl) (by kernel_rfl) (fun _ _ _ h => h) hS (Or.inl ⟨by rfl, fun w hSw => by go_simp; rfl⟩) ?_
  simp only [Act.put, List.setIfInBounds_toArray, List.set_cons_zero, List.set_cons_succ]
  refine takeD (i := 5) (v := (.string t2)) rfl (by kernel_rfl) (by kernel_rfl) (by kernel_rfl) (fun _ _ _ h => h) hS (Or.inl ⟨by rfl, fun w hSw => by have c := cell_of (i := 2) hSw.2.1 rfl; go_simp⟩) ?_
  simp only [Act.put, List.setIfInBounds_toArray, List.set_cons_zero, List.set_cons_succ]
  refine takeD (i := 6) rfl (by kernel_rfl) (by kernel_rfl) (by kernel_rfl) (fun _ _ _ h => h) hS (yieldsIf_load_mid (by rfl) 27 (.tmp 4) rfl K 0 rfl ([.string t0, .string t1, .string t2]) _ (fun w hSw => row_range hSw.2.1) Tryd.underlying27 rfl infoTup0) ?_
  simp only [Act.put, List.setIfInBounds_toArray, List.set_cons_zero, List.set_cons_succ]
  refine wpAnyH_ready (rs := [7]) (by kernel_rfl) (by simp) ?_
  refine consD (i := 7) rfl (fun K' hK' => ?_) AllReadyH.nil
  rw [if_pos (by rfl)]
  go_simp
  have hA8 : StMem w7.drew s O U M MO MU (grew (grew F w w6) w6.drew w7) lm' lo' lu wm := H7.out.1.mod ((Mod.refl (fun _ => False) w7).drew) (fun _ _ h => h)
  refine (putU hA8.hU hA8.u.tight hA8.u.blk_lt t2 (t0, t1, t2) (Nat.le_trans (HA.out.2.2.1.u _) HA.out.2.2.2.1)).mono ?_
  rintro e w8 ⟨rfl, lu', hs8, hlu, hm8⟩
  have hm8' : Mod (fun b => b = MU ∨ blk lu b) w7.drew w8 := hm8.mono (fun b _ hb => hb.imp id slv_blk)
  have hA9 := hA8.setU hm8' hs8
  have k1 := hm8'.old hS.1 (fun hb => hb.elim (hA8.nm hS.1).2.2 (fun hb => hA8.u.blk_ne hS.1 (by decide) hb))
  have kK : ∀ b, blk lu b → b < K := fun b hb => by rw [← HA.out.2.2.2.2.1]; exact HA.out.2.2.2.2.2.2.2.1 b hb
  have k2 := hm8'.old hS.2.1 (fun hb => hb.elim (hA8.nm hS.2.1).2.2 (fun hb => by have := kK _ hb; omega))
  have k3 := hm8'.old hS.2.2 (fun hb => hb.elim (hA8.nm hS.2.2).2.2 (fun hb => by have := kK _ hb; omega))
  dsimp only
  refine hK'.out _ _ ⟨k1, k2, k3⟩ (fun hS' => ?_)
  clear hK' K' hS'
  have H8 := Lib.hid (And.intro hA9 (And.intro hlu hm8'))
  clear hA8 hs8 hlu hm8 hm8' hA9 k1 k2 k3 kK hS
  refine wpAnyH_done (by kernel_rfl) ?_ _
  (try simp only [Exit.inBlock, Exit.then])
  refine bodyPost_end (results_none rfl _ _ _) rfl ?_
  obtain ⟨a1, a2, a3, a4, a5, a6, a7, a8, a9, a10, a11⟩ := HA.out
  obtain ⟨b1, b2, b3, _⟩ := H7.out
  obtain ⟨c1, c2, c3⟩ := H8.out
  have z1 := a2.size
  have z2 := b3.size
  have z3 := c3.size
  have y1 : w6.drew.heap.size = w6.heap.size := rfl
  have y2 : w7.drew.heap.size = w7.heap.size := rfl
  have d1 : Mod F w w6 := a2.mono (fun b _ hb => a9 b hb)
  have d2 : Mod F w w7 := d1.drew.trans b3 (fun b hb => .inl (a10 b hb))
  have d3 : Mod F w w8 := d2.drew.trans c3 (fun b hb => .inl (a11 b hb))
  refine ⟨rfl, lm', lo', lu', c1.weaken (fun b hb => ?_) (fun b hb => ?_), HL.out, b2, c2, d3⟩
  · rcases hb with (((hb | hb) | hb) | hb)
    · exact .inl hb
    · exact .inr ⟨by omega, by omega⟩
    · exact .inr ⟨by omega, by omega⟩
    · exact .inr ⟨by omega, by omega⟩
  · rcases hb with hb | hb
    · have := a6 b hb
      omega
    · exact hb.2
end
end Go.Proofs.YtojjnfhgldjgbaaDoor.Store
