/- WatchNet, where what came in is of bulk at most 1048576: what leads from some tuples to others does so in a store, and n: part 9 of 32: what it leans on. -/
import Derived.Test.YtojjnfhgldjgbaaGreatDoorRows
import Derived.OpenShut
import Derived.SizedLaws
import Derived.Test.YtojjnfhgldjgbaaGreatDoorNtA
import Derived.Test.YtojjnfhgldjgbaaGreatDoorNtB
import Derived.Test.YtojjnfhgldjgbaaGreatDoorNtC
import Derived.Test.YtojjnfhgldjgbaaGreatDoorNtD
import Derived.Test.YtojjnfhgldjgbaaGreatDoorNtE
import Derived.Test.YtojjnfhgldjgbaaGreatDoorNtF
import Derived.Test.YtojjnfhgldjgbaaGreatDoorNtG
import Derived.Test.YtojjnfhgldjgbaaGreatDoorNtH
section
set_option linter.unusedVariables false
set_option linter.unusedSimpArgs false
namespace Go.Proofs.YtojjnfhgldjgbaaGreatDoor.Store
open Go.RowKit Go.Por Go.Sort Go.Proofs.YtojjnfhgldjgbaaGreatDoor.Watch
section
variable {w : World} {s O U M MO MU : Nat} {F : Nat → Prop} {lm : List (Tup × (Value × List Span))} {lo : List (PairT × (Value × List Tup))} {lu : List (ByteArray × (Value × List Tup))} {wm : Int}
/-- No list is longer than N. -/
structure Short (N : Nat) (lm : List (Tup × (Value × List Span))) (lo : List (PairT × (Value × List Tup))) (lu : List (ByteArray × (Value × List Tup))) : Prop where
  m : ∀ k, (aget (smc lm) k).length ≤ N
  o : ∀ k, (aget (smc lo) k).length ≤ N
  u : ∀ k, (aget (smc lu) k).length ≤ N
set_option maxRecDepth 100000 in
set_option maxHeartbeats 4000000 in
theorem add_mem (h : StMem w s O U M MO MU F lm lo lu wm) {N : Nat} (hN : Short N lm lo lu) (hN2 : N ≤ 1099511627776) (t : Tup) (x : Span) : Calls Tryz.prog 60 #[.pointer (some ⟨s, 0, none⟩), .agg (tupC t).toArray, .agg (spanC x).toArray] w fun e w' => e = .returned (.tuple #[]) ∧
    ∃ lm' lo' lu', StMem w' s O U M MO MU (grew F w w') lm' lo' lu' wm ∧ smc lm' = gput (smc lm) t (aget (smc lm) t ++ [x]) ∧ smc lo' = putC (smc lo) (t.1, t.2.1) t ∧ smc lu' = putC (smc lu) t.2.2 t ∧ Mod F w w' := by
  obtain ⟨t0, t1, t2⟩ := t
  obtain ⟨x0, x1⟩ := x
  obtain ⟨K, hK⟩ : ∃ K, w.heap.size = K := ⟨_, rfl⟩
  obtain ⟨v, hv⟩ : ∃ v, slv lm (t0, t1, t2) = v := ⟨_, rfl⟩
  obtain ⟨W1, hW1⟩ : ∃ W1, (w.alloc (.cells #[.string t0, .string t1, .string t2] 41)).alloc (.cells #[.int .i64 x0, .int .i64 x1] 119) = W1 := ⟨_, rfl⟩
  have m1 : Mod (fun _ => False) w W1 := by rw [← hW1]; exact ((Mod.refl _ w).alloc _).alloc _
  have hs1 : W1.heap.size = K + 2 := by rw [← hW1, World.size_alloc, World.size_alloc, hK]
  have hT1 : W1.heap[K]? = some (.cells #[.string t0, .string t1, .string t2] 41 (0, 0)) := by rw [← hW1, ← hK]; exact block_alloc (block_new w _) _
  have hR1 : W1.heap[K + 1]? = some (.cells #[.int .i64 x0, .int .i64 x1] 119 (0, 0)) := by
    have h1 := block_new (w.alloc (.cells #[.string t0, .string t1, .string t2] 41)) (.cells #[.int .i64 x0, .int .i64 x1] 119)
    rw [World.size_alloc, hK] at h1
    rw [← hW1]
    exact h1
  have h1 : StMem W1 s O U M MO MU F lm lo lu wm := h.mod m1 (fun _ _ h => h)
  have hlen := hN.m (t0, t1, t2)
  obtain ⟨st, w3, hr3, hm3, v', w5, w6, hr5, hm5, hr6, hm6, hs6⟩ := SlMap.pushE (tm := 104) (h1.m.tight.mod (((Mod.refl (fun _ => False) W1).drew).alloc (.cells #[.int .i64 x0, .int .i64 x1] 119)) id (fun _ _ _ _ h => h)) elemSpan keyTup Tryz.underlying104 (zeroSpans _) (t0, t1, t2) (x0, x1) 116 (block_new W1.drew (.cells #[.int .i64 x0, .int .i64 x1] 119)) (by omega) (by unfold maxLen; omega)
  have e2 : W1.drew.heap.size = K + 2 := hs1
  have m2 : Mod (fun _ => False) W1 (W1.drew.alloc (.cells #[.int .i64 x0, .int .i64 x1] 119)) := ((Mod.refl _ W1).drew).alloc _
  have s2 : (W1.drew.alloc (.cells #[.int .i64 x0, .int .i64 x1] 119)).heap.size = K + 3 := by rw [World.size_alloc, e2]
  obtain ⟨n1, n2, n3⟩ := h1.nm hT1
  obtain ⟨n4, n5, n6⟩ := h1.nm hR1
  obtain ⟨n7, n8, n9⟩ := h1.nm h1.hs
  have fT : ¬ blk lm K := fun hb => by have := h.m.blk_lt K hb; omega
  have fR : ¬ blk lm (K + 1) := fun hb => by have := h.m.blk_lt (K + 1) hb; omega
  have fs : ¬ blk lm s := h1.m.blk_ne h1.hs (by decide)
  have q3 := hm3.old (m2.old h1.hs id) n7
  have q3' := hm3.old (m2.old hT1 id) n1
  have q3'' := hm3.old (m2.old hR1 id) n4
  have q5 := hm5.old q3 (fun e => fs (slv_blk e))
  have q5' := hm5.old q3' (fun e => fT (slv_blk e))
  have q5'' := hm5.old q3'' (fun e => fR (slv_blk e))
  have q6 := hm6.old q5 n7
  have q6' := hm6.old q5' n1
  have q6'' := hm6.old q5'' n4
  have hr3' : (Instr.mapEntry 104 (.map (some M)) (.agg #[.string t0, .string t1, .string t2])).run Tryz.prog (W1.alloc (.cells #[.int .i64 x0, .int .i64 x1] 119)).drew = .ok (.tuple #[v, goInt st]) w3 := by rw [← hv]; exact hr3
  rw [hv] at hr5
  have hgo : goInt (st : Int) = .int .i64 (st : Int) := rfl
  have m16 : Mod (fun b => b = M ∨ blk lm b) w w6 := by
    have a1 : Mod (fun b => b = M ∨ blk lm b) w (W1.drew.alloc (.cells #[.int .i64 x0, .int .i64 x1] 119)) := (m1.trans' m2).mono (fun _ _ h => h.elim)
    exact ((a1.trans hm3 (fun b hb => .inl (.inl hb))).trans hm5 (fun b hb => .inl (.inr (slv_blk hb)))).trans hm6 (fun b hb => .inl (.inl hb))
  have hs6' : SlMap w6 M encT spanC 2 119 (fun b => blk lm b ∨ (w.heap.size ≤ b ∧ b < w6.heap.size)) (gput lm (t0, t1, t2) (v', aget (smc lm) (t0, t1, t2) ++ [(x0, x1)])) := hs6.weaken (fun b hb => by
    have := hm6.size
    rcases hb with hb | hb
    · exact .inl hb
    · exact .inr ⟨by omega, by omega⟩)
  have hA := h.setM m16 hs6'
  have HH := Lib.hid (And.intro h1.hs (And.intro hT1 hR1))
  have HB := Lib.hid (And.intro (And.intro q3 (And.intro q3' q3'')) (And.intro (And.intro q5 (And.intro q5' q5'')) (And.intro q6 (And.intro q6' q6''))))
  have HA := Lib.hid (And.intro hA (And.intro m16 (And.intro hN (And.intro hN2 (And.intro hK (And.intro h.lt (And.intro h.o.blk_lt (And.intro h.u.blk_lt (And.intro (fun b (hb : b = M ∨ blk lm b) => hb.elim (fun e => e ▸ h.fM) (h.m.blk_F b)) (And.intro (fun b (hb : b = MO ∨ blk lo b) => hb.elim (fun e => e ▸ h.fMO) (h.o.blk_F b)) (fun b (hb : b = MU ∨ blk lu b) => hb.elim (fun e => e ▸ h.fMU) (h.u.blk_F b))))))))))))
  have HR5 := Lib.hid hr5
  have HR6 := Lib.hid hr6
  clear h hN hlen m1 hT1 hR1 h1 hm3 hm5 hm6 hs6 hr3 hr5 hr6 e2 m2 s2 n1 n2 n3 n4 n5 n6 n7 n8 n9 fT fR fs q3 q3' q3'' q5 q5' q5'' q6 q6' q6'' m16 hs6' hA hs1 hN2
  unfold tupC spanC
  go_enter Tryz.func60, Tryz.ntmps60
  go_upto_region 1 with fail
  clear hW1 hK
  refine wp_region_held_drew (S := fun w' => w'.heap[s]? = some (.cells #[.map (some M), .pointer (some ⟨O, 0, none⟩), .pointer (some ⟨U, 0, none⟩), .int .i64 wm] 111 (0, 0)) ∧ w'.heap[K]? = some (.cells #[.string t0, .string t1, .string t2] 41 (0, 0)) ∧ w'.heap[K + 1]? = some (.cells #[.int .i64 x0, .int .i64 x1] 119 (0, 0))) (by kernel_rfl) HH.out (fun hS => ?_)
  refine takeD (i := 0) rfl (by kernel_rfl) (by kernel_rfl) (by kernel_rfl) (fun _ _ _ h => h) hS (Or.inl ⟨by rfl, fun w hSw => by go_simp; rfl⟩) ?_
  simp only [Act.put, List.setIfInBounds_toArray, List.set_cons_zero, List.set_cons_succ]
  refine takeD (i := 1) rfl (by kernel_rfl) (by kernel_rfl) (by kernel_rfl) (fun _ _ _ h => h) hS (Or.inl ⟨by rfl, fun w hSw => by go_simp; rfl⟩) ?_
  simp only [Act.put, List.setIfInBounds_toArray, List.set_cons_zero, List.set_cons_succ]
  refine takeD (i := 2) rfl (by kernel_rfl) (by kernel_rfl) (by kernel_rfl) (fun _ _ _ h => h) hS (Or.inl ⟨by rfl, fun w hSw => by go_simp; rfl⟩) ?_
  simp only [Act.put, List.setIfInBounds_toArray, List.set_cons_zero, List.set_cons_succ]
  refine takeD (i := 3) (v := (.map (some M))) rfl (by kernel_rfl) (by kernel_rfl) (by kernel_rfl) (fun _ _ _ h => h) hS (Or.inl ⟨by rfl, fun w hSw => by have c := cell_of (i := 0) hSw.1 rfl; go_simp⟩) ?_
  simp only [Act.put, List.setIfInBounds_toArray, List.set_cons_zero, List.set_cons_succ]
  refine takeD (i := 4) rfl (by kernel_rfl) (by kernel_rfl) (by kernel_rfl) (fun _ _ _ h => h) hS (yieldsIf_load_mid (by rfl) 41 (.tmp 4) rfl K 0 rfl ([.string t0, .string t1, .string t2]) _ (fun w hSw => row_range hSw.2.1) Tryz.underlying41 rfl infoTup0) ?_
  simp only [Act.put, List.setIfInBounds_toArray, List.set_cons_zero, List.set_cons_succ]
  refine takeD (i := 5) rfl (by kernel_rfl) (by kernel_rfl) (by kernel_rfl) (fun _ _ _ h => h) hS (yieldsIf_load_mid (by rfl) 119 (.tmp 5) rfl (K + 1) 0 rfl ([.int .i64 x0, .int .i64 x1]) _ (fun w hSw => row_range hSw.2.2) Tryz.underlying119 rfl infoSpan) ?_
  simp only [Act.put, List.setIfInBounds_toArray, List.set_cons_zero, List.set_cons_succ]
  refine wpAnyH_ready (rs := [6]) (by kernel_rfl) (by simp) ?_
  refine consD (i := 6) rfl (fun K' hK' => ?_) AllReadyH.nil
  rw [if_pos (by rfl)]
  go_simp
  refine hK'.out _ _ ⟨block_alloc hS.1 _, block_alloc hS.2.1 _, block_alloc hS.2.2 _⟩ (fun hS => ?_)
  clear hK' K'
  refine wpAnyH_ready (rs := [7]) (by kernel_rfl) (by simp) ?_
  refine consD (i := 7) rfl (fun K' hK' => ?_) AllReadyH.nil
  rw [if_pos (by rfl)]
  go_simp
  clear hr3'
  refine hK'.out _ _ HB.out.1 (fun hS => ?_)
  clear hK' K'
  refine takeD (i := 8) (v := v) rfl (by kernel_rfl) (by kernel_rfl) (by kernel_rfl) (fun _ _ _ h => h) hS (Or.inl ⟨by rfl, fun w hSw => by go_simp⟩) ?_
  simp only [Act.put, List.setIfInBounds_toArray, List.set_cons_zero, List.set_cons_succ]
  refine takeD (i := 10) (v := (.int .i64 (st : Int))) rfl (by kernel_rfl) (by kernel_rfl) (by kernel_rfl) (fun _ _ _ h => h) hS (Or.inl ⟨by rfl, fun w hSw => by go_simp⟩) ?_
  simp only [Act.put, List.setIfInBounds_toArray, List.set_cons_zero, List.set_cons_succ]
  refine wpAnyH_ready (rs := [9]) (by kernel_rfl) (by simp) ?_
  refine consD (i := 9) rfl (fun K' hK' => ?_) AllReadyH.nil
  refine step_append_run rfl (.tmp 11) (.tmp 13) 116 rfl _ _ _ _ rfl rfl HR5.out ?_
  refine hK'.out _ _ HB.out.2.1 (fun hS => ?_)
  clear hK' K'
  refine wpAnyH_ready (rs := [11]) (by kernel_rfl) (by simp) ?_
  refine consD (i := 11) rfl (fun K' hK' => ?_) AllReadyH.nil
  rw [if_pos (by rfl)]
  have hr6' : (Instr.entryStore 104 (.map (some M)) (.int .i64 (st : Int)) v').run Tryz.prog w5 = .ok () w6 := HR6.out
  go_simp
  clear hr6'
  refine hK'.out _ _ HB.out.2.2 (fun hS => ?_)
  clear hK' K' hS
  refine wpAnyH_done (by kernel_rfl) ?_ _
  simp only [Exit.then]
  go_upto_region 2 with fail
  clear HR5 HR6 hgo
  obtain ⟨lm', hlm⟩ : ∃ lm', gput lm (t0, t1, t2) (v', aget (smc lm) (t0, t1, t2) ++ [(x0, x1)]) = lm' := ⟨_, rfl⟩
  have hlm2 : smc lm' = gput (smc lm) (t0, t1, t2) (aget (smc lm) (t0, t1, t2) ++ [(x0, x1)]) := by rw [← hlm, smc_gput]
  rw [hlm] at HA
  have HL := Lib.hid hlm2
  clear hlm hlm2 hv
  refine wp_region_held_drew (S := fun w' => w'.heap[s]? = some (.cells #[.map (some M), .pointer (some ⟨O, 0, none⟩), .pointer (some ⟨U, 0, none⟩), .int .i64 wm] 111 (0, 0)) ∧ w'.heap[K]? = some (.cells #[.string t0, .string t1, .string t2] 41 (0, 0)) ∧ w'.heap[K + 1]? = some (.cells #[.int .i64 x0, .int .i64 x1] 119 (0, 0))) (by kernel_rfl) HB.out.2.2 (fun hS => ?_)
  refine takeD (i := 0) rfl (by kernel_rfl) (by kernel_rfl) (by kernel_rfl) (fun _ _ _ h => h) hS (Or.inl ⟨by rfl, fun w hSw => by go_simp; rfl⟩) ?_
  simp only [Act.put, List.setIfInBounds_toArray, List.set_cons_zero, List.set_cons_succ]
  refine takeD (i := 1) rfl (by kernel_rfl) (by kernel_rfl) (by kernel_rfl) (fun _ _ _ h => h) hS (Or.inl ⟨by rfl, fun w hSw => by go_simp; rfl⟩) ?_
  simp only [Act.put, List.setIfInBounds_toArray, List.set_cons_zero, List.set_cons_succ]
  refine takeD (i := 2) rfl (by kernel_rfl) (by kernel_rfl) (by kernel_rfl) (fun _ _ _ h => h) hS (Or.inl ⟨by rfl, fun w hSw => by go_simp; rfl⟩) ?_
  simp only [Act.put, List.setIfInBounds_toArray, List.set_cons_zero, List.set_cons_succ]
  refine takeD (i := 3) (v := (.pointer (some ⟨O, 0, none⟩))) rfl (by kernel_rfl) (by kernel_rfl) (by kernel_rfl) (fun _ _ _ h => h) hS (Or.inl ⟨by rfl, fun w hSw => by have c := cell_of (i := 1) hSw.1 rfl; go_simp⟩) ?_
  simp only [Act.put, List.setIfInBounds_toArray, List.set_cons_zero, List.set_cons_succ]
  refine takeD (i := 4) rfl (by kernel_rfl) (by kernel_rfl) (by kernel_rfl) (fun _ _ _ h => h) hS (Or.inl ⟨by rfl, fun w hSw => by go_simp; rfl⟩) ?_
  simp only [Act.put, List.setIfInBounds_toArray, List.set_cons_zero, List.set_cons_succ]
  refine takeD (i := 5) (v := (.string t0)) rfl (by kernel_rfl) (by kernel_rfl) (by kernel_rfl) (fun _ _ _ h => h) hS (Or.inl ⟨by rfl, fun w hSw => by have c := cell_of (i := 0) hSw.2.1 rfl; go_simp⟩) ?_
  simp only [Act.put, List.setIfInBounds_toArray, List.set_cons_zero, List.set_cons_succ]
  refine takeD (i := 6) rfl (by kernel_rfl) (by kernel_rfl) (by kernel_rfl) (fun _ _ _ h => h) hS (Or.inl ⟨by rfl, fun w hSw => by go_simp; rfl⟩) ?_
  simp only [Act.put, List.setIfInBounds_toArray, List.set_cons_zero, List.set_cons_succ]
  refine takeD (i := 7) (v := (.string t1)) rfl (by kernel_rfl) (by kernel_rfl) (by kernel_rfl) (fun _ _ _ h => h) hS (Or.inl ⟨by rfl, fun w hSw => by have c := cell_of (i := 1) hSw.2.1 rfl; go_simp⟩) ?_
  simp only [Act.put, List.setIfInBounds_toArray, List.set_cons_zero, List.set_cons_succ]
  refine takeD (i := 8) rfl (by kernel_rfl) (by kernel_rfl) (by kernel_rfl) (fun _ _ _ h => h) hS (Or.inl ⟨by rfl, fun w hSw => by go_simp; rfl⟩) ?_
  simp only [Act.put, List.setIfInBounds_toArray, List.set_cons_zero, List.set_cons_succ]
  refine takeD (i := 9) rfl (by kernel_rfl) (by kernel_rfl) (by kernel_rfl) (fun _ _ _ h => h) hS (yieldsIf_load_mid (by rfl) 41 (.tmp 4) rfl K 0 rfl ([.string t0, .string t1, .string t2]) _ (fun w hSw => row_range hSw.2.1) Tryz.underlying41 rfl infoTup0) ?_
  simp only [Act.put, List.setIfInBounds_toArray, List.set_cons_zero, List.set_cons_succ]
  refine wpAnyH_ready (rs := [10]) (by kernel_rfl) (by simp) ?_
  refine consD (i := 10) rfl (fun K' hK' => ?_) AllReadyH.nil
  rw [if_pos (by rfl)]
  go_simp
  have hA6 : StMem w6.drew s O U M MO MU (grew F w w6) lm' lo lu wm := HA.out.1.mod ((Mod.refl (fun _ => False) w6).drew) (fun _ _ h => h)
  refine (putO hA6.hO hA6.o.tight hA6.o.blk_lt (t0, t1) (t0, t1, t2) (Nat.le_trans (HA.out.2.2.1.o _) HA.out.2.2.2.1)).mono ?_
  rintro e w7 ⟨rfl, lo', hs7, hlo, hm7⟩
  have hm7' : Mod (fun b => b = MO ∨ blk lo b) w6.drew w7 := hm7.mono (fun b _ hb => hb.imp id slv_blk)
  have hA7 := hA6.setO hm7' hs7
  have k1 := hm7'.old hS.1 (fun hb => hb.elim (hA6.nm hS.1).2.1 (fun hb => hA6.o.blk_ne hS.1 (by decide) hb))
  have kK : ∀ b, blk lo b → b < K := fun b hb => by rw [← HA.out.2.2.2.2.1]; exact HA.out.2.2.2.2.2.2.1 b hb
  have k2 := hm7'.old hS.2.1 (fun hb => hb.elim (hA6.nm hS.2.1).2.1 (fun hb => by have := kK _ hb; omega))
  have k3 := hm7'.old hS.2.2 (fun hb => hb.elim (hA6.nm hS.2.2).2.1 (fun hb => by have := kK _ hb; omega))
  dsimp only
  refine hK'.out _ _ ⟨k1, k2, k3⟩ (fun hS' => ?_)
  clear hK' K' hS'
  have H7 := Lib.hid (And.intro hA7 (And.intro hlo (And.intro hm7' (And.intro k1 (And.intro k2 k3)))))
  clear hA6 hs7 hlo hm7 hm7' hA7 k1 k2 k3 kK hS
  refine wpAnyH_done (by kernel_rfl) ?_ _
  simp only [Exit.then]
  go_upto_region 3 with fail
  refine wp_region_held_drew (S := fun w' => w'.heap[s]? = some (.cells #[.map (some M), .pointer (some ⟨O, 0, none⟩), .pointer (some ⟨U, 0, none⟩), .int .i64 wm] 111 (0, 0)) ∧ w'.heap[K]? = some (.cells #[.string t0, .string t1, .string t2] 41 (0, 0)) ∧ w'.heap[K + 1]? = some (.cells #[.int .i64 x0, .int .i64 x1] 119 (0, 0))) (by kernel_rfl) H7.out.2.2.2 (fun hS => ?_)
  refine takeD (i := 0) rfl (by kernel_rfl) (by kernel_rfl) (by kernel_rfl) (fun _ _ _ h => h) hS (Or.inl ⟨by rfl, fun w hSw => by go_simp; rfl⟩) ?_
  simp only [Act.put, List.setIfInBounds_toArray, List.set_cons_zero, List.set_cons_succ]
  refine takeD (i := 1) rfl (by kernel_rfl) (by kernel_rfl) (by kernel_rfl) (fun _ _ _ h => h) hS (Or.inl ⟨by rfl, fun w hSw => by go_simp; rfl⟩) ?_
  simp only [Act.put, List.setIfInBounds_toArray, List.set_cons_zero, List.set_cons_succ]
  refine takeD (i := 2) rfl (by kernel_rfl) (by kernel_rfl) (by kernel_rfl) (fun _ _ _ h => h) hS (Or.inl ⟨by rfl, fun w hSw => by go_simp; rfl⟩) ?_
  simp only [Act.put, List.setIfInBounds_toArray, List.set_cons_zero, List.set_cons_succ]
  refine takeD (i := 3) (v := (.pointer (some ⟨U, 0, none⟩))) rfl (by kernel_rfl) (by kernel_rfl) (by kernel_rfl) (fun _ _ _ h => h) hS (Or.inl ⟨by rfl, fun w hSw => by have c := cell_of (i := 2) hSw.1 rfl; go_simp⟩) ?_
  simp only [Act.put, List.setIfInBounds_toArray, List.set_cons_zero, List.set_cons_succ]
  refine takeD (i := 4) rfl (by kernel_rfl) (by kernel_rfl) (by kernel_rfl) (fun _ _ _ h => h) hS (Or.inl ⟨by rfl, fun w hSw => by go_simp; rfl⟩) ?_
  simp only [Act.put, List.setIfInBounds_toArray, List.set_cons_zero, List.set_cons_succ]
  refine takeD (i := 5) (v := (.string t2)) rfl (by kernel_rfl) (by kernel_rfl) (by kernel_rfl) (fun _ _ _ h => h) hS (Or.inl ⟨by rfl, fun w hSw => by have c := cell_of (i := 2) hSw.2.1 rfl; go_simp⟩) ?_
  simp only [Act.put, List.setIfInBounds_toArray, List.set_cons_zero, List.set_cons_succ]
  refine takeD (i := 6) rfl (by kernel_rfl) (by kernel_rfl) (by kernel_rfl) (fun _ _ _ h => h) hS (yieldsIf_load_mid (by rfl) 41 (.tmp 4) rfl K 0 rfl ([.string t0, .string t1, .string t2]) _ (fun w hSw => row_range hSw.2.1) Tryz.underlying41 rfl infoTup0) ?_
  simp only [Act.put, List.setIfInBounds_toArray, List.set_cons_zero, List.set_cons_succ]
  refine wpAnyH_ready (rs := [7]) (by kernel_rfl) (by simp) ?_
  refine consD (i := 7) rfl (fun K' hK' => ?_) AllReadyH.nil
  rw [if_pos (by rfl)]
  go_simp
  have hA8 : StMem w7.drew s O U M MO MU (grew (grew F w w6) w6.drew w7) lm' lo' lu wm := H7.out.1.mod ((Mod.refl (fun _ => False) w7).drew) (fun _ _ h => h)
  refine (putU hA8.hU hA8.u.tight hA8.u.blk_lt t2 (t0, t1, t2) (Nat.le_trans (HA.out.2.2.1.u _) HA.out.2.2.2.1)).mono ?_
  rintro e w8 ⟨rfl, lu', hs8, hlu, hm8⟩
  have hm8' : Mod (fun b => b = MU ∨ blk lu b) w7.drew w8 := hm8.mono (fun b _ hb => hb.imp id slv_blk)
  have hA9 := hA8.setU hm8' hs8
  have k1 := hm8'.old hS.1 (fun hb => hb.elim (hA8.nm hS.1).2.2 (fun hb => hA8.u.blk_ne hS.1 (by decide) hb))
  have kK : ∀ b, blk lu b → b < K := fun b hb => by rw [← HA.out.2.2.2.2.1]; exact HA.out.2.2.2.2.2.2.2.1 b hb
  have k2 := hm8'.old hS.2.1 (fun hb => hb.elim (hA8.nm hS.2.1).2.2 (fun hb => by have := kK _ hb; omega))
  have k3 := hm8'.old hS.2.2 (fun hb => hb.elim (hA8.nm hS.2.2).2.2 (fun hb => by have := kK _ hb; omega))
  dsimp only
  refine hK'.out _ _ ⟨k1, k2, k3⟩ (fun hS' => ?_)
  clear hK' K' hS'
  have H8 := Lib.hid (And.intro hA9 (And.intro hlu hm8'))
  clear hA8 hs8 hlu hm8 hm8' hA9 k1 k2 k3 kK hS
  refine wpAnyH_done (by kernel_rfl) ?_ _
  (try simp only [Exit.inBlock, Exit.then])
  refine bodyPost_end (results_none rfl _ _ _) rfl ?_
  obtain ⟨a1, a2, a3, a4, a5, a6, a7, a8, a9, a10, a11⟩ := HA.out
  obtain ⟨b1, b2, b3, _⟩ := H7.out
  obtain ⟨c1, c2, c3⟩ := H8.out
  have z1 := a2.size
  have z2 := b3.size
  have z3 := c3.size
  have y1 : w6.drew.heap.size = w6.heap.size := rfl
  have y2 : w7.drew.heap.size = w7.heap.size := rfl
  have d1 : Mod F w w6 := a2.mono (fun b _ hb => a9 b hb)
  have d2 : Mod F w w7 := d1.drew.trans b3 (fun b hb => .inl (a10 b hb))
  have d3 : Mod F w w8 := d2.drew.trans c3 (fun b hb => .inl (a11 b hb))
  refine ⟨rfl, lm', lo', lu', c1.weaken (fun b hb => ?_) (fun b hb => ?_), HL.out, b2, c2, d3⟩
  · rcases hb with (((hb | hb) | hb) | hb)
    · exact .inl hb
    · exact .inr ⟨by omega, by omega⟩
    · exact .inr ⟨by omega, by omega⟩
    · exact .inr ⟨by omega, by omega⟩
  · rcases hb with hb | hb
    · have := a6 b hb
      omega
    · exact hb.2
end
end Go.Proofs.YtojjnfhgldjgbaaGreatDoor.Store
end
section
set_option linter.unusedVariables false
set_option linter.unusedSimpArgs false
namespace Go.Proofs.YtojjnfhgldjgbaaGreatDoor.Store
open Go.RowKit Go.Por Go.Sort Go.Proofs.YtojjnfhgldjgbaaGreatDoor.Watch Go.Por.Tupl
theorem OwnS.one {α : Type} {f : α → List Value} {c : Nat} {w : World} {E : TypeId} {g : Nat} {x : α} (hc : (f x).length = c) (h : w.heap[g]? = some (.cells (f x).toArray E (0, 0))) : OwnS f c w E (.slice (some ⟨g, 0, none⟩) 1 1) [x] := by
  refine ⟨by simp [hc], .inr ⟨g, 1, _, rfl, Nat.zero_le _, h, Nat.le_refl _, by unfold maxLen; omega, by simp [hc], ?_⟩⟩
  rw [List.flatMap_cons, List.flatMap_nil, List.append_nil, List.length_singleton, Nat.one_mul]
  exact List.take_of_length_le (by simp [hc])
theorem row_mid {w : World} {b : Nat} {x0 x1 x2 x3 : Value} {t : TypeId} (h : w.heap[b]? = some (.cells #[x0, x1, x2, x3] t (0, 0))) : w.rangeAt b 1 [x1, x2, x3] := fun j u hu => by
  match j, hu with
  | 0, hu => simp at hu; subst hu; exact cell_of (i := 1) h rfl
  | 1, hu => simp at hu; subst hu; exact cell_of (i := 2) h rfl
  | 2, hu => simp at hu; subst hu; exact cell_of (i := 3) h rfl
  | n + 3, hu => simp at hu
/-- A tuple's texts have sizes that a machine can count. -/
def TupOk (t : Tup) : Prop := t.1.size ≤ 9223372036854775807 ∧ t.2.1.size ≤ 9223372036854775807 ∧ t.2.2.size ≤ 9223372036854775807
/-- The tuples seen, as the map holds them. -/
def seenV (l : List Tup) : List (Tup × Value) := l.map (fun t => (t, .int .i64 1))
theorem seenV_fst (l : List Tup) : (seenV l).map Prod.fst = l := by unfold seenV; rw [List.map_map]; exact List.map_id' l
theorem seen_put {l : List Tup} {t : Tup} (h : t ∉ l) : mput (seenV l) t (.int .i64 1) = seenV (l ++ [t]) := by
  unfold mput
  rw [seenV_fst, if_neg h]
  unfold seenV
  rw [List.map_append]
  rfl
section
variable {w : World} {s O U M MO MU : Nat} {F : Nat → Prop} {lm : List (Tup × (Value × List Span))} {lo : List (PairT × (Value × List Tup))} {lu : List (ByteArray × (Value × List Tup))} {wm : Int}
/-- What 'seen[t]++' does: the three runs, and the map behind. -/
theorem seen_step {w : World} {B : Nat} {l : List Tup} (h : MapIs w B encT (seenV l)) (t : Tup) {v0 : Int} (hv : v0 = if tin t l = true then 1 else 0) :
    (Instr.lookup 89 (.map (some B)) (encT t) false).run Tryz.prog w = .ok (.int .i64 v0) w ∧
    ∃ (st : Nat) (w1 : World), (Instr.mapEntry 89 (.map (some B)) (encT t)).run Tryz.prog w = .ok (.tuple #[.int .i64 v0, .int .i64 (st : Int)]) w1 ∧ Mod (fun b => b = B) w w1 ∧
      (∀ W : World, W.heap[B]? = w1.heap[B]? → (Instr.lookup 89 (.map (some B)) (encT t) false).run Tryz.prog W = .ok (.int .i64 v0) W) ∧
      ∃ w2, (Instr.entryStore 89 (.map (some B)) (.int .i64 (st : Int)) (.int .i64 (v0 + 1))).run Tryz.prog w1 = .ok () w2 ∧ Mod (fun b => b = B) w1 w2 ∧
        (tin t l = false → MapIs w2 B encT (seenV (l ++ [t]))) ∧ (∀ W : World, W.heap[B]? = w2.heap[B]? → (Instr.lookup 89 (.map (some B)) (encT t) false).run Tryz.prog W = .ok (.int .i64 (v0 + 1)) W) := by
  have hz : ∀ W : World, (zeroValue 3).run Tryz.prog W = .ok (.int .i64 0) W := fun W => by kernel_rfl
  obtain ⟨st, o1, hr1, hm1, hst⟩ := h.entry keyTup Tryz.underlying89 t (hz w)
  have hg : (gfind (seenV l) t).getD (.int .i64 0) = .int .i64 v0 := by
    by_cases hk : tin t l = true
    · rw [hv, if_pos hk]
      have hmem : (t, Value.int .i64 1) ∈ seenV l := List.mem_map.2 ⟨t, tin_iff.1 hk, rfl⟩
      rw [(gfind_some h.nodup).2 hmem]
      rfl
    · rw [hv, if_neg hk]
      rw [gfind_none.2 (by rw [seenV_fst]; exact fun hm => hk (tin_iff.2 hm))]
      rfl
  rw [hg] at hr1 hm1
  have look : ∀ (W : World) (ll : List (Tup × Value)) (u : Value), MapIs W B encT ll → (t, u) ∈ ll → (Instr.lookup 89 (.map (some B)) (encT t) false).run Tryz.prog W = .ok u W := fun W ll u hW hu => by
    have := MapIs.look_hit keyTup Tryz.underlying89 hW hu false
    simpa using this
  refine ⟨?_, st, _, hr1, setB_mod w B o1, fun W hW => look W _ _ (hm1.keep hW) (mem_mput.2 (.inl ⟨rfl, rfl⟩)), ?_⟩
  · by_cases hk : tin t l = true
    · have hmem : (t, Value.int .i64 1) ∈ seenV l := List.mem_map.2 ⟨t, tin_iff.1 hk, rfl⟩
      rw [hv, if_pos hk]
      exact look w _ _ h hmem
    · rw [hv, if_neg hk]
      have := MapIs.look_miss keyTup Tryz.underlying89 h (k := t) (by rw [seenV_fst]; exact fun hm => hk (tin_iff.2 hm)) (hz w) false
      simpa using this
  · obtain ⟨o, hr2, hm2⟩ := hst (setB w B o1) (.int .i64 (v0 + 1)) (setB_at w o1 h.lt)
    refine ⟨_, hr2, setB_mod _ B o, fun hk => ?_, fun W hW => look W _ _ (hm2.keep hW) (mem_mput.2 (.inl ⟨rfl, rfl⟩))⟩
    have e : v0 + 1 = 1 := by rw [hv, if_neg (by rw [hk]; decide)]; rfl
    rw [e] at hm2
    rw [seen_put (fun hm => by rw [tin_iff.2 hm] at hk; cases hk)] at hm2
    exact hm2
set_option maxRecDepth 100000 in
set_option maxHeartbeats 6400000 in
theorem check_mem (h : StMem w s O U M MO MU F lm lo lu wm) {v : Value} {muts : List Mut} (hr : ReadS mutC 4 w v muts) (hok : ∀ m ∈ muts, TupOk m.2) (rev : Int) : Calls Tryz.prog 58 #[.pointer (some ⟨s, 0, none⟩), .int .i64 rev, v] w fun e w' => e = .returned (.int .i64 (checkA (smc lm) wm rev muts)) ∧ Below w.heap.size w w' := by
  obtain ⟨ao, cap, rfl, hlen⟩ := hr.form
  obtain ⟨n, hn⟩ : ∃ n, muts.length = n := ⟨_, rfl⟩
  obtain ⟨R, hR⟩ : ∃ R, checkA (smc lm) wm rev muts = R := ⟨_, rfl⟩
  rw [hn] at hr hlen ⊢
  rw [hR]
  have HH := Lib.hid (And.intro h (And.intro hr (And.intro hlen (And.intro hn (And.intro hok hR)))))
  clear h hr hR hok
  by_cases h1 : 1 ≤ rev
  · by_cases h2 : rev ≤ 1125899906842624
    · have hR2 : checkL (smc lm) wm rev [] muts = R := by
        rw [← HH.out.2.2.2.2.2]
        unfold checkA maxRev
        rw [if_neg (by omega)]
      obtain ⟨B, hB⟩ : ∃ B, w.heap.size = B := ⟨_, rfl⟩
      rw [hB]
      go_enter Tryz.func58, Tryz.ntmps58
      have hmm := @run_makeMap Tryz.prog
      go_wp2
      clear hmm
      have hM0 := MapIs.made w encT
      have hbel0 : Below B w (w.alloc (.map #[] 0)) := by rw [← hB]; exact (Below.refl _ w).alloc (Nat.le_refl _) _
      rw [hB] at hM0
      generalize hW3 : w.alloc (.map #[] 0) = W3 at *
      have HW := Lib.hid (And.intro hM0 (And.intro hbel0 (And.intro hR2 hB)))
      clear hM0 hbel0 hW3 hR2 hB
      go_loopg [20] n (fun gg vi wx => ∃ (t : Nat), t + gg = n ∧ vi = .int .i64 (t : Int) ∧ Below B w wx ∧ MapIs wx B encT (seenV ((muts.take t).map (·.2))) ∧ checkL (smc lm) wm rev ((muts.take t).map (·.2)) (muts.drop t) = R)
      case atStart => exact ⟨0, by omega, rfl, HW.out.2.1, HW.out.1, HW.out.2.2.1⟩
      case round =>
        obtain ⟨t, htg, rfl, hbel, hmap, hck⟩ := hrel
        by_cases hg : gk = 0
        · have ht : t = n := by omega
          have hk0 : ¬ ((t : Int) < (n : Int)) := by omega
          have e0 : R = 0 := by
            rw [← hck, List.drop_eq_nil_of_le (by rw [HH.out.2.2.2.1]; omega)]
            rfl
          subst e0
          have HE := Lib.hid hbel
          clear hbel hmap hck htg hg ht
          go_wp2
          go_ret
          exact ⟨rfl, HE.out⟩
        · have htn : t < n := by omega
          obtain ⟨⟨d, t0, t1, t2⟩, hx⟩ : ∃ m, muts[t]? = some m := ⟨_, List.getElem?_eq_getElem (by rw [HH.out.2.2.2.1]; exact htn)⟩
          obtain ⟨b, o, rfl, hrange, hbl⟩ := HH.out.2.1.lt (by decide) mutC_len hx
          rw [HW.out.2.2.2] at hbl
          have hrange2 : wr.rangeAt b (o + t * 4) (mutC (d, t0, t1, t2)) := range_below hrange hbel hbl
          have hti : (t : Int) < (n : Int) := by omega
          have hmt : TupOk (t0, t1, t2) := HH.out.2.2.2.2.1 (d, t0, t1, t2) (List.mem_of_getElem? hx)
          have hdrop : muts.drop t = (d, t0, t1, t2) :: muts.drop (t + 1) := by
            have hlt : t < muts.length := by rw [HH.out.2.2.2.1]; exact htn
            rw [List.drop_eq_getElem_cons hlt]
            congr 1
            rw [List.getElem?_eq_getElem hlt] at hx
            exact Option.some.inj hx
          have htake : (muts.take (t + 1)).map (·.2) = (muts.take t).map (·.2) ++ [(t0, t1, t2)] := by
            rw [List.take_add_one, hx, Option.toList_some, List.map_append]
            rfl
          obtain ⟨l, hl⟩ : ∃ l, (muts.take t).map (fun x : Mut => x.2) = l := ⟨_, rfl⟩
          rw [hl] at hmap hck htake
          rw [hdrop] at hck
          unfold checkL at hck
          have HE := Lib.hid (And.intro hbel (And.intro hmap (And.intro hck (And.intro htake (And.intro hmt (And.intro hrange2 (And.intro htg htn)))))))
          clear hbel hmap hck htake hmt hrange2 htg hrange hdrop hl hx hg htn hbl
          go_upto_region 7 with (first
            | (refine wpList_load_mid rfl 47 (.tmp 22) rfl b (o + t * 4) rfl (mutC (d, t0, t1, t2)) _ HE.out.2.2.2.2.2.1 Tryz.underlying47 rfl infoMut0 ?_; unfold mutC))
          obtain ⟨Q, hQ⟩ : ∃ Q, wr.heap.size = Q := ⟨_, rfl⟩
          have hQb := block_new wr (.cells #[.bool d, .string t0, .string t1, .string t2] 47)
          have m4 : Mod (fun _ => False) wr (wr.alloc (.cells #[.bool d, .string t0, .string t1, .string t2] 47)) := (Mod.refl _ wr).alloc _
          have s4 : (wr.alloc (.cells #[.bool d, .string t0, .string t1, .string t2] 47)).heap.size = Q + 1 := by rw [World.size_alloc, hQ]
          rw [hQ] at hQb ⊢
          generalize hW4 : wr.alloc (.cells #[.bool d, .string t0, .string t1, .string t2] 47) = W4 at *
          have HF := Lib.hid (And.intro hQb (And.intro m4 (And.intro s4 (And.intro hQ (row_mid hQb)))))
          clear hQb m4 s4 hQ hW4
          go_wp2_with (first
            | (refine wpList_load_mid rfl 41 (.tmp 24) rfl Q 1 rfl [.string t0, .string t1, .string t2] _ HF.out.2.2.2.2 Tryz.underlying41 rfl infoTup0 ?_))
          have hs5 : (W4.alloc (.cells #[.string t0, .string t1, .string t2] 41)).heap.size = Q + 2 := by rw [World.size_alloc, HF.out.2.2.1]
          have m5 : Mod (fun _ => False) W4 (W4.alloc (.cells #[.string t0, .string t1, .string t2] 41)) := (Mod.refl _ W4).alloc _
          refine (check_one (t0, t1, t2) (OwnS.one rfl (block_new W4 (.cells #[.string t0, .string t1, .string t2] 41))) HE.out.2.2.2.2.1.1 HE.out.2.2.2.2.1.2.1 HE.out.2.2.2.2.1.2.2).mono ?_
          rintro e w6 ⟨rfl, hb6⟩
          have m6 : Mod (fun _ => False) W4 w6 := m5.trans' (Mod.of_below hb6 _)
          have hbel6 : Below B w w6 := (HE.out.1.trans ((HF.out.2.1.trans' m6).to_below (B := B) (by have z1 := HE.out.1.size; have z2 := HW.out.2.2.2; omega) (fun _ h => h.elim)))
          have HG := Lib.hid (And.intro m6 hbel6)
          clear hs5 m5 hb6 m6 hbel6
          obtain ⟨q, hq⟩ : ∃ q, tchk (t0, t1, t2) = q := ⟨_, rfl⟩
          rw [hq] at HE ⊢
          clear hq
          by_cases hq0 : q = 0
          · subst hq0
            have hmap6 : MapIs w6.drew B encT (seenV l) := HE.out.2.1.mod ((HF.out.2.1.trans' HG.out.1).drew) id
            have hQ6 := HG.out.1.old HF.out.1 id
            have hBQ : Q ≠ B := fun e => by
              obtain ⟨es, ck, hm, _⟩ := hmap6
              rw [← e] at hm
              have h9 : w6.drew.heap[Q]? = w6.heap[Q]? := rfl
              rw [h9, hQ6] at hm
              cases hm
            cases htin : tin (t0, t1, t2) l with
            | true =>
              obtain ⟨k1, st, w7, k2, m7, k3, w8, k4, m8, k5, k6⟩ := seen_step (v0 := 1) hmap6 (t0, t1, t2) (by rw [htin]; rfl)
              have k1' : (Instr.lookup 89 (.map (some B)) (.agg #[.string t0, .string t1, .string t2]) false).run Tryz.prog w6.drew = .ok (.int .i64 1) w6.drew := k1
              have k2' : (Instr.mapEntry 89 (.map (some B)) (.agg #[.string t0, .string t1, .string t2])).run Tryz.prog w6.drew = .ok (.tuple #[.int .i64 1, .int .i64 (st : Int)]) w7 := k2
              have k3' : (Instr.lookup 89 (.map (some B)) (.agg #[.string t0, .string t1, .string t2]) false).run Tryz.prog w7 = .ok (.int .i64 1) w7 := k3 w7 rfl
              have k4' : (Instr.entryStore 89 (.map (some B)) (.int .i64 (st : Int)) (.int .i64 2)).run Tryz.prog w7 = .ok () w8 := k4
              have k6' : (Instr.lookup 89 (.map (some B)) (.agg #[.string t0, .string t1, .string t2]) false).run Tryz.prog w8 = .ok (.int .i64 2) w8 := k6 w8 rfl
              have q7 := m7.old (show w6.drew.heap[Q]? = _ from hQ6) hBQ
              have q8 := m8.old q7 hBQ
              have m8a : Mod (fun b => b = B) w6 w8 := ((Mod.refl (fun b => b = B) w6).drew.trans' m7).trans' m8
              have eR : R = 5 := by
                have z := HE.out.2.2.1
                rw [if_neg (by decide), if_pos htin] at z
                exact z.symm
              clear k1 k2 k4 k6 hmap6
              go_upto_region 10 with fail
              refine wp_region_held_drew (S := fun w' => w'.heap[Q]? = some (.cells #[.bool d, .string t0, .string t1, .string t2] 47 (0, 0))) (by kernel_rfl) hQ6 (fun hS => ?_)
              clear hQ6
              refine takeD (i := 0) rfl (by kernel_rfl) (by kernel_rfl) (by kernel_rfl) (fun _ _ _ h => h) hS (Or.inl ⟨by rfl, fun w hSw => by go_simp; rfl⟩) ?_
              simp only [Act.put, List.setIfInBounds_toArray, List.set_cons_zero, List.set_cons_succ]
              refine takeD (i := 1) rfl (by kernel_rfl) (by kernel_rfl) (by kernel_rfl) (fun _ _ _ h => h) hS (Or.inl ⟨by rfl, fun w hSw => by go_simp; rfl⟩) ?_
              simp only [Act.put, List.setIfInBounds_toArray, List.set_cons_zero, List.set_cons_succ]
              refine takeD (i := 2) rfl (by kernel_rfl) (by kernel_rfl) (by kernel_rfl) (fun _ _ _ h => h) hS (yieldsIf_load_mid (by rfl) 41 (.tmp 32) rfl Q 1 rfl ([.string t0, .string t1, .string t2]) _ (fun w hSw => row_mid hSw) Tryz.underlying41 rfl infoTup0) ?_
              simp only [Act.put, List.setIfInBounds_toArray, List.set_cons_zero, List.set_cons_succ]
              refine wpAnyH_ready (rs := [3, 5]) (by kernel_rfl) (by simp) ?_
              refine consD (i := 3) rfl (fun K' hK' => ?_) (consD (i := 5) rfl (fun K' hK' => ?_) AllReadyH.nil)
              · rw [if_pos (by rfl)]
                go_simp
                refine hK'.out _ _ hS (fun hS => ?_)
                clear hK' K'
                refine takeD (i := 4) (v := (.int .i64 2)) rfl (by kernel_rfl) (by kernel_rfl) (by kernel_rfl) (fun _ _ _ h => h) hS (Or.inl ⟨by rfl, fun w hSw => by go_simp; rfl⟩) ?_
                simp only [Act.put, List.setIfInBounds_toArray, List.set_cons_zero, List.set_cons_succ]
                refine wpAnyH_ready (rs := [5]) (by kernel_rfl) (by simp) ?_
                refine consD (i := 5) rfl (fun K' hK' => ?_) AllReadyH.nil
                rw [if_pos (by rfl)]
                go_simp
                refine hK'.out _ _ q7 (fun hS => ?_)
                clear hK' K'
                refine takeD (i := 6) (v := (.int .i64 (st : Int))) rfl (by kernel_rfl) (by kernel_rfl) (by kernel_rfl) (fun _ _ _ h => h) hS (Or.inl ⟨by rfl, fun w hSw => by go_simp⟩) ?_
                simp only [Act.put, List.setIfInBounds_toArray, List.set_cons_zero, List.set_cons_succ]
                refine wpAnyH_ready (rs := [7]) (by kernel_rfl) (by simp) ?_
                refine consD (i := 7) rfl (fun K' hK' => ?_) AllReadyH.nil
                rw [if_pos (by rfl)]
                go_simp
                refine hK'.out _ _ q8 (fun hS => ?_)
                clear hK' K'
                refine wpAnyH_done (by kernel_rfl) ?_ _
                clear hS
                have HQ := Lib.hid (And.intro (row_mid q8) (And.intro q8 (And.intro m8a k5)))
                clear q7 q8 m8a k5 m7 m8 k3
                simp only [Exit.then]
                go_wp2_with (first
                  | (refine wpList_load_mid rfl 41 (.tmp 40) rfl Q 1 rfl [.string t0, .string t1, .string t2] _ HQ.out.1 Tryz.underlying41 rfl infoTup0 ?_)
                  | (refine wpList_load_mid rfl 41 (.tmp 47) rfl Q 1 rfl [.string t0, .string t1, .string t2] _ HQ.out.1 Tryz.underlying41 rfl infoTup0 ?_))
                go_ret
                exact ⟨by rw [eR]; rfl, HG.out.2.trans (HQ.out.2.2.1.to_below (B := B) (by have z1 := HE.out.1.size; have z2 := HW.out.2.2.2; have z3 := (HF.out.2.1.trans' HG.out.1).size; omega) (fun x h => by omega))⟩
              · rw [if_pos (by rfl)]
                go_simp
                refine hK'.out _ _ q7 (fun hS => ?_)
                clear hK' K'
                refine takeD (i := 6) (v := (.int .i64 (st : Int))) rfl (by kernel_rfl) (by kernel_rfl) (by kernel_rfl) (fun _ _ _ h => h) hS (Or.inl ⟨by rfl, fun w hSw => by go_simp⟩) ?_
                simp only [Act.put, List.setIfInBounds_toArray, List.set_cons_zero, List.set_cons_succ]
                refine wpAnyH_ready (rs := [3]) (by kernel_rfl) (by simp) ?_
                refine consD (i := 3) rfl (fun K' hK' => ?_) AllReadyH.nil
                rw [if_pos (by rfl)]
                go_simp
                refine hK'.out _ _ q7 (fun hS => ?_)
                clear hK' K'
                refine takeD (i := 4) (v := (.int .i64 2)) rfl (by kernel_rfl) (by kernel_rfl) (by kernel_rfl) (fun _ _ _ h => h) hS (Or.inl ⟨by rfl, fun w hSw => by go_simp; rfl⟩) ?_
                simp only [Act.put, List.setIfInBounds_toArray, List.set_cons_zero, List.set_cons_succ]
                refine wpAnyH_ready (rs := [7]) (by kernel_rfl) (by simp) ?_
                refine consD (i := 7) rfl (fun K' hK' => ?_) AllReadyH.nil
                rw [if_pos (by rfl)]
                go_simp
                refine hK'.out _ _ q8 (fun hS => ?_)
                clear hK' K'
                refine wpAnyH_done (by kernel_rfl) ?_ _
                clear hS
                have HQ := Lib.hid (And.intro (row_mid q8) (And.intro q8 (And.intro m8a k5)))
                clear q7 q8 m8a k5 m7 m8 k3
                simp only [Exit.then]
                go_wp2_with (first
                  | (refine wpList_load_mid rfl 41 (.tmp 40) rfl Q 1 rfl [.string t0, .string t1, .string t2] _ HQ.out.1 Tryz.underlying41 rfl infoTup0 ?_)
                  | (refine wpList_load_mid rfl 41 (.tmp 47) rfl Q 1 rfl [.string t0, .string t1, .string t2] _ HQ.out.1 Tryz.underlying41 rfl infoTup0 ?_))
                go_ret
                exact ⟨by rw [eR]; rfl, HG.out.2.trans (HQ.out.2.2.1.to_below (B := B) (by have z1 := HE.out.1.size; have z2 := HW.out.2.2.2; have z3 := (HF.out.2.1.trans' HG.out.1).size; omega) (fun x h => by omega))⟩
            | false =>
              obtain ⟨k1, st, w7, k2, m7, k3, w8, k4, m8, k5, k6⟩ := seen_step (v0 := 0) hmap6 (t0, t1, t2) (by rw [htin]; rfl)
              have k1' : (Instr.lookup 89 (.map (some B)) (.agg #[.string t0, .string t1, .string t2]) false).run Tryz.prog w6.drew = .ok (.int .i64 0) w6.drew := k1
              have k2' : (Instr.mapEntry 89 (.map (some B)) (.agg #[.string t0, .string t1, .string t2])).run Tryz.prog w6.drew = .ok (.tuple #[.int .i64 0, .int .i64 (st : Int)]) w7 := k2
              have k3' : (Instr.lookup 89 (.map (some B)) (.agg #[.string t0, .string t1, .string t2]) false).run Tryz.prog w7 = .ok (.int .i64 0) w7 := k3 w7 rfl
              have k4' : (Instr.entryStore 89 (.map (some B)) (.int .i64 (st : Int)) (.int .i64 1)).run Tryz.prog w7 = .ok () w8 := k4
              have k6' : (Instr.lookup 89 (.map (some B)) (.agg #[.string t0, .string t1, .string t2]) false).run Tryz.prog w8 = .ok (.int .i64 1) w8 := k6 w8 rfl
              have q7 := m7.old (show w6.drew.heap[Q]? = _ from hQ6) hBQ
              have q8 := m8.old q7 hBQ
              have m8a : Mod (fun b => b = B) w6 w8 := ((Mod.refl (fun b => b = B) w6).drew.trans' m7).trans' m8
              clear k1 k2 k4 k6 hmap6
              go_upto_region 10 with fail
              refine wp_region_held_drew (S := fun w' => w'.heap[Q]? = some (.cells #[.bool d, .string t0, .string t1, .string t2] 47 (0, 0))) (by kernel_rfl) hQ6 (fun hS => ?_)
              clear hQ6
              refine takeD (i := 0) rfl (by kernel_rfl) (by kernel_rfl) (by kernel_rfl) (fun _ _ _ h => h) hS (Or.inl ⟨by rfl, fun w hSw => by go_simp; rfl⟩) ?_
              simp only [Act.put, List.setIfInBounds_toArray, List.set_cons_zero, List.set_cons_succ]
              refine takeD (i := 1) rfl (by kernel_rfl) (by kernel_rfl) (by kernel_rfl) (fun _ _ _ h => h) hS (Or.inl ⟨by rfl, fun w hSw => by go_simp; rfl⟩) ?_
              simp only [Act.put, List.setIfInBounds_toArray, List.set_cons_zero, List.set_cons_succ]
              refine takeD (i := 2) rfl (by kernel_rfl) (by kernel_rfl) (by kernel_rfl) (fun _ _ _ h => h) hS (yieldsIf_load_mid (by rfl) 41 (.tmp 32) rfl Q 1 rfl ([.string t0, .string t1, .string t2]) _ (fun w hSw => row_mid hSw) Tryz.underlying41 rfl infoTup0) ?_
              simp only [Act.put, List.setIfInBounds_toArray, List.set_cons_zero, List.set_cons_succ]
              refine wpAnyH_ready (rs := [3, 5]) (by kernel_rfl) (by simp) ?_
              refine consD (i := 3) rfl (fun K' hK' => ?_) (consD (i := 5) rfl (fun K' hK' => ?_) AllReadyH.nil)
              · rw [if_pos (by rfl)]
                go_simp
                refine hK'.out _ _ hS (fun hS => ?_)
                clear hK' K'
                refine takeD (i := 4) (v := (.int .i64 1)) rfl (by kernel_rfl) (by kernel_rfl) (by kernel_rfl) (fun _ _ _ h => h) hS (Or.inl ⟨by rfl, fun w hSw => by go_simp; rfl⟩) ?_
                simp only [Act.put, List.setIfInBounds_toArray, List.set_cons_zero, List.set_cons_succ]
                refine wpAnyH_ready (rs := [5]) (by kernel_rfl) (by simp) ?_
                refine consD (i := 5) rfl (fun K' hK' => ?_) AllReadyH.nil
                rw [if_pos (by rfl)]
                go_simp
                refine hK'.out _ _ q7 (fun hS => ?_)
                clear hK' K'
                refine takeD (i := 6) (v := (.int .i64 (st : Int))) rfl (by kernel_rfl) (by kernel_rfl) (by kernel_rfl) (fun _ _ _ h => h) hS (Or.inl ⟨by rfl, fun w hSw => by go_simp⟩) ?_
                simp only [Act.put, List.setIfInBounds_toArray, List.set_cons_zero, List.set_cons_succ]
                refine wpAnyH_ready (rs := [7]) (by kernel_rfl) (by simp) ?_
                refine consD (i := 7) rfl (fun K' hK' => ?_) AllReadyH.nil
                rw [if_pos (by rfl)]
                go_simp
                refine hK'.out _ _ q8 (fun hS => ?_)
                clear hK' K'
                refine wpAnyH_done (by kernel_rfl) ?_ _
                clear hS
                have HQ := Lib.hid (And.intro (row_mid q8) (And.intro q8 (And.intro m8a k5)))
                clear q7 q8 m8a k5 m7 m8 k3
                simp only [Exit.then]
                go_wp2_with (first
                  | (refine wpList_load_mid rfl 41 (.tmp 40) rfl Q 1 rfl [.string t0, .string t1, .string t2] _ HQ.out.1 Tryz.underlying41 rfl infoTup0 ?_)
                  | (refine wpList_load_mid rfl 41 (.tmp 47) rfl Q 1 rfl [.string t0, .string t1, .string t2] _ HQ.out.1 Tryz.underlying41 rfl infoTup0 ?_))
                have hbel8 : Below B w w8 := HG.out.2.trans (HQ.out.2.2.1.to_below (B := B) (by have z1 := HE.out.1.size; have z2 := HW.out.2.2.2; have z3 := (HF.out.2.1.trans' HG.out.1).size; omega) (fun x h => by omega))
                have hS8 : StMem w8 s O U M MO MU F lm lo lu wm := HH.out.1.mod (Mod.of_below (HW.out.2.2.2.symm ▸ hbel8) (fun _ => False)) (fun _ _ h => h)
                refine (last_any hS8 (t0, t1, t2)).mono ?_
                rintro e w9 ⟨rfl, hb9⟩
                have m9 : Mod (fun _ => False) w8 w9 := Mod.of_below hb9 _
                have c := cell_of (i := 3) (m9.old hS8.hs id) rfl
                have hbel9 : Below B w w9 := hbel8.trans (hb9.mono (by have z1 := hbel8.size; have z2 := HW.out.2.2.2; omega))
                have HZ := Lib.hid (And.intro hbel9 m9)
                clear hbel8 hS8 hb9 m9 hbel9
                obtain ⟨L, hL⟩ : ∃ L, lastOf (aget (smc lm) (t0, t1, t2)) = L := ⟨_, rfl⟩
                rw [hL] at HE ⊢
                have HT := Lib.hid htin
                clear hL htin k1' k2' k3' k4' k6'
                by_cases hl1 : rev ≤ L
                · have eR : R = 70 := by
                    have z := HE.out.2.2.1
                    rw [if_neg (by decide), if_neg (by rw [HT.out]; decide), if_pos (.inl hl1)] at z
                    exact z.symm
                  go_wp2
                  go_ret
                  exact ⟨by rw [eR]; rfl, HZ.out.1⟩
                · by_cases hl2 : rev ≤ wm
                  · have eR : R = 70 := by
                      have z := HE.out.2.2.1
                      rw [if_neg (by decide), if_neg (by rw [HT.out]; decide), if_pos (.inr hl2)] at z
                      exact z.symm
                    go_wp2
                    go_ret
                    exact ⟨by rw [eR]; rfl, HZ.out.1⟩
                  · have eR : checkL (smc lm) wm rev (l ++ [(t0, t1, t2)]) (List.drop (t + 1) muts) = R := by
                      have z := HE.out.2.2.1
                      rw [if_neg (by decide), if_neg (by rw [HT.out]; decide), if_neg (by rintro (h | h) <;> omega)] at z
                      exact z
                    have HU := Lib.hid eR
                    clear eR
                    go_wp2
                    go_roundg (gk - 1)
                    case measure => have := HE.out.2.2.2.2.2.2; omega
                    case rel =>
                      obtain ⟨e1, e2, e3, e4, e5, e6, e7, e8⟩ := HE.out
                      exact ⟨t + 1, by omega, by go_num, HZ.out.1, by rw [e4]; exact (HQ.out.2.2.2 HT.out).mod HZ.out.2 id, by rw [e4]; exact HU.out⟩
              · rw [if_pos (by rfl)]
                go_simp
                refine hK'.out _ _ q7 (fun hS => ?_)
                clear hK' K'
                refine takeD (i := 6) (v := (.int .i64 (st : Int))) rfl (by kernel_rfl) (by kernel_rfl) (by kernel_rfl) (fun _ _ _ h => h) hS (Or.inl ⟨by rfl, fun w hSw => by go_simp⟩) ?_
                simp only [Act.put, List.setIfInBounds_toArray, List.set_cons_zero, List.set_cons_succ]
                refine wpAnyH_ready (rs := [3]) (by kernel_rfl) (by simp) ?_
                refine consD (i := 3) rfl (fun K' hK' => ?_) AllReadyH.nil
                rw [if_pos (by rfl)]
                go_simp
                refine hK'.out _ _ q7 (fun hS => ?_)
                clear hK' K'
                refine takeD (i := 4) (v := (.int .i64 1)) rfl (by kernel_rfl) (by kernel_rfl) (by kernel_rfl) (fun _ _ _ h => h) hS (Or.inl ⟨by rfl, fun w hSw => by go_simp; rfl⟩) ?_
                simp only [Act.put, List.setIfInBounds_toArray, List.set_cons_zero, List.set_cons_succ]
                refine wpAnyH_ready (rs := [7]) (by kernel_rfl) (by simp) ?_
                refine consD (i := 7) rfl (fun K' hK' => ?_) AllReadyH.nil
                rw [if_pos (by rfl)]
                go_simp
                refine hK'.out _ _ q8 (fun hS => ?_)
                clear hK' K'
                refine wpAnyH_done (by kernel_rfl) ?_ _
                clear hS
                have HQ := Lib.hid (And.intro (row_mid q8) (And.intro q8 (And.intro m8a k5)))
                clear q7 q8 m8a k5 m7 m8 k3
                simp only [Exit.then]
                go_wp2_with (first
                  | (refine wpList_load_mid rfl 41 (.tmp 40) rfl Q 1 rfl [.string t0, .string t1, .string t2] _ HQ.out.1 Tryz.underlying41 rfl infoTup0 ?_)
                  | (refine wpList_load_mid rfl 41 (.tmp 47) rfl Q 1 rfl [.string t0, .string t1, .string t2] _ HQ.out.1 Tryz.underlying41 rfl infoTup0 ?_))
                have hbel8 : Below B w w8 := HG.out.2.trans (HQ.out.2.2.1.to_below (B := B) (by have z1 := HE.out.1.size; have z2 := HW.out.2.2.2; have z3 := (HF.out.2.1.trans' HG.out.1).size; omega) (fun x h => by omega))
                have hS8 : StMem w8 s O U M MO MU F lm lo lu wm := HH.out.1.mod (Mod.of_below (HW.out.2.2.2.symm ▸ hbel8) (fun _ => False)) (fun _ _ h => h)
                refine (last_any hS8 (t0, t1, t2)).mono ?_
                rintro e w9 ⟨rfl, hb9⟩
                have m9 : Mod (fun _ => False) w8 w9 := Mod.of_below hb9 _
                have c := cell_of (i := 3) (m9.old hS8.hs id) rfl
                have hbel9 : Below B w w9 := hbel8.trans (hb9.mono (by have z1 := hbel8.size; have z2 := HW.out.2.2.2; omega))
                have HZ := Lib.hid (And.intro hbel9 m9)
                clear hbel8 hS8 hb9 m9 hbel9
                obtain ⟨L, hL⟩ : ∃ L, lastOf (aget (smc lm) (t0, t1, t2)) = L := ⟨_, rfl⟩
                rw [hL] at HE ⊢
                have HT := Lib.hid htin
                clear hL htin k1' k2' k3' k4' k6'
                by_cases hl1 : rev ≤ L
                · have eR : R = 70 := by
                    have z := HE.out.2.2.1
                    rw [if_neg (by decide), if_neg (by rw [HT.out]; decide), if_pos (.inl hl1)] at z
                    exact z.symm
                  go_wp2
                  go_ret
                  exact ⟨by rw [eR]; rfl, HZ.out.1⟩
                · by_cases hl2 : rev ≤ wm
                  · have eR : R = 70 := by
                      have z := HE.out.2.2.1
                      rw [if_neg (by decide), if_neg (by rw [HT.out]; decide), if_pos (.inr hl2)] at z
                      exact z.symm
                    go_wp2
                    go_ret
                    exact ⟨by rw [eR]; rfl, HZ.out.1⟩
                  · have eR : checkL (smc lm) wm rev (l ++ [(t0, t1, t2)]) (List.drop (t + 1) muts) = R := by
                      have z := HE.out.2.2.1
                      rw [if_neg (by decide), if_neg (by rw [HT.out]; decide), if_neg (by rintro (h | h) <;> omega)] at z
                      exact z
                    have HU := Lib.hid eR
                    clear eR
                    go_wp2
                    go_roundg (gk - 1)
                    case measure => have := HE.out.2.2.2.2.2.2; omega
                    case rel =>
                      obtain ⟨e1, e2, e3, e4, e5, e6, e7, e8⟩ := HE.out
                      exact ⟨t + 1, by omega, by go_num, HZ.out.1, by rw [e4]; exact (HQ.out.2.2.2 HT.out).mod HZ.out.2 id, by rw [e4]; exact HU.out⟩
          · have hq1 : (q == 0) = false := by simp [hq0]
            have eR : R = q := by
              have := HE.out.2.2.1
              rw [if_pos hq0] at this
              exact this.symm
            subst eR
            go_wp2
            go_ret
            exact ⟨rfl, HG.out.2⟩
    · have eR : R = 1 := by
        rw [← HH.out.2.2.2.2.2]
        unfold checkA maxRev
        rw [if_pos (by omega)]
      subst eR
      go_enter Tryz.func58, Tryz.ntmps58
      go_wp2
      go_ret
      exact ⟨rfl, Below.refl _ _⟩
  · have eR : R = 1 := by
      rw [← HH.out.2.2.2.2.2]
      unfold checkA maxRev
      rw [if_pos (by omega)]
    subst eR
    go_enter Tryz.func58, Tryz.ntmps58
    go_wp2
    go_ret
    exact ⟨rfl, Below.refl _ _⟩
end
end Go.Proofs.YtojjnfhgldjgbaaGreatDoor.Store
end
section
set_option linter.unusedVariables false
set_option linter.unusedSimpArgs false
namespace Go.Proofs.YtojjnfhgldjgbaaGreatDoor.Store
open Go.RowKit Go.Por Go.ChangeShapes Go.WideShapes Go.Proofs.YtojjnfhgldjgbaaGreatDoor.Watch
theorem cellsStr : Tryz.prog.cellsOf 9 = 1 := by kernel_rfl
theorem cellsTup : Tryz.prog.cellsOf 41 = 3 := by kernel_rfl
section
variable {H : Type} {enc : TypeId × Value → H} {w : World} {spare : Nat → Bool} {held : Bool}
set_option maxRecDepth 10000 in
theorem open_tup (fuel : Nat) (cs : List Value) (y : DataW H × List MemPlace) (h : DataW.trod enc Tryz.prog w 0 spare held fuel 41 cs = some y) : ∃ x, cs = tupC x ∧ TupOk x := by
  obtain ⟨xs, n, _, _, hlen, hxl, hf⟩ := DataW.trod_struct Tryz.underlying41 h
  rw [cellsTup] at hlen
  have g0 := hf 0 _ rfl
  have g1 := hf 1 _ rfl
  have g2 := hf 2 _ rfl
  have hxl' : xs.length = 3 := hxl
  clear hxl hf h
  match cs, hlen, xs, hxl' with
  | [v0, v1, v2], _, [y0, y1, y2], _ =>
    simp [cellsStr] at g0 g1 g2
    obtain ⟨a, ha, _, za⟩ := DataW.trod_string Tryz.underlying9 g0
    obtain ⟨b, hb, _, zb⟩ := DataW.trod_string Tryz.underlying9 g1
    obtain ⟨s, hs, _, zs⟩ := DataW.trod_string Tryz.underlying9 g2
    simp at ha hb hs
    subst ha hb hs
    exact ⟨(a, b, s), rfl, by unfold maxLen at za; exact za, by unfold maxLen at zb; exact zb, by unfold maxLen at zs; exact zs⟩
end
end Go.Proofs.YtojjnfhgldjgbaaGreatDoor.Store
end
section
set_option linter.unusedVariables false
set_option linter.unusedSimpArgs false
namespace Go.Proofs.YtojjnfhgldjgbaaGreatDoor.Store
open Go.RowKit Go.Por Go.ChangeShapes Go.WideShapes Go.Proofs.YtojjnfhgldjgbaaGreatDoor.Watch

theorem bulk_one {H : Type} (d : DataW H) : 1 ≤ Rows.uptoBulk d := by
  cases d with
  | lit l => cases l <;> simp [Rows.uptoBulk]
  | nil => simp [Rows.uptoBulk]
  | ptr d => simp [Rows.uptoBulk]
  | slice elems spare => simp [Rows.uptoBulk]
  | agg parts => simp [Rows.uptoBulk]
  | iface t d => simp [Rows.uptoBulk]
  | map entries => simp [Rows.uptoBulk]
  | held h => simp [Rows.uptoBulk]
theorem bulk_part {H : Type} {d : DataW H} {l : List (DataW H)} (h : d ∈ l) : Rows.uptoBulk d ≤ Rows.uptoBulkAll l := by
  induction l with
  | nil => cases h
  | cons x r ih =>
    simp only [Rows.uptoBulkAll]
    rcases List.mem_cons.1 h with e | e
    · subst e; omega
    · have := ih e; omega
theorem bulk_len {H : Type} (l : List (DataW H)) : l.length ≤ Rows.uptoBulkAll l := by
  induction l with
  | nil => simp [Rows.uptoBulkAll]
  | cons x r ih => have := bulk_one x; simp only [Rows.uptoBulkAll, List.length_cons]; omega
theorem bulk_slice {H : Type} (elems spare : List (DataW H)) : elems.length ≤ Rows.uptoBulk (.slice elems spare) := by
  have h1 := bulk_len elems
  simp only [Rows.uptoBulk]
  omega
end Go.Proofs.YtojjnfhgldjgbaaGreatDoor.Store
end
