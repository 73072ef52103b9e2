/- StoreBoth, where what came in is of bulk at most 1048576: who has a relation, what a user has, and Has say the same: part 6 of 14: what it leans on. -/
import Derived.Lib.SlTrimSet
import Derived.Lib.Bytealg
import Derived.Test.YtojjnfhgldjgbaaGreatDoorBoA
import Derived.Test.YtojjnfhgldjgbaaGreatDoorBoB
import Derived.Test.YtojjnfhgldjgbaaGreatDoorBoC
import Derived.Test.YtojjnfhgldjgbaaGreatDoorBoD
import Derived.Test.YtojjnfhgldjgbaaGreatDoorBoE
section
set_option linter.unusedVariables false
set_option linter.unusedSimpArgs false
namespace Go.Proofs.YtojjnfhgldjgbaaGreatDoor.Store
open Go.RowKit Go.Por Go.Sort Go.Proofs.YtojjnfhgldjgbaaGreatDoor.Watch

set_option maxRecDepth 100000 in
set_option maxHeartbeats 4000000 in
theorem putO {w : World} {O M : Nat} {F : Nat → Prop} {ob : List (PairT × (Value × List Tup))} (hO : w.heap[O]? = some (.cells #[.map (some M)] 124 (0, 0))) (h : SlMap w M encP tupC 3 41 F ob) (hF : ∀ b, F b → b < w.heap.size) (k : PairT) (t : Tup) (hlen : (aget (smc ob) k).length ≤ 1099511627776) :
    Calls Tryz.prog 88 #[.pointer (some ⟨O, 0, none⟩), (encP k), .agg (tupC t).toArray] w fun e w' => e = .returned (.tuple #[]) ∧
      ∃ ob', SlMap w' M encP tupC 3 41 (fun b => F b ∨ (w.heap.size ≤ b ∧ b < w'.heap.size)) ob' ∧ smc ob' = putC (smc ob) k t ∧ Mod (fun b => b = M ∨ some b = (slv ob k).ownBlock) w w' := by
  obtain ⟨t0, t1, t2⟩ := t
  obtain ⟨k0, k1⟩ := k
  obtain ⟨K, hK⟩ : ∃ K, w.heap.size = K := ⟨_, rfl⟩
  obtain ⟨L, hL⟩ : ∃ L, aget (smc ob) (k0, k1) = L := ⟨_, rfl⟩
  obtain ⟨v, hv⟩ : ∃ v, slv ob (k0, k1) = v := ⟨_, rfl⟩
  have hat := h.at (k0, k1)
  rw [hL, hv] at hat
  have hlook : ∀ W : World, SlMap W M encP tupC 3 41 F ob → (Instr.lookup 122 (.map (some M)) (.agg #[.string k0, .string k1]) false).run Tryz.prog W = .ok v W := fun W hW => by
    rw [← hv]
    exact hW.look keyPair Tryz.underlying122 (zeroTups W) (k0, k1)
  have hOlt := lt_block hO
  obtain ⟨W2, hW2⟩ : ∃ W2, (w.alloc (.cells #[.string k0, .string k1] 107)).alloc (.cells #[.string t0, .string t1, .string t2] 41) = W2 := ⟨_, rfl⟩
  have m2 : Mod (fun _ => False) w W2 := by rw [← hW2]; exact ((Mod.refl _ w).alloc _).alloc _
  have hO2 : W2.heap[O]? = some (.cells #[.map (some M)] 124 (0, 0)) := m2.old hO id
  have hK2 : W2.heap[K]? = some (.cells #[.string k0, .string k1] 107 (0, 0)) := by
    rw [← hW2, ← hK]
    exact block_alloc (block_new w _) _
  have hT2 : W2.heap[K + 1]? = some (.cells #[.string t0, .string t1, .string t2] 41 (0, 0)) := by
    have h1 := block_new (w.alloc (.cells #[.string k0, .string k1] 107)) (.cells #[.string t0, .string t1, .string t2] 41)
    rw [World.size_alloc, hK] at h1
    rw [← hW2]
    exact h1
  have hs2 : W2.heap.size = K + 2 := by rw [← hW2, World.size_alloc, World.size_alloc, hK]
  have h2 : SlMap W2 M encP tupC 3 41 F ob := h.mod m2 id (fun _ _ _ _ h => h)
  obtain ⟨bb, hbb⟩ : ∃ bb, tin (t0, t1, t2) L = bb := ⟨_, rfl⟩
  have hcon : ∀ W : World, OwnS tupC 3 W 41 v L → Calls Tryz.prog 54 #[v, .agg #[.string t0, .string t1, .string t2]] W fun e w' => e = .returned (.bool bb) ∧ Below W.heap.size W w' := fun W hW => by
    rw [← hbb]
    exact contains_any (t0, t1, t2) (hW.read tupC_len)
  have HH := Lib.hid (And.intro hat (And.intro hlook (And.intro hOlt (And.intro m2 (And.intro h2 (And.intro hcon (And.intro hbb (And.intro hL (And.intro hv (And.intro hlen hF))))))))))
  clear h hat hlook hOlt m2 h2 hcon hbb hlen hO hF
  unfold tupC encP
  go_enter Tryz.func88, Tryz.ntmps88
  go_upto_region 1 with fail
  have hK' := hK
  clear hK
  have HB := Lib.hid (And.intro hO2 (And.intro hK2 (And.intro hT2 (And.intro hs2 (And.intro hW2 hK')))))
  clear hO2 hK2 hT2 hs2 hW2 hK'
  refine wp_region_held_drew (S := fun w' => Mod (fun _ => False) W2 w') (by kernel_rfl) ((Mod.refl _ W2).drew) (fun hS => ?_)
  refine takeD (i := 0) rfl (by kernel_rfl) (by kernel_rfl) (by kernel_rfl) (fun _ _ _ h => h) hS (Or.inl ⟨by rfl, fun w hSw => by go_simp; rfl⟩) ?_
  simp only [Act.put, List.setIfInBounds_toArray, List.set_cons_zero, List.set_cons_succ]
  refine takeD (i := 1) rfl (by kernel_rfl) (by kernel_rfl) (by kernel_rfl) (fun _ _ _ h => h) hS (Or.inl ⟨by rfl, fun w hSw => by go_simp; rfl⟩) ?_
  simp only [Act.put, List.setIfInBounds_toArray, List.set_cons_zero, List.set_cons_succ]
  refine takeD (i := 2) rfl (by kernel_rfl) (by kernel_rfl) (by kernel_rfl) (fun _ _ _ h => h) hS (Or.inl ⟨by rfl, fun w hSw => by go_simp; rfl⟩) ?_
  simp only [Act.put, List.setIfInBounds_toArray, List.set_cons_zero, List.set_cons_succ]
  refine takeD (i := 3) (v := (.map (some M))) rfl (by kernel_rfl) (by kernel_rfl) (by kernel_rfl) (fun _ _ _ h => h) hS (Or.inl ⟨by rfl, fun w hSw => by have c := cell_of (i := 0) (hSw.old HB.out.1 id) rfl; go_simp⟩) ?_
  simp only [Act.put, List.setIfInBounds_toArray, List.set_cons_zero, List.set_cons_succ]
  refine takeD (i := 4) rfl (by kernel_rfl) (by kernel_rfl) (by kernel_rfl) (fun _ _ _ h => h) hS (yieldsIf_load_mid (by rfl) 107 (.tmp 4) rfl K 0 rfl ([.string k0, .string k1]) _ (fun w hSw => row_range (hSw.old HB.out.2.1 id)) Tryz.underlying107 rfl infoPair) ?_
  simp only [Act.put, List.setIfInBounds_toArray, List.set_cons_zero, List.set_cons_succ]
  refine takeD (i := 5) (v := v) rfl (by kernel_rfl) (by kernel_rfl) (by kernel_rfl) (fun _ _ _ h => h) hS (Or.inl ⟨by rfl, fun w hSw => by have c := HH.out.2.1 w (HH.out.2.2.2.2.1.mod hSw id (fun _ _ _ _ h => h)); go_simp⟩) ?_
  simp only [Act.put, List.setIfInBounds_toArray, List.set_cons_zero, List.set_cons_succ]
  refine takeD (i := 6) rfl (by kernel_rfl) (by kernel_rfl) (by kernel_rfl) (fun _ _ _ h => h) hS (yieldsIf_load_mid (by rfl) 41 (.tmp 5) rfl (K + 1) 0 rfl ([.string t0, .string t1, .string t2]) _ (fun w hSw => row_range (hSw.old HB.out.2.2.1 id)) Tryz.underlying41 rfl infoTup0) ?_
  simp only [Act.put, List.setIfInBounds_toArray, List.set_cons_zero, List.set_cons_succ]
  refine wpAnyH_ready (rs := [7]) (by kernel_rfl) (by simp) ?_
  refine consD (i := 7) rfl (fun K' hK' => ?_) AllReadyH.nil
  rw [if_pos (by rfl)]
  go_simp
  refine (HH.out.2.2.2.2.2.1 _ (HH.out.1.1.mod (S := fun _ => False) (HH.out.2.2.2.1.trans' hS) (fun _ _ h => h))).mono ?_
  rintro e w3 ⟨rfl, hb3⟩
  dsimp only
  refine hK'.out _ _ (hS.trans' (Mod.of_below hb3 (fun _ => False))) (fun hS => ?_)
  clear hK' K'
  refine takeD (i := 8) rfl (by kernel_rfl) (by kernel_rfl) (by kernel_rfl) (fun _ _ _ h => h) hS (Or.inl ⟨by rfl, fun w hSw => by go_simp; rfl⟩) ?_
  simp only [Act.put, List.setIfInBounds_toArray, List.set_cons_zero, List.set_cons_succ]
  refine wpAnyH_done (by kernel_rfl) ?_ _
  have H3 := Lib.hid (And.intro hS hb3)
  clear hS hb3
  cases bb with
  | true =>
    simp only [Bool.not_true]
    go_wp2
    (try simp only [Exit.inBlock, Exit.then])
    refine bodyPost_end (results_none rfl _ _ _) rfl ?_
    refine ⟨rfl, ob, (HH.out.2.2.2.2.1.mod H3.out.1 id (fun _ _ _ _ h => h)).weaken (fun b hb => .inl hb), ?_, (HH.out.2.2.2.1.trans' H3.out.1).mono (fun _ _ h => h.elim)⟩
    unfold putC
    rw [hL, if_pos HH.out.2.2.2.2.2.2.1]
  | false =>
    simp only [Bool.not_false]
    go_upto_region 2 with fail
    obtain ⟨hO2, hK2, hT2, hs2, hW2, hKw⟩ := HB.out
    have hMlt := HH.out.2.2.2.2.1.map.lt
    have h3 : SlMap w3 M encP tupC 3 41 F ob := HH.out.2.2.2.2.1.mod H3.out.1 id (fun _ _ _ _ h => h)
    have hO3 := H3.out.1.old hO2 id
    have hK3 := H3.out.1.old hK2 id
    have hT3 := H3.out.1.old hT2 id
    have hs3 := H3.out.1.size
    have nM : ∀ (b : Nat) (cs : Array Value) (ty : TypeId), w3.heap[b]? = some (.cells cs ty (0, 0)) → b ≠ M := fun b cs ty hb e => by
      obtain ⟨es, ck, hm, _⟩ := h3.map
      rw [← e, hb] at hm
      cases hm
    have nO : ∀ b, v.ownBlock = some b → b ≠ O ∧ b < K := fun b hb => by
      refine ⟨fun e => ?_, ?_⟩
      · rw [e] at hb
        exact own_ne (by have := (h3.at (k0, k1)).1; rw [hL, hv] at this; exact this) hO3 (by decide) hb
      · have h1 := HH.out.1.2.1 b hb
        have h2 := HH.out.2.2.2.2.2.2.2.2.2.2 b h1
        omega
    have HN := Lib.hid (And.intro h3 (And.intro (nM O _ _ hO3) (And.intro (nM K _ _ hK3) (And.intro (nM (K + 1) _ _ hT3) (And.intro nO hs3)))))
    have HC := Lib.hid (And.intro hO3 (And.intro hK3 hT3))
    clear hO2 hK2 hT2 hs2 hW2 hKw hMlt h3 nM nO hs3 hO3 hK3 hT3
    refine wp_region_held_drew (S := fun w' => w'.heap[O]? = some (.cells #[.map (some M)] 124 (0, 0)) ∧ w'.heap[K]? = some (.cells #[.string k0, .string k1] 107 (0, 0)) ∧ w'.heap[K + 1]? = some (.cells #[.string t0, .string t1, .string t2] 41 (0, 0))) (by kernel_rfl) HC.out (fun hS => ?_)
    refine takeD (i := 0) rfl (by kernel_rfl) (by kernel_rfl) (by kernel_rfl) (fun _ _ _ h => h) hS (Or.inl ⟨by rfl, fun w hSw => by go_simp; rfl⟩) ?_
    simp only [Act.put, List.setIfInBounds_toArray, List.set_cons_zero, List.set_cons_succ]
    refine takeD (i := 1) rfl (by kernel_rfl) (by kernel_rfl) (by kernel_rfl) (fun _ _ _ h => h) hS (Or.inl ⟨by rfl, fun w hSw => by go_simp; rfl⟩) ?_
    simp only [Act.put, List.setIfInBounds_toArray, List.set_cons_zero, List.set_cons_succ]
    refine takeD (i := 2) rfl (by kernel_rfl) (by kernel_rfl) (by kernel_rfl) (fun _ _ _ h => h) hS (Or.inl ⟨by rfl, fun w hSw => by go_simp; rfl⟩) ?_
    simp only [Act.put, List.setIfInBounds_toArray, List.set_cons_zero, List.set_cons_succ]
    refine takeD (i := 3) (v := (.map (some M))) rfl (by kernel_rfl) (by kernel_rfl) (by kernel_rfl) (fun _ _ _ h => h) hS (Or.inl ⟨by rfl, fun w hSw => by have c := cell_of (i := 0) hSw.1 rfl; go_simp⟩) ?_
    simp only [Act.put, List.setIfInBounds_toArray, List.set_cons_zero, List.set_cons_succ]
    refine takeD (i := 4) rfl (by kernel_rfl) (by kernel_rfl) (by kernel_rfl) (fun _ _ _ h => h) hS (yieldsIf_load_mid (by rfl) 107 (.tmp 4) rfl K 0 rfl ([.string k0, .string k1]) _ (fun w hSw => row_range hSw.2.1) Tryz.underlying107 rfl infoPair) ?_
    simp only [Act.put, List.setIfInBounds_toArray, List.set_cons_zero, List.set_cons_succ]
    refine takeD (i := 5) rfl (by kernel_rfl) (by kernel_rfl) (by kernel_rfl) (fun _ _ _ h => h) hS (Or.inl ⟨by rfl, fun w hSw => by go_simp; rfl⟩) ?_
    simp only [Act.put, List.setIfInBounds_toArray, List.set_cons_zero, List.set_cons_succ]
    refine takeD (i := 6) rfl (by kernel_rfl) (by kernel_rfl) (by kernel_rfl) (fun _ _ _ h => h) hS (Or.inl ⟨by rfl, fun w hSw => by go_simp; rfl⟩) ?_
    simp only [Act.put, List.setIfInBounds_toArray, List.set_cons_zero, List.set_cons_succ]
    refine takeD (i := 7) rfl (by kernel_rfl) (by kernel_rfl) (by kernel_rfl) (fun _ _ _ h => h) hS (Or.inl ⟨by rfl, fun w hSw => by go_simp; rfl⟩) ?_
    simp only [Act.put, List.setIfInBounds_toArray, List.set_cons_zero, List.set_cons_succ]
    refine takeD (i := 8) (v := (.map (some M))) rfl (by kernel_rfl) (by kernel_rfl) (by kernel_rfl) (fun _ _ _ h => h) hS (Or.inl ⟨by rfl, fun w hSw => by have c := cell_of (i := 0) hSw.1 rfl; go_simp⟩) ?_
    simp only [Act.put, List.setIfInBounds_toArray, List.set_cons_zero, List.set_cons_succ]
    refine takeD (i := 9) rfl (by kernel_rfl) (by kernel_rfl) (by kernel_rfl) (fun _ _ _ h => h) hS (yieldsIf_load_mid (by rfl) 107 (.tmp 4) rfl K 0 rfl ([.string k0, .string k1]) _ (fun w hSw => row_range hSw.2.1) Tryz.underlying107 rfl infoPair) ?_
    simp only [Act.put, List.setIfInBounds_toArray, List.set_cons_zero, List.set_cons_succ]
    refine takeD (i := 11) rfl (by kernel_rfl) (by kernel_rfl) (by kernel_rfl) (fun _ _ _ h => h) hS (yieldsIf_load_mid (by rfl) 41 (.tmp 5) rfl (K + 1) 0 rfl ([.string t0, .string t1, .string t2]) _ (fun w hSw => row_range hSw.2.2) Tryz.underlying41 rfl infoTup0) ?_
    simp only [Act.put, List.setIfInBounds_toArray, List.set_cons_zero, List.set_cons_succ]
    refine wpAnyH_ready (rs := [10, 12]) (by kernel_rfl) (by simp) ?_
    refine consD (i := 10) rfl (fun K' hK' => ?_) (consD (i := 12) rfl (fun K' hK' => ?_) AllReadyH.nil)
    · have c := HH.out.2.1 w3.drew (HN.out.1.mod ((Mod.refl (fun _ => False) w3).drew) id (fun _ _ _ _ h => h))
      rw [if_pos (by rfl)]
      go_simp
      clear c
      refine hK'.out _ _ hS (fun hS => ?_)
      clear hK' K'
      refine wpAnyH_ready (rs := [12]) (by kernel_rfl) (by simp) ?_
      refine consD (i := 12) rfl (fun K' hK' => ?_) AllReadyH.nil
      rw [if_pos (by rfl)]
      go_simp
      refine hK'.out _ _ ⟨block_alloc hS.1 _, block_alloc hS.2.1 _, block_alloc hS.2.2 _⟩ (fun hS => ?_)
      clear hK' K'
      obtain ⟨v', w5, w6, hr5, hm5, hr6, hm6, hs6⟩ := SlMap.push (tm := 122) (HN.out.1.mod ((((Mod.refl (fun _ => False) w3).drew).alloc (.cells #[.string t0, .string t1, .string t2] 41))) id (fun _ _ _ _ h => h)) elemTup keyPair Tryz.underlying122 (k0, k1) (t0, t1, t2) 34 (block_new w3.drew (.cells #[.string t0, .string t1, .string t2] 41)) (by have := HH.out.2.2.2.2.2.2.2.2.2.1; omega) (by have := HH.out.2.2.2.2.2.2.2.2.2.1; unfold maxLen; omega)
      rw [hv] at hr5 hm5
      have hr6' : (Instr.mapUpdate 122 (.map (some M)) (.agg #[.string k0, .string k1]) v').run Tryz.prog w5 = .ok () w6 := hr6
      have n5 := HN.out.2.2.2.2.1
      have hm5O := hm5.old hS.1 (fun e => (n5 O e.symm).1 rfl)
      have hm5K := hm5.old hS.2.1 (fun e => by have := (n5 K e.symm).2; omega)
      have hm5T := hm5.old hS.2.2 (fun e => by have := (n5 (K + 1) e.symm).2; omega)
      have HP := Lib.hid (And.intro hm5 (And.intro hm6 (And.intro hs6 (And.intro hm5O (And.intro hm5K hm5T)))))
      clear hm5 hm6 hs6 hr6 n5 hm5O hm5K hm5T
      refine wpAnyH_ready (rs := [13]) (by kernel_rfl) (by simp) ?_
      refine consD (i := 13) rfl (fun K' hK' => ?_) AllReadyH.nil
      refine step_append_run rfl (.tmp 25) (.tmp 27) 34 rfl _ _ _ _ rfl rfl hr5 ?_
      clear hr5
      refine hK'.out _ _ ⟨HP.out.2.2.2.1, HP.out.2.2.2.2.1, HP.out.2.2.2.2.2⟩ (fun hS => ?_)
      clear hK' K'
      refine wpAnyH_ready (rs := [14]) (by kernel_rfl) (by simp) ?_
      refine consD (i := 14) rfl (fun K' hK' => ?_) AllReadyH.nil
      rw [if_pos (by rfl)]
      go_simp
      clear hr6'
      refine hK'.out _ _ ⟨HP.out.2.1.old hS.1 HN.out.2.1, HP.out.2.1.old hS.2.1 HN.out.2.2.1, HP.out.2.1.old hS.2.2 HN.out.2.2.2.1⟩ (fun hS => ?_)
      clear hK' K' hS
      refine wpAnyH_done (by kernel_rfl) ?_ _
      go_wp2
      (try simp only [Exit.inBlock, Exit.then])
      refine bodyPost_end (results_none rfl _ _ _) rfl ?_
      obtain ⟨p1, p2, p3, p4⟩ := HP.out
      have s0 := (HH.out.2.2.2.1.trans' H3.out.1).size
      have s6 := p2.size
      refine ⟨rfl, _, p3.weaken (fun b hb => ?_), ?_, ?_⟩
      · rcases hb with hb | ⟨hb1, hb2⟩
        · exact .inl hb
        · have e4 : (w3.drew.alloc (.cells #[.string t0, .string t1, .string t2] 41)).heap.size = w3.heap.size + 1 := by rw [World.size_alloc]; rfl
          exact .inr ⟨by omega, by omega⟩
      · rw [smc_gput]
        unfold putC
        rw [hL, if_neg (by rw [HH.out.2.2.2.2.2.2.1]; simp)]
      · have m4 : Mod (fun _ => False) w (w3.drew.alloc (.cells #[.string t0, .string t1, .string t2] 41)) := ((HH.out.2.2.2.1.trans' H3.out.1).drew).alloc _
        refine ((m4.mono (S' := fun b => b = M ∨ some b = (slv ob (k0, k1)).ownBlock) (fun _ _ h => h.elim)).trans p1 (fun b hb => .inl (.inr ?_))).trans p2 (fun b hb => .inl (.inl hb))
        rw [hv]
        exact hb
    · rw [if_pos (by rfl)]
      go_simp
      refine hK'.out _ _ ⟨block_alloc hS.1 _, block_alloc hS.2.1 _, block_alloc hS.2.2 _⟩ (fun hS => ?_)
      clear hK' K'
      refine wpAnyH_ready (rs := [10]) (by kernel_rfl) (by simp) ?_
      refine consD (i := 10) rfl (fun K' hK' => ?_) AllReadyH.nil
      have c := HH.out.2.1 (w3.alloc (.cells #[.string t0, .string t1, .string t2] 41)).drew (HN.out.1.mod (((Mod.refl (fun _ => False) w3).alloc _).drew) id (fun _ _ _ _ h => h))
      rw [if_pos (by rfl)]
      go_simp
      clear c
      refine hK'.out _ _ hS (fun hS => ?_)
      clear hK' K'
      obtain ⟨v', w5, w6, hr5, hm5, hr6, hm6, hs6⟩ := SlMap.push (tm := 122) (HN.out.1.mod ((((Mod.refl (fun _ => False) w3).drew).alloc (.cells #[.string t0, .string t1, .string t2] 41))) id (fun _ _ _ _ h => h)) elemTup keyPair Tryz.underlying122 (k0, k1) (t0, t1, t2) 34 (block_new w3.drew (.cells #[.string t0, .string t1, .string t2] 41)) (by have := HH.out.2.2.2.2.2.2.2.2.2.1; omega) (by have := HH.out.2.2.2.2.2.2.2.2.2.1; unfold maxLen; omega)
      rw [hv] at hr5 hm5
      have hr6' : (Instr.mapUpdate 122 (.map (some M)) (.agg #[.string k0, .string k1]) v').run Tryz.prog w5 = .ok () w6 := hr6
      have n5 := HN.out.2.2.2.2.1
      have hm5O := hm5.old hS.1 (fun e => (n5 O e.symm).1 rfl)
      have hm5K := hm5.old hS.2.1 (fun e => by have := (n5 K e.symm).2; omega)
      have hm5T := hm5.old hS.2.2 (fun e => by have := (n5 (K + 1) e.symm).2; omega)
      have HP := Lib.hid (And.intro hm5 (And.intro hm6 (And.intro hs6 (And.intro hm5O (And.intro hm5K hm5T)))))
      clear hm5 hm6 hs6 hr6 n5 hm5O hm5K hm5T
      refine wpAnyH_ready (rs := [13]) (by kernel_rfl) (by simp) ?_
      refine consD (i := 13) rfl (fun K' hK' => ?_) AllReadyH.nil
      refine step_append_run rfl (.tmp 25) (.tmp 27) 34 rfl _ _ _ _ rfl rfl hr5 ?_
      clear hr5
      refine hK'.out _ _ ⟨HP.out.2.2.2.1, HP.out.2.2.2.2.1, HP.out.2.2.2.2.2⟩ (fun hS => ?_)
      clear hK' K'
      refine wpAnyH_ready (rs := [14]) (by kernel_rfl) (by simp) ?_
      refine consD (i := 14) rfl (fun K' hK' => ?_) AllReadyH.nil
      rw [if_pos (by rfl)]
      go_simp
      clear hr6'
      refine hK'.out _ _ ⟨HP.out.2.1.old hS.1 HN.out.2.1, HP.out.2.1.old hS.2.1 HN.out.2.2.1, HP.out.2.1.old hS.2.2 HN.out.2.2.2.1⟩ (fun hS => ?_)
      clear hK' K' hS
      refine wpAnyH_done (by kernel_rfl) ?_ _
      go_wp2
      (try simp only [Exit.inBlock, Exit.then])
      refine bodyPost_end (results_none rfl _ _ _) rfl ?_
      obtain ⟨p1, p2, p3, p4⟩ := HP.out
      have s0 := (HH.out.2.2.2.1.trans' H3.out.1).size
      have s6 := p2.size
      refine ⟨rfl, _, p3.weaken (fun b hb => ?_), ?_, ?_⟩
      · rcases hb with hb | ⟨hb1, hb2⟩
        · exact .inl hb
        · have e4 : (w3.drew.alloc (.cells #[.string t0, .string t1, .string t2] 41)).heap.size = w3.heap.size + 1 := by rw [World.size_alloc]; rfl
          exact .inr ⟨by omega, by omega⟩
      · rw [smc_gput]
        unfold putC
        rw [hL, if_neg (by rw [HH.out.2.2.2.2.2.2.1]; simp)]
      · have m4 : Mod (fun _ => False) w (w3.drew.alloc (.cells #[.string t0, .string t1, .string t2] 41)) := ((HH.out.2.2.2.1.trans' H3.out.1).drew).alloc _
        refine ((m4.mono (S' := fun b => b = M ∨ some b = (slv ob (k0, k1)).ownBlock) (fun _ _ h => h.elim)).trans p1 (fun b hb => .inl (.inr ?_))).trans p2 (fun b hb => .inl (.inl hb))
        rw [hv]
        exact hb
end Go.Proofs.YtojjnfhgldjgbaaGreatDoor.Store
end
section
set_option linter.unusedVariables false
set_option linter.unusedSimpArgs false
namespace Go.Proofs.YtojjnfhgldjgbaaGreatDoor.Store
open Go.RowKit Go.Por Go.Sort Go.Proofs.YtojjnfhgldjgbaaGreatDoor.Watch

set_option maxRecDepth 100000 in
set_option maxHeartbeats 4000000 in
theorem putU {w : World} {O M : Nat} {F : Nat → Prop} {ob : List (ByteArray × (Value × List Tup))} (hO : w.heap[O]? = some (.cells #[.map (some M)] 128 (0, 0))) (h : SlMap w M (fun s => .string s) tupC 3 41 F ob) (hF : ∀ b, F b → b < w.heap.size) (k : ByteArray) (t : Tup) (hlen : (aget (smc ob) k).length ≤ 1099511627776) :
    Calls Tryz.prog 89 #[.pointer (some ⟨O, 0, none⟩), (.string k), .agg (tupC t).toArray] w fun e w' => e = .returned (.tuple #[]) ∧
      ∃ ob', SlMap w' M (fun s => .string s) tupC 3 41 (fun b => F b ∨ (w.heap.size ≤ b ∧ b < w'.heap.size)) ob' ∧ smc ob' = putC (smc ob) k t ∧ Mod (fun b => b = M ∨ some b = (slv ob k).ownBlock) w w' := by
  obtain ⟨t0, t1, t2⟩ := t
  obtain ⟨K, hK⟩ : ∃ K, w.heap.size = K := ⟨_, rfl⟩
  obtain ⟨L, hL⟩ : ∃ L, aget (smc ob) k = L := ⟨_, rfl⟩
  obtain ⟨v, hv⟩ : ∃ v, slv ob k = v := ⟨_, rfl⟩
  have hat := h.at k
  rw [hL, hv] at hat
  have hlook : ∀ W : World, SlMap W M (fun s => .string s) tupC 3 41 F ob → (Instr.lookup 126 (.map (some M)) (.string k) false).run Tryz.prog W = .ok v W := fun W hW => by
    rw [← hv]
    exact hW.look keyStr Tryz.underlying126 (zeroTups W) k
  have hOlt := lt_block hO
  obtain ⟨W2, hW2⟩ : ∃ W2, w.alloc (.cells #[.string t0, .string t1, .string t2] 41) = W2 := ⟨_, rfl⟩
  have m2 : Mod (fun _ => False) w W2 := by rw [← hW2]; exact (Mod.refl _ w).alloc _
  have hO2 : W2.heap[O]? = some (.cells #[.map (some M)] 128 (0, 0)) := m2.old hO id
  have hK2 : True := trivial
  have hT2 : W2.heap[K]? = some (.cells #[.string t0, .string t1, .string t2] 41 (0, 0)) := by
    have h1 := block_new w (.cells #[.string t0, .string t1, .string t2] 41)
    rw [hK] at h1
    rw [← hW2]
    exact h1
  have hs2 : W2.heap.size = K + 1 := by rw [← hW2, World.size_alloc, hK]
  have h2 : SlMap W2 M (fun s => .string s) tupC 3 41 F ob := h.mod m2 id (fun _ _ _ _ h => h)
  obtain ⟨bb, hbb⟩ : ∃ bb, tin (t0, t1, t2) L = bb := ⟨_, rfl⟩
  have hcon : ∀ W : World, OwnS tupC 3 W 41 v L → Calls Tryz.prog 54 #[v, .agg #[.string t0, .string t1, .string t2]] W fun e w' => e = .returned (.bool bb) ∧ Below W.heap.size W w' := fun W hW => by
    rw [← hbb]
    exact contains_any (t0, t1, t2) (hW.read tupC_len)
  have HH := Lib.hid (And.intro hat (And.intro hlook (And.intro hOlt (And.intro m2 (And.intro h2 (And.intro hcon (And.intro hbb (And.intro hL (And.intro hv (And.intro hlen hF))))))))))
  clear h hat hlook hOlt m2 h2 hcon hbb hlen hO hF
  unfold tupC
  go_enter Tryz.func89, Tryz.ntmps89
  go_upto_region 1 with fail
  have hK' := hK
  clear hK
  have HB := Lib.hid (And.intro hO2 (And.intro hK2 (And.intro hT2 (And.intro hs2 (And.intro hW2 hK')))))
  clear hO2 hK2 hT2 hs2 hW2 hK'
  refine wp_region_held_drew (S := fun w' => Mod (fun _ => False) W2 w') (by kernel_rfl) ((Mod.refl _ W2).drew) (fun hS => ?_)
  refine takeD (i := 0) rfl (by kernel_rfl) (by kernel_rfl) (by kernel_rfl) (fun _ _ _ h => h) hS (Or.inl ⟨by rfl, fun w hSw => by go_simp; rfl⟩) ?_
  simp only [Act.put, List.setIfInBounds_toArray, List.set_cons_zero, List.set_cons_succ]
  refine takeD (i := 1) rfl (by kernel_rfl) (by kernel_rfl) (by kernel_rfl) (fun _ _ _ h => h) hS (Or.inl ⟨by rfl, fun w hSw => by go_simp; rfl⟩) ?_
  simp only [Act.put, List.setIfInBounds_toArray, List.set_cons_zero, List.set_cons_succ]
  refine takeD (i := 2) rfl (by kernel_rfl) (by kernel_rfl) (by kernel_rfl) (fun _ _ _ h => h) hS (Or.inl ⟨by rfl, fun w hSw => by go_simp; rfl⟩) ?_
  simp only [Act.put, List.setIfInBounds_toArray, List.set_cons_zero, List.set_cons_succ]
  refine takeD (i := 3) (v := (.map (some M))) rfl (by kernel_rfl) (by kernel_rfl) (by kernel_rfl) (fun _ _ _ h => h) hS (Or.inl ⟨by rfl, fun w hSw => by have c := cell_of (i := 0) (hSw.old HB.out.1 id) rfl; go_simp⟩) ?_
  simp only [Act.put, List.setIfInBounds_toArray, List.set_cons_zero, List.set_cons_succ]
  refine takeD (i := 4) rfl (by kernel_rfl) (by kernel_rfl) (by kernel_rfl) (fun _ _ _ h => h) hS (Or.inl ⟨by rfl, fun w hSw => by go_simp; rfl⟩) ?_
  simp only [Act.put, List.setIfInBounds_toArray, List.set_cons_zero, List.set_cons_succ]
  refine takeD (i := 5) (v := v) rfl (by kernel_rfl) (by kernel_rfl) (by kernel_rfl) (fun _ _ _ h => h) hS (Or.inl ⟨by rfl, fun w hSw => by have c := HH.out.2.1 w (HH.out.2.2.2.2.1.mod hSw id (fun _ _ _ _ h => h)); go_simp⟩) ?_
  simp only [Act.put, List.setIfInBounds_toArray, List.set_cons_zero, List.set_cons_succ]
  refine takeD (i := 6) rfl (by kernel_rfl) (by kernel_rfl) (by kernel_rfl) (fun _ _ _ h => h) hS (yieldsIf_load_mid (by rfl) 41 (.tmp 5) rfl K 0 rfl ([.string t0, .string t1, .string t2]) _ (fun w hSw => row_range (hSw.old HB.out.2.2.1 id)) Tryz.underlying41 rfl infoTup0) ?_
  simp only [Act.put, List.setIfInBounds_toArray, List.set_cons_zero, List.set_cons_succ]
  refine wpAnyH_ready (rs := [7]) (by kernel_rfl) (by simp) ?_
  refine consD (i := 7) rfl (fun K' hK' => ?_) AllReadyH.nil
  rw [if_pos (by rfl)]
  go_simp
  refine (HH.out.2.2.2.2.2.1 _ (HH.out.1.1.mod (S := fun _ => False) (HH.out.2.2.2.1.trans' hS) (fun _ _ h => h))).mono ?_
  rintro e w3 ⟨rfl, hb3⟩
  dsimp only
  refine hK'.out _ _ (hS.trans' (Mod.of_below hb3 (fun _ => False))) (fun hS => ?_)
  clear hK' K'
  refine takeD (i := 8) rfl (by kernel_rfl) (by kernel_rfl) (by kernel_rfl) (fun _ _ _ h => h) hS (Or.inl ⟨by rfl, fun w hSw => by go_simp; rfl⟩) ?_
  simp only [Act.put, List.setIfInBounds_toArray, List.set_cons_zero, List.set_cons_succ]
  refine wpAnyH_done (by kernel_rfl) ?_ _
  have H3 := Lib.hid (And.intro hS hb3)
  clear hS hb3
  cases bb with
  | true =>
    simp only [Bool.not_true]
    go_wp2
    (try simp only [Exit.inBlock, Exit.then])
    refine bodyPost_end (results_none rfl _ _ _) rfl ?_
    refine ⟨rfl, ob, (HH.out.2.2.2.2.1.mod H3.out.1 id (fun _ _ _ _ h => h)).weaken (fun b hb => .inl hb), ?_, (HH.out.2.2.2.1.trans' H3.out.1).mono (fun _ _ h => h.elim)⟩
    unfold putC
    rw [hL, if_pos HH.out.2.2.2.2.2.2.1]
  | false =>
    simp only [Bool.not_false]
    go_upto_region 2 with fail
    obtain ⟨hO2, hK2, hT2, hs2, hW2, hKw⟩ := HB.out
    have hMlt := HH.out.2.2.2.2.1.map.lt
    have h3 : SlMap w3 M (fun s => .string s) tupC 3 41 F ob := HH.out.2.2.2.2.1.mod H3.out.1 id (fun _ _ _ _ h => h)
    have hO3 := H3.out.1.old hO2 id
    have hK3 : True := trivial
    have hT3 := H3.out.1.old hT2 id
    have hs3 := H3.out.1.size
    have nM : ∀ (b : Nat) (cs : Array Value) (ty : TypeId), w3.heap[b]? = some (.cells cs ty (0, 0)) → b ≠ M := fun b cs ty hb e => by
      obtain ⟨es, ck, hm, _⟩ := h3.map
      rw [← e, hb] at hm
      cases hm
    have nO : ∀ b, v.ownBlock = some b → b ≠ O ∧ b < K := fun b hb => by
      refine ⟨fun e => ?_, ?_⟩
      · rw [e] at hb
        exact own_ne (by have := (h3.at k).1; rw [hL, hv] at this; exact this) hO3 (by decide) hb
      · have h1 := HH.out.1.2.1 b hb
        have h2 := HH.out.2.2.2.2.2.2.2.2.2.2 b h1
        omega
    have HN := Lib.hid (And.intro h3 (And.intro (nM O _ _ hO3) (And.intro trivial (And.intro (nM K _ _ hT3) (And.intro nO hs3)))))
    have HC := Lib.hid (And.intro hO3 (And.intro hK3 hT3))
    clear hO2 hK2 hT2 hs2 hW2 hKw hMlt h3 nM nO hs3 hO3 hK3 hT3
    refine wp_region_held_drew (S := fun w' => w'.heap[O]? = some (.cells #[.map (some M)] 128 (0, 0)) ∧ True ∧ w'.heap[K]? = some (.cells #[.string t0, .string t1, .string t2] 41 (0, 0))) (by kernel_rfl) HC.out (fun hS => ?_)
    refine takeD (i := 0) rfl (by kernel_rfl) (by kernel_rfl) (by kernel_rfl) (fun _ _ _ h => h) hS (Or.inl ⟨by rfl, fun w hSw => by go_simp; rfl⟩) ?_
    simp only [Act.put, List.setIfInBounds_toArray, List.set_cons_zero, List.set_cons_succ]
    refine takeD (i := 1) rfl (by kernel_rfl) (by kernel_rfl) (by kernel_rfl) (fun _ _ _ h => h) hS (Or.inl ⟨by rfl, fun w hSw => by go_simp; rfl⟩) ?_
    simp only [Act.put, List.setIfInBounds_toArray, List.set_cons_zero, List.set_cons_succ]
    refine takeD (i := 2) rfl (by kernel_rfl) (by kernel_rfl) (by kernel_rfl) (fun _ _ _ h => h) hS (Or.inl ⟨by rfl, fun w hSw => by go_simp; rfl⟩) ?_
    simp only [Act.put, List.setIfInBounds_toArray, List.set_cons_zero, List.set_cons_succ]
    refine takeD (i := 3) (v := (.map (some M))) rfl (by kernel_rfl) (by kernel_rfl) (by kernel_rfl) (fun _ _ _ h => h) hS (Or.inl ⟨by rfl, fun w hSw => by have c := cell_of (i := 0) hSw.1 rfl; go_simp⟩) ?_
    simp only [Act.put, List.setIfInBounds_toArray, List.set_cons_zero, List.set_cons_succ]
    refine takeD (i := 4) rfl (by kernel_rfl) (by kernel_rfl) (by kernel_rfl) (fun _ _ _ h => h) hS (Or.inl ⟨by rfl, fun w hSw => by go_simp; rfl⟩) ?_
    simp only [Act.put, List.setIfInBounds_toArray, List.set_cons_zero, List.set_cons_succ]
    refine takeD (i := 5) rfl (by kernel_rfl) (by kernel_rfl) (by kernel_rfl) (fun _ _ _ h => h) hS (Or.inl ⟨by rfl, fun w hSw => by go_simp; rfl⟩) ?_
    simp only [Act.put, List.setIfInBounds_toArray, List.set_cons_zero, List.set_cons_succ]
    refine takeD (i := 6) rfl (by kernel_rfl) (by kernel_rfl) (by kernel_rfl) (fun _ _ _ h => h) hS (Or.inl ⟨by rfl, fun w hSw => by go_simp; rfl⟩) ?_
    simp only [Act.put, List.setIfInBounds_toArray, List.set_cons_zero, List.set_cons_succ]
    refine takeD (i := 7) rfl (by kernel_rfl) (by kernel_rfl) (by kernel_rfl) (fun _ _ _ h => h) hS (Or.inl ⟨by rfl, fun w hSw => by go_simp; rfl⟩) ?_
    simp only [Act.put, List.setIfInBounds_toArray, List.set_cons_zero, List.set_cons_succ]
    refine takeD (i := 8) (v := (.map (some M))) rfl (by kernel_rfl) (by kernel_rfl) (by kernel_rfl) (fun _ _ _ h => h) hS (Or.inl ⟨by rfl, fun w hSw => by have c := cell_of (i := 0) hSw.1 rfl; go_simp⟩) ?_
    simp only [Act.put, List.setIfInBounds_toArray, List.set_cons_zero, List.set_cons_succ]
    refine takeD (i := 9) rfl (by kernel_rfl) (by kernel_rfl) (by kernel_rfl) (fun _ _ _ h => h) hS (Or.inl ⟨by rfl, fun w hSw => by go_simp; rfl⟩) ?_
    simp only [Act.put, List.setIfInBounds_toArray, List.set_cons_zero, List.set_cons_succ]
    refine takeD (i := 11) rfl (by kernel_rfl) (by kernel_rfl) (by kernel_rfl) (fun _ _ _ h => h) hS (yieldsIf_load_mid (by rfl) 41 (.tmp 5) rfl K 0 rfl ([.string t0, .string t1, .string t2]) _ (fun w hSw => row_range hSw.2.2) Tryz.underlying41 rfl infoTup0) ?_
    simp only [Act.put, List.setIfInBounds_toArray, List.set_cons_zero, List.set_cons_succ]
    refine wpAnyH_ready (rs := [10, 12]) (by kernel_rfl) (by simp) ?_
    refine consD (i := 10) rfl (fun K' hK' => ?_) (consD (i := 12) rfl (fun K' hK' => ?_) AllReadyH.nil)
    · have c := HH.out.2.1 w3.drew (HN.out.1.mod ((Mod.refl (fun _ => False) w3).drew) id (fun _ _ _ _ h => h))
      rw [if_pos (by rfl)]
      go_simp
      clear c
      refine hK'.out _ _ hS (fun hS => ?_)
      clear hK' K'
      refine wpAnyH_ready (rs := [12]) (by kernel_rfl) (by simp) ?_
      refine consD (i := 12) rfl (fun K' hK' => ?_) AllReadyH.nil
      rw [if_pos (by rfl)]
      go_simp
      refine hK'.out _ _ ⟨block_alloc hS.1 _, trivial, block_alloc hS.2.2 _⟩ (fun hS => ?_)
      clear hK' K'
      obtain ⟨v', w5, w6, hr5, hm5, hr6, hm6, hs6⟩ := SlMap.push (tm := 126) (HN.out.1.mod ((((Mod.refl (fun _ => False) w3).drew).alloc (.cells #[.string t0, .string t1, .string t2] 41))) id (fun _ _ _ _ h => h)) elemTup keyStr Tryz.underlying126 k (t0, t1, t2) 34 (block_new w3.drew (.cells #[.string t0, .string t1, .string t2] 41)) (by have := HH.out.2.2.2.2.2.2.2.2.2.1; omega) (by have := HH.out.2.2.2.2.2.2.2.2.2.1; unfold maxLen; omega)
      rw [hv] at hr5 hm5
      have hr6' : (Instr.mapUpdate 126 (.map (some M)) (.string k) v').run Tryz.prog w5 = .ok () w6 := hr6
      have n5 := HN.out.2.2.2.2.1
      have hm5O := hm5.old hS.1 (fun e => (n5 O e.symm).1 rfl)
      have hm5K : True := trivial
      have hm5T := hm5.old hS.2.2 (fun e => by have := (n5 K e.symm).2; omega)
      have HP := Lib.hid (And.intro hm5 (And.intro hm6 (And.intro hs6 (And.intro hm5O (And.intro hm5K hm5T)))))
      clear hm5 hm6 hs6 hr6 n5 hm5O hm5K hm5T
      refine wpAnyH_ready (rs := [13]) (by kernel_rfl) (by simp) ?_
      refine consD (i := 13) rfl (fun K' hK' => ?_) AllReadyH.nil
      refine step_append_run rfl (.tmp 25) (.tmp 27) 34 rfl _ _ _ _ rfl rfl hr5 ?_
      clear hr5
      refine hK'.out _ _ ⟨HP.out.2.2.2.1, HP.out.2.2.2.2.1, HP.out.2.2.2.2.2⟩ (fun hS => ?_)
      clear hK' K'
      refine wpAnyH_ready (rs := [14]) (by kernel_rfl) (by simp) ?_
      refine consD (i := 14) rfl (fun K' hK' => ?_) AllReadyH.nil
      rw [if_pos (by rfl)]
      go_simp
      clear hr6'
      refine hK'.out _ _ ⟨HP.out.2.1.old hS.1 HN.out.2.1, trivial, HP.out.2.1.old hS.2.2 HN.out.2.2.2.1⟩ (fun hS => ?_)
      clear hK' K' hS
      refine wpAnyH_done (by kernel_rfl) ?_ _
      go_wp2
      (try simp only [Exit.inBlock, Exit.then])
      refine bodyPost_end (results_none rfl _ _ _) rfl ?_
      obtain ⟨p1, p2, p3, p4⟩ := HP.out
      have s0 := (HH.out.2.2.2.1.trans' H3.out.1).size
      have s6 := p2.size
      refine ⟨rfl, _, p3.weaken (fun b hb => ?_), ?_, ?_⟩
      · rcases hb with hb | ⟨hb1, hb2⟩
        · exact .inl hb
        · have e4 : (w3.drew.alloc (.cells #[.string t0, .string t1, .string t2] 41)).heap.size = w3.heap.size + 1 := by rw [World.size_alloc]; rfl
          exact .inr ⟨by omega, by omega⟩
      · rw [smc_gput]
        unfold putC
        rw [hL, if_neg (by rw [HH.out.2.2.2.2.2.2.1]; simp)]
      · have m4 : Mod (fun _ => False) w (w3.drew.alloc (.cells #[.string t0, .string t1, .string t2] 41)) := ((HH.out.2.2.2.1.trans' H3.out.1).drew).alloc _
        refine ((m4.mono (S' := fun b => b = M ∨ some b = (slv ob k).ownBlock) (fun _ _ h => h.elim)).trans p1 (fun b hb => .inl (.inr ?_))).trans p2 (fun b hb => .inl (.inl hb))
        rw [hv]
        exact hb
    · rw [if_pos (by rfl)]
      go_simp
      refine hK'.out _ _ ⟨block_alloc hS.1 _, trivial, block_alloc hS.2.2 _⟩ (fun hS => ?_)
      clear hK' K'
      refine wpAnyH_ready (rs := [10]) (by kernel_rfl) (by simp) ?_
      refine consD (i := 10) rfl (fun K' hK' => ?_) AllReadyH.nil
      have c := HH.out.2.1 (w3.alloc (.cells #[.string t0, .string t1, .string t2] 41)).drew (HN.out.1.mod (((Mod.refl (fun _ => False) w3).alloc _).drew) id (fun _ _ _ _ h => h))
      rw [if_pos (by rfl)]
      go_simp
      clear c
      refine hK'.out _ _ hS (fun hS => ?_)
      clear hK' K'
      obtain ⟨v', w5, w6, hr5, hm5, hr6, hm6, hs6⟩ := SlMap.push (tm := 126) (HN.out.1.mod ((((Mod.refl (fun _ => False) w3).drew).alloc (.cells #[.string t0, .string t1, .string t2] 41))) id (fun _ _ _ _ h => h)) elemTup keyStr Tryz.underlying126 k (t0, t1, t2) 34 (block_new w3.drew (.cells #[.string t0, .string t1, .string t2] 41)) (by have := HH.out.2.2.2.2.2.2.2.2.2.1; omega) (by have := HH.out.2.2.2.2.2.2.2.2.2.1; unfold maxLen; omega)
      rw [hv] at hr5 hm5
      have hr6' : (Instr.mapUpdate 126 (.map (some M)) (.string k) v').run Tryz.prog w5 = .ok () w6 := hr6
      have n5 := HN.out.2.2.2.2.1
      have hm5O := hm5.old hS.1 (fun e => (n5 O e.symm).1 rfl)
      have hm5K : True := trivial
      have hm5T := hm5.old hS.2.2 (fun e => by have := (n5 K e.symm).2; omega)
      have HP := Lib.hid (And.intro hm5 (And.intro hm6 (And.intro hs6 (And.intro hm5O (And.intro hm5K hm5T)))))
      clear hm5 hm6 hs6 hr6 n5 hm5O hm5K hm5T
      refine wpAnyH_ready (rs := [13]) (by kernel_rfl) (by simp) ?_
      refine consD (i := 13) rfl (fun K' hK' => ?_) AllReadyH.nil
      refine step_append_run rfl (.tmp 25) (.tmp 27) 34 rfl _ _ _ _ rfl rfl hr5 ?_
      clear hr5
      refine hK'.out _ _ ⟨HP.out.2.2.2.1, HP.out.2.2.2.2.1, HP.out.2.2.2.2.2⟩ (fun hS => ?_)
      clear hK' K'
      refine wpAnyH_ready (rs := [14]) (by kernel_rfl) (by simp) ?_
      refine consD (i := 14) rfl (fun K' hK' => ?_) AllReadyH.nil
      rw [if_pos (by rfl)]
      go_simp
      clear hr6'
      refine hK'.out _ _ ⟨HP.out.2.1.old hS.1 HN.out.2.1, trivial, HP.out.2.1.old hS.2.2 HN.out.2.2.2.1⟩ (fun hS => ?_)
      clear hK' K' hS
      refine wpAnyH_done (by kernel_rfl) ?_ _
      go_wp2
      (try simp only [Exit.inBlock, Exit.then])
      refine bodyPost_end (results_none rfl _ _ _) rfl ?_
      obtain ⟨p1, p2, p3, p4⟩ := HP.out
      have s0 := (HH.out.2.2.2.1.trans' H3.out.1).size
      have s6 := p2.size
      refine ⟨rfl, _, p3.weaken (fun b hb => ?_), ?_, ?_⟩
      · rcases hb with hb | ⟨hb1, hb2⟩
        · exact .inl hb
        · have e4 : (w3.drew.alloc (.cells #[.string t0, .string t1, .string t2] 41)).heap.size = w3.heap.size + 1 := by rw [World.size_alloc]; rfl
          exact .inr ⟨by omega, by omega⟩
      · rw [smc_gput]
        unfold putC
        rw [hL, if_neg (by rw [HH.out.2.2.2.2.2.2.1]; simp)]
      · have m4 : Mod (fun _ => False) w (w3.drew.alloc (.cells #[.string t0, .string t1, .string t2] 41)) := ((HH.out.2.2.2.1.trans' H3.out.1).drew).alloc _
        refine ((m4.mono (S' := fun b => b = M ∨ some b = (slv ob k).ownBlock) (fun _ _ h => h.elim)).trans p1 (fun b hb => .inl (.inr ?_))).trans p2 (fun b hb => .inl (.inl hb))
        rw [hv]
        exact hb
end Go.Proofs.YtojjnfhgldjgbaaGreatDoor.Store
end
section
set_option linter.unusedVariables false
set_option linter.unusedSimpArgs false
namespace Go.Por.Tupl
open Go

def okByte (c : UInt8) : Bool := c == 95 || (48 ≤ c && c ≤ 57) || (97 ≤ c && c ≤ 122)
/-- Is it a name? -/
def nameL (l : List UInt8) : Bool := !l.isEmpty && decide (l.length ≤ 32) && l.all okByte
def cset : List UInt8 := [97, 98, 99, 100, 101, 102, 103, 104, 105, 106, 107, 108, 109, 110, 111, 112, 113, 114, 115, 116, 117, 118, 119, 120, 121, 122, 48, 49, 50, 51, 52, 53, 54, 55, 56, 57, 95]
theorem cset_ok (c : UInt8) : cset.contains c = okByte c := by
  have h : ∀ n : Nat, n < 256 → cset.contains (UInt8.ofNat n) = okByte (UInt8.ofNat n) := by decide +kernel
  have h2 := h c.toNat c.toNat_lt
  rwa [UInt8.ofNat_toNat] at h2
theorem dropWhile_nil {α : Type} {p : α → Bool} : ∀ {l : List α}, l.dropWhile p = [] ↔ ∀ x ∈ l, p x = true
  | [] => by simp
  | x :: l => by
    rw [List.dropWhile_cons]
    by_cases h : p x = true
    · rw [if_pos h, dropWhile_nil]
      constructor
      · intro k y hy
        rcases List.mem_cons.1 hy with e | hy
        · rw [e]; exact h
        · exact k y hy
      · exact fun k y hy => k y (List.mem_cons_of_mem _ hy)
    · rw [if_neg h]
      constructor
      · intro k; cases k
      · exact fun k => absurd (k x List.mem_cons_self) h
theorem dropWhile_head {α : Type} {p : α → Bool} : ∀ {l : List α} {x : α} {r : List α}, l.dropWhile p = x :: r → p x = false
  | y :: l, x, r, h => by
    rw [List.dropWhile_cons] at h
    by_cases k : p y = true
    · rw [if_pos k] at h; exact dropWhile_head h
    · rw [if_neg k] at h
      cases h
      simpa using k
theorem trim_nil (l cs : List UInt8) : Lib.trimS l cs = [] ↔ ∀ c ∈ l, cs.contains c = true := by
  unfold Lib.trimS Lib.trimLeftS
  rw [dropWhile_nil]
  unfold Lib.trimRightS
  constructor
  · intro h
    have h1 : l.reverse.dropWhile (cs.contains ·) = [] := by
      cases e : l.reverse.dropWhile (cs.contains ·) with
      | nil => rfl
      | cons x r =>
        have hx := dropWhile_head e
        have := h x (by rw [e]; simp)
        rw [hx] at this
        cases this
    exact fun c hc => dropWhile_nil.1 h1 c (List.mem_reverse.2 hc)
  · intro h c hc
    have h1 : l.reverse.dropWhile (cs.contains ·) = [] := dropWhile_nil.2 (fun x hx => h x (List.mem_reverse.1 hx))
    rw [h1] at hc
    cases hc
theorem trim_name (l : List UInt8) : (Lib.trimS l cset).isEmpty = l.all okByte := by
  rw [Bool.eq_iff_iff, List.isEmpty_iff, trim_nil, List.all_eq_true]
  simp only [cset_ok]
/-- The error's number of an object. -/
def objE (l : List UInt8) : Int :=
  if Lib.indexByte l 58 < 0 then 51 else if nameL (l.take (Lib.indexByte l 58).toNat) && nameL (l.drop ((Lib.indexByte l 58).toNat + 1)) then 0 else 50
/-- The error's number of a user. -/
def usrE (l : List UInt8) : Int :=
  if Lib.indexByte l 35 < 0 then objE l
  else if objE (l.take (Lib.indexByte l 35).toNat) = 0 then (if nameL (l.drop ((Lib.indexByte l 35).toNat + 1)) then 0 else 50) else objE (l.take (Lib.indexByte l 35).toNat)
/-- The error's number of a tuple. -/
def tchk (x : ByteArray × ByteArray × ByteArray) : Int :=
  if objE x.1.data.toList = 0 then (if nameL x.2.1.data.toList then usrE x.2.2.data.toList else 50) else objE x.1.data.toList
theorem indexByte_lo (l : List UInt8) (c : UInt8) : -1 ≤ Lib.indexByte l c := by
  induction l with
  | nil => simp [Lib.indexByte]
  | cons b l ih =>
    unfold Lib.indexByte
    split
    · omega
    · split <;> omega
theorem indexByte_hi (l : List UInt8) (c : UInt8) : Lib.indexByte l c < l.length ∨ l = [] := by
  induction l with
  | nil => exact .inr rfl
  | cons b l ih =>
    left
    unfold Lib.indexByte
    simp only [List.length_cons]
    split
    · omega
    · rename_i h
      split
      · omega
      · rename_i h2
        rcases ih with k | k
        · omega
        · rw [k] at h2; simp [Lib.indexByte] at h2
theorem indexByte_lt {l : List UInt8} {c : UInt8} (h : 0 ≤ Lib.indexByte l c) : (Lib.indexByte l c).toNat < l.length := by
  rcases indexByte_hi l c with k | k
  · omega
  · rw [k] at h; simp [Lib.indexByte] at h
end Go.Por.Tupl
end
section
set_option linter.unusedVariables false
set_option linter.unusedSimpArgs false
namespace Go.Proofs.YtojjnfhgldjgbaaGreatDoor.Store
open Go.RowKit Go.Por Go.Sort Go.Proofs.YtojjnfhgldjgbaaGreatDoor.Watch Go.Por.Tupl

abbrev Span := Int × Int
/-- The tuples with their spans. -/
abbrev Sp := List (Tup × List Span)
def maxRev : Int := 1125899906842624
/-- The revision of the last change. -/
def lastOf (l : List Span) : Int := match l.getLast? with
  | none => 0
  | some x => max x.1 x.2
def thereOf (l : List Span) : Bool := match l.getLast? with
  | none => false
  | some x => decide (x.2 = 0)
def hasS (rev : Int) (x : Span) : Bool := decide (x.1 ≤ rev) && (decide (x.2 = 0) || decide (rev < x.2))
/-- The last span ends. -/
def shutL (l : List Span) (rev : Int) : List Span := l.set (l.length - 1) ((l.getLast?.getD (0, 0)).1, rev)
def stepA (rev : Int) (sp : Sp) (m : Mut) : Sp :=
  if m.1 = true then (if thereOf (aget sp m.2) = true then gput sp m.2 (shutL (aget sp m.2) rev) else sp)
  else (if thereOf (aget sp m.2) = true then sp else gput sp m.2 (aget sp m.2 ++ [(rev, 0)]))
def applyA (rev : Int) (sp : Sp) (muts : List Mut) : Sp := muts.foldl (stepA rev) sp
def checkL (sp : Sp) (wm rev : Int) : List Tup → List Mut → Int
  | _, [] => 0
  | seen, m :: ms =>
    if tchk m.2 ≠ 0 then tchk m.2
    else if tin m.2 seen = true then 5
    else if rev ≤ lastOf (aget sp m.2) ∨ rev ≤ wm then 70
    else checkL sp wm rev (seen ++ [m.2]) ms
/-- The error's number of mutations. -/
def checkA (sp : Sp) (wm rev : Int) (muts : List Mut) : Int := if rev < 1 ∨ maxRev < rev then 1 else checkL sp wm rev [] muts
def readA (wm rev : Int) : Int := if rev < 0 then 1 else if rev < wm then 71 else 0
def atA (sp : Sp) (t : Tup) (rev : Int) : Bool := (aget sp t).any (hasS rev)
def flatA (sp : Sp) : List RowT := sp.flatMap (fun e => e.2.map (fun x => (e.1, x.1, x.2)))
/-- A tuple's spans: one behind the other, none of them empty. -/
structure Chain (l : List Span) : Prop where
  each : ∀ x ∈ l, 1 ≤ x.1 ∧ x.1 ≤ maxRev ∧ (x.2 = 0 ∨ (x.1 < x.2 ∧ x.2 ≤ maxRev))
  next : l.Pairwise (fun x y => x.2 ≠ 0 ∧ x.2 < y.1)
structure Good (sp : Sp) : Prop where
  nodup : (sp.map Prod.fst).Nodup
  full : ∀ e ∈ sp, e.2 ≠ [] ∧ Chain e.2
/-- A row stands ahead of another: by tuple, then by revision. -/
def rlt (a b : RowT) : Prop := tlt a.1 b.1 ∨ a.1 = b.1 ∧ a.2.1 < b.2.1
theorem rlt_irrefl (a : RowT) : ¬ rlt a a := by
  rintro (h | ⟨_, h⟩)
  · exact tlt_irrefl _ h
  · omega
theorem rlt_trans {a b c : RowT} (h : rlt a b) (k : rlt b c) : rlt a c := by
  obtain ⟨a1, a2, a3⟩ := a
  obtain ⟨b1, b2, b3⟩ := b
  obtain ⟨c1, c2, c3⟩ := c
  unfold rlt at *
  simp only at *
  rcases h with h | ⟨rfl, h⟩ <;> rcases k with k | ⟨rfl, k⟩
  · exact .inl (tlt_trans h k)
  · exact .inl h
  · exact .inl k
  · exact .inr ⟨rfl, by omega⟩
theorem mem_flatA {sp : Sp} {r : RowT} : r ∈ flatA sp ↔ ∃ l, (r.1, l) ∈ sp ∧ (r.2.1, r.2.2) ∈ l := by
  unfold flatA
  rw [List.mem_flatMap]
  constructor
  · rintro ⟨e, he, hr⟩
    obtain ⟨x, hx, rfl⟩ := List.mem_map.1 hr
    exact ⟨e.2, he, hx⟩
  · rintro ⟨l, hl, hx⟩
    exact ⟨_, hl, List.mem_map.2 ⟨_, hx, rfl⟩⟩
theorem aget_some {sp : Sp} (hn : (sp.map Prod.fst).Nodup) {t : Tup} {l : List Span} (h : (t, l) ∈ sp) : aget sp t = l := by
  unfold aget
  rw [(gfind_some hn).2 h]
  rfl
theorem aget_none {sp : Sp} {t : Tup} (h : t ∉ sp.map Prod.fst) : aget sp t = [] := by
  unfold aget
  rw [gfind_none.2 h]
  rfl
theorem aget_gput {sp : Sp} (hn : (sp.map Prod.fst).Nodup) (t : Tup) (l : List Span) (q : Tup) : aget (gput sp t l) q = if q = t then l else aget sp q := by
  unfold aget
  rw [gfind_gput hn]
  by_cases h : q = t
  · rw [if_pos h, if_pos h]; rfl
  · rw [if_neg h, if_neg h]
theorem Good.chain {sp : Sp} (h : Good sp) (t : Tup) : Chain (aget sp t) := by
  by_cases hk : t ∈ sp.map Prod.fst
  · obtain ⟨e, he, rfl⟩ := List.mem_map.1 hk
    rw [aget_some h.nodup he]
    exact (h.full e he).2
  · rw [aget_none hk]
    exact ⟨(fun x hx => by cases hx), List.Pairwise.nil⟩
theorem Good.key {sp : Sp} (h : Good sp) (t : Tup) : t ∈ sp.map Prod.fst ↔ aget sp t ≠ [] := by
  constructor
  · intro hk
    obtain ⟨e, he, rfl⟩ := List.mem_map.1 hk
    rw [aget_some h.nodup he]
    exact (h.full e he).1
  · intro h1
    by_cases hk : t ∈ sp.map Prod.fst
    · exact hk
    · exact absurd (aget_none hk) h1
theorem mem_flat_get {sp : Sp} (h : Good sp) {r : RowT} : r ∈ flatA sp ↔ (r.2.1, r.2.2) ∈ aget sp r.1 := by
  rw [mem_flatA]
  constructor
  · rintro ⟨l, hl, hx⟩
    rw [aget_some h.nodup hl]; exact hx
  · intro hx
    have hk := (h.key r.1).2 (fun e => by rw [e] at hx; cases hx)
    obtain ⟨e, he, e1⟩ := List.mem_map.1 hk
    refine ⟨e.2, ?_, ?_⟩
    · rw [← e1]; exact he
    · rw [← e1, aget_some h.nodup he] at hx
      exact hx
theorem Good.nil : Good [] := ⟨List.nodup_nil, (fun e he => by cases he)⟩
theorem Good.put {sp : Sp} (h : Good sp) (t : Tup) {l : List Span} (h1 : l ≠ []) (h2 : Chain l) : Good (gput sp t l) :=
  ⟨gput_nodup h.nodup t l, fun e he => by
    rcases mem_gput.1 he with rfl | ⟨_, h3⟩
    · exact ⟨h1, h2⟩
    · exact h.full e h3⟩
end Go.Proofs.YtojjnfhgldjgbaaGreatDoor.Store
end
section
set_option linter.unusedVariables false
set_option linter.unusedSimpArgs false
namespace Go.Proofs.YtojjnfhgldjgbaaGreatDoor.Store
open Go.RowKit Go.Por Go.Sort Go.Proofs.YtojjnfhgldjgbaaGreatDoor.Watch

def spanC (x : Span) : List Value := [.int .i64 x.1, .int .i64 x.2]
theorem spanC_len (x : Span) : (spanC x).length = 2 := rfl
theorem spanC_one (x : Span) : ∀ u ∈ spanC x, u.oneCell' = true := by
  intro v hv
  simp only [spanC, List.mem_cons, List.not_mem_nil, or_false] at hv
  rcases hv with rfl | rfl <;> rfl
theorem elemSpan : Elem Tryz.prog 116 119 spanC 2 16 :=
  Elem.mk' (z := .agg #[.int .i64 0, .int .i64 0]) Tryz.underlying116 (by kernel_rfl) rfl spanC_len spanC_one (by decide)
theorem infoSpan : (Tryz.prog.info? 119).map (·.size) = some 2 := by kernel_rfl
theorem zeroSpans (w : World) : (zeroValue 116).run Tryz.prog w = .ok (.slice none 0 0) w := by kernel_rfl
/-- The blocks of a store. -/
structure StMem (w : World) (s O U M MO MU : Nat) (F : Nat → Prop) (lm : List (Tup × (Value × List Span))) (lo : List (PairT × (Value × List Tup))) (lu : List (ByteArray × (Value × List Tup))) (wm : Int) : Prop where
  hs : w.heap[s]? = some (.cells #[.map (some M), .pointer (some ⟨O, 0, none⟩), .pointer (some ⟨U, 0, none⟩), .int .i64 wm] 111 (0, 0))
  hO : w.heap[O]? = some (.cells #[.map (some MO)] 124 (0, 0))
  hU : w.heap[U]? = some (.cells #[.map (some MU)] 128 (0, 0))
  m : SlMap w M encT spanC 2 119 F lm
  o : SlMap w MO encP tupC 3 41 F lo
  u : SlMap w MU (fun s => .string s) tupC 3 41 F lu
  dis : ∀ e ∈ lo, ∀ e' ∈ lu, ∀ b, e.2.1.ownBlock = some b → e'.2.1.ownBlock ≠ some b
  ne1 : M ≠ MO
  ne2 : M ≠ MU
  ne3 : MO ≠ MU
  fs : F s
  fO : F O
  fU : F U
  fM : F M
  fMO : F MO
  fMU : F MU
  lt : ∀ b, F b → b < w.heap.size
def StoreIs (w : World) (s : Nat) (F : Nat → Prop) (sp : Sp) (ob : List (PairT × List Tup)) (us : List (ByteArray × List Tup)) (wm : Int) : Prop :=
  ∃ O U M MO MU lm lo lu, StMem w s O U M MO MU F lm lo lu wm ∧ smc lm = sp ∧ smc lo = ob ∧ smc lu = us
theorem StMem.mod {w w' : World} {s O U M MO MU : Nat} {F S : Nat → Prop} {lm : List (Tup × (Value × List Span))} {lo : List (PairT × (Value × List Tup))} {lu : List (ByteArray × (Value × List Tup))} {wm : Int}
    (h : StMem w s O U M MO MU F lm lo lu wm) (hm : Mod S w w') (hS : ∀ b, F b → ¬ S b) : StMem w' s O U M MO MU F lm lo lu wm :=
  ⟨hm.old h.hs (hS _ h.fs), hm.old h.hO (hS _ h.fO), hm.old h.hU (hS _ h.fU), h.m.mod hm (hS _ h.fM) (fun e he b hb => hS _ (h.m.foot e he b hb)), h.o.mod hm (hS _ h.fMO) (fun e he b hb => hS _ (h.o.foot e he b hb)), h.u.mod hm (hS _ h.fMU) (fun e he b hb => hS _ (h.u.foot e he b hb)), h.dis, h.ne1, h.ne2, h.ne3, h.fs, h.fO, h.fU, h.fM, h.fMO, h.fMU, fun b hb => Nat.lt_of_lt_of_le (h.lt b hb) hm.size⟩
theorem StoreIs.mod {w w' : World} {s : Nat} {F S : Nat → Prop} {sp : Sp} {ob : List (PairT × List Tup)} {us : List (ByteArray × List Tup)} {wm : Int} (h : StoreIs w s F sp ob us wm) (hm : Mod S w w') (hS : ∀ b, F b → ¬ S b) : StoreIs w' s F sp ob us wm := by
  obtain ⟨O, U, M, MO, MU, lm, lo, lu, h, h1, h2, h3⟩ := h
  exact ⟨O, U, M, MO, MU, lm, lo, lu, h.mod hm hS, h1, h2, h3⟩

set_option maxRecDepth 100000 in
set_option maxHeartbeats 1600000 in
theorem newIndexO (w : World) : Calls Tryz.prog 52 #[] w fun e w' => ∃ m b, e = .returned (.pointer (some ⟨b, 0, none⟩)) ∧ w'.heap[m]? = some (.map #[] 0) ∧ w'.heap[b]? = some (.cells #[.map (some m)] 124 (0, 0)) ∧ w.heap.size ≤ m ∧ w.heap.size ≤ b ∧ b < w'.heap.size ∧ m < w'.heap.size ∧ Below w.heap.size w w' := by
  go_enter Tryz.func52, Tryz.ntmps52
  have hmm := @run_makeMap Tryz.prog
  go_wp2
  go_ret
  refine ⟨w.heap.size, w.heap.size + 1, rfl, block_alloc (block_new w _) _, ?_, by omega, by omega, ?_, ?_, ((Below.refl _ w).alloc (Nat.le_refl _) _).alloc (by simp) _⟩
  · have h1 := block_new (w.alloc (.map #[] 0)) (.cells #[.map (some w.heap.size)] 124)
    rwa [World.size_alloc] at h1
  · rw [World.size_alloc, World.size_alloc]; omega
  · rw [World.size_alloc, World.size_alloc]; omega
set_option maxRecDepth 100000 in
set_option maxHeartbeats 1600000 in
theorem newIndexU (w : World) : Calls Tryz.prog 53 #[] w fun e w' => ∃ m b, e = .returned (.pointer (some ⟨b, 0, none⟩)) ∧ w'.heap[m]? = some (.map #[] 0) ∧ w'.heap[b]? = some (.cells #[.map (some m)] 128 (0, 0)) ∧ w.heap.size ≤ m ∧ w.heap.size ≤ b ∧ b < w'.heap.size ∧ m < w'.heap.size ∧ Below w.heap.size w w' := by
  go_enter Tryz.func53, Tryz.ntmps53
  have hmm := @run_makeMap Tryz.prog
  go_wp2
  go_ret
  refine ⟨w.heap.size, w.heap.size + 1, rfl, block_alloc (block_new w _) _, ?_, by omega, by omega, ?_, ?_, ((Below.refl _ w).alloc (Nat.le_refl _) _).alloc (by simp) _⟩
  · have h1 := block_new (w.alloc (.map #[] 0)) (.cells #[.map (some w.heap.size)] 128)
    rwa [World.size_alloc] at h1
  · rw [World.size_alloc, World.size_alloc]; omega
  · rw [World.size_alloc, World.size_alloc]; omega
/-- An empty store's blocks. -/
theorem StoreIs.made {w w' : World} {s O U M MO MU : Nat} (hb : Below w.heap.size w w') (h1 : w'.heap[M]? = some (.map #[] 0)) (h2 : w'.heap[MO]? = some (.map #[] 0)) (h3 : w'.heap[MU]? = some (.map #[] 0))
    (h4 : w'.heap[O]? = some (.cells #[.map (some MO)] 124 (0, 0))) (h5 : w'.heap[U]? = some (.cells #[.map (some MU)] 128 (0, 0)))
    (h6 : w'.heap[s]? = some (.cells #[.map (some M), .pointer (some ⟨O, 0, none⟩), .pointer (some ⟨U, 0, none⟩), .int .i64 0] 111 (0, 0)))
    (n1 : M ≠ MO) (n2 : M ≠ MU) (n3 : MO ≠ MU) (l1 : w.heap.size ≤ M) (l2 : w.heap.size ≤ MO) (l3 : w.heap.size ≤ MU) (l4 : w.heap.size ≤ O) (l5 : w.heap.size ≤ U) (l6 : w.heap.size ≤ s) :
    StoreIs w' s (fun b => w.heap.size ≤ b ∧ b < w'.heap.size) [] [] [] 0 :=
  ⟨O, U, M, MO, MU, [], [], [], ⟨h6, h4, h5, ⟨⟨#[], 0, h1, rfl, List.nodup_nil, (fun e he => by cases he), List.nodup_nil⟩, fun e he => (by cases he), fun e he => (by cases he), fun e he => (by cases he)⟩, ⟨⟨#[], 0, h2, rfl, List.nodup_nil, (fun e he => by cases he), List.nodup_nil⟩, fun e he => (by cases he), fun e he => (by cases he), fun e he => (by cases he)⟩, ⟨⟨#[], 0, h3, rfl, List.nodup_nil, (fun e he => by cases he), List.nodup_nil⟩, fun e he => (by cases he), fun e he => (by cases he), fun e he => (by cases he)⟩,
    fun e he => (by cases he), n1, n2, n3, ⟨l6, lt_block h6⟩, ⟨l4, lt_block h4⟩, ⟨l5, lt_block h5⟩, ⟨l1, lt_block h1⟩, ⟨l2, lt_block h2⟩, ⟨l3, lt_block h3⟩, fun b hb => hb.2⟩, rfl, rfl, rfl⟩
set_option maxRecDepth 100000 in
set_option maxHeartbeats 1600000 in
/-- store.New. -/
theorem new_any (w : World) : Calls Tryz.prog 24 #[] w fun e w' => ∃ s, e = .returned (.pointer (some ⟨s, 0, none⟩)) ∧ StoreIs w' s (fun b => w.heap.size ≤ b ∧ b < w'.heap.size) [] [] [] 0 ∧ Below w.heap.size w w' := by
  go_enter Tryz.func24, Tryz.ntmps24
  have hmm := @run_makeMap Tryz.prog
  go_wp2_with (first | (go_at_call 52; refine (newIndexO _).mono ?_; rintro e w1 ⟨m1, b1, rfl, hm1, hb1, lm1, lb1, ub1, um1, below1⟩) | (go_at_call 53; refine (newIndexU _).mono ?_; rintro e w2 ⟨m2, b2, rfl, hm2, hb2, lm2, lb2, ub2, um2, below2⟩))
  go_ret
  clear hmm
  have m0 : Mod (fun _ => False) (w.alloc (.map #[] 0)) w1 := Mod.of_below below1 _
  have m1' : Mod (fun _ => False) w1 w2 := Mod.of_below below2 _
  have hs0 : (w.alloc (.map #[] 0)).heap.size = w.heap.size + 1 := by rw [World.size_alloc]
  have h0 := block_alloc (m1'.old (m0.old (block_new w (.map #[] 0)) id) id) (.cells #[.map (some w.heap.size), .pointer (some ⟨b1, 0, none⟩), .pointer (some ⟨b2, 0, none⟩), .int .i64 0] 111)
  refine ⟨w2.heap.size, rfl, StoreIs.made (M := w.heap.size) (MO := m1) (MU := m2) (O := b1) (U := b2) ?_ h0 (block_alloc (m1'.old hm1 id) _) (block_alloc hm2 _) (block_alloc (m1'.old hb1 id) _) (block_alloc hb2 _) (block_new w2 _) ?_ ?_ ?_ ?_ ?_ ?_ ?_ ?_ ?_, ?_⟩
  any_goals omega
  all_goals exact ((((Below.refl _ w).alloc (Nat.le_refl _) _).trans (below1.mono (by omega))).trans (below2.mono (by omega))).alloc (by omega) _
end Go.Proofs.YtojjnfhgldjgbaaGreatDoor.Store
end
