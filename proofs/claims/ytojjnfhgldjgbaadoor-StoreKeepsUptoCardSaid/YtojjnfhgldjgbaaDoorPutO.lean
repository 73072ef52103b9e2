/- (*store.index).put, keys: pairs. -/
import Derived.Test.YtojjnfhgldjgbaaDoorKeyP
import Derived.Test.YtojjnfhgldjgbaaDoorSlMap
import Derived.Test.YtojjnfhgldjgbaaDoorPutP
set_option linter.unusedVariables false
set_option linter.unusedSimpArgs false
namespace Go.Proofs.YtojjnfhgldjgbaaDoor.Store
open Go.RowKit Go.Por Go.Sort Go.Proofs.YtojjnfhgldjgbaaDoor.Watch

set_option maxRecDepth 100000 in
set_option maxHeartbeats 4000000 in
theorem putO {w : World} {O M : Nat} {F : Nat → Prop} {ob : List (PairT × (Value × List Tup))} (hO : w.heap[O]? = some (.cells #[.map (some M)] 66 (0, 0))) (h : SlMap w M encP tupC 3 27 F ob) (hF : ∀ b, F b → b < w.heap.size) (k : PairT) (t : Tup) (hlen : (aget (smc ob) k).length ≤ 1099511627776) :
    Calls Tryd.prog 26 #[.pointer (some ⟨O, 0, none⟩), (encP k), .agg (tupC t).toArray] w fun e w' => e = .returned (.tuple #[]) ∧
      ∃ ob', SlMap w' M encP tupC 3 27 (fun b => F b ∨ (w.heap.size ≤ b ∧ b < w'.heap.size)) ob' ∧ smc ob' = putC (smc ob) k t ∧ Mod (fun b => b = M ∨ some b = (slv ob k).ownBlock) w w' := by
  obtain ⟨t0, t1, t2⟩ := t
  obtain ⟨k0, k1⟩ := k
  obtain ⟨K, hK⟩ : ∃ K, w.heap.size = K := ⟨_, rfl⟩
  obtain ⟨L, hL⟩ : ∃ L, aget (smc ob) (k0, k1) = L := ⟨_, rfl⟩
  obtain ⟨v, hv⟩ : ∃ v, slv ob (k0, k1) = v := ⟨_, rfl⟩
  have hat := h.at (k0, k1)
  rw [hL, hv] at hat
  have hlook : ∀ W : World, SlMap W M encP tupC 3 27 F ob → (Instr.lookup 64 (.map (some M)) (.agg #[.string k0, .string k1]) false).run Tryd.prog W = .ok v W := fun W hW => by
    rw [← hv]
    exact hW.look keyPair Tryd.underlying64 (zeroTups W) (k0, k1)
  have hOlt := lt_block hO
  obtain ⟨W2, hW2⟩ : ∃ W2, (w.alloc (.cells #[.string k0, .string k1] 48)).alloc (.cells #[.string t0, .string t1, .string t2] 27) = W2 := ⟨_, rfl⟩
  have m2 : Mod (fun _ => False) w W2 := by rw [← hW2]; exact ((Mod.refl _ w).alloc _).alloc _
  have hO2 : W2.heap[O]? = some (.cells #[.map (some M)] 66 (0, 0)) := m2.old hO id
  have hK2 : W2.heap[K]? = some (.cells #[.string k0, .string k1] 48 (0, 0)) := by
    rw [← hW2, ← hK]
    exact block_alloc (block_new w _) _
  have hT2 : W2.heap[K + 1]? = some (.cells #[.string t0, .string t1, .string t2] 27 (0, 0)) := by
    have h1 := block_new (w.alloc (.cells #[.string k0, .string k1] 48)) (.cells #[.string t0, .string t1, .string t2] 27)
    rw [World.size_alloc, hK] at h1
    rw [← hW2]
    exact h1
  have hs2 : W2.heap.size = K + 2 := by rw [← hW2, World.size_alloc, World.size_alloc, hK]
  have h2 : SlMap W2 M encP tupC 3 27 F ob := h.mod m2 id (fun _ _ _ _ h => h)
  obtain ⟨bb, hbb⟩ : ∃ bb, tin (t0, t1, t2) L = bb := ⟨_, rfl⟩
  have hcon : ∀ W : World, OwnS tupC 3 W 27 v L → Calls Tryd.prog 38 #[v, .agg #[.string t0, .string t1, .string t2]] W fun e w' => e = .returned (.bool bb) ∧ Below W.heap.size W w' := fun W hW => by
    rw [← hbb]
    exact contains_any (t0, t1, t2) (hW.read tupC_len)
  have HH := Lib.hid (And.intro hat (And.intro hlook (And.intro hOlt (And.intro m2 (And.intro h2 (And.intro hcon (And.intro hbb (And.intro hL (And.intro hv (And.intro hlen hF))))))))))
  clear h hat hlook hOlt m2 h2 hcon hbb hlen hO hF
  unfold tupC encP
  go_enter Tryd.func26, Tryd.ntmps26
  go_upto_region 1 with fail
  have hK' := hK
  clear hK
  have HB := Lib.hid (And.intro hO2 (And.intro hK2 (And.intro hT2 (And.intro hs2 (And.intro hW2 hK')))))
  clear hO2 hK2 hT2 hs2 hW2 hK'
  refine wp_region_held_drew (S := fun w' => Mod (fun _ => False) W2 w') (by kernel_rfl) ((Mod.refl _ W2).drew) (fun hS => ?_)
  refine takeD (i := 0) rfl (by kernel_rfl) (by kernel_rfl) (by kernel_rfl) (fun _ _ _ h => h) hS (Or.inl ⟨by rfl, fun w hSw => by go_simp; rfl⟩) ?_
  simp only [Act.put, List.setIfInBounds_toArray, List.set_cons_zero, List.set_cons_succ]
  refine takeD (i := 1) rfl (by kernel_rfl) (by kernel_rfl) (by kernel_rfl) (fun _ _ _ h => h) hS (Or.inl ⟨by rfl, fun w hSw => by go_simp; rfl⟩) ?_
  simp only [Act.put, List.setIfInBounds_toArray, List.set_cons_zero, List.set_cons_succ]
  refine takeD (i := 2) rfl (by kernel_rfl) (by kernel_rfl) (by kernel_rfl) (fun _ _ _ h => h) hS (Or.inl ⟨by rfl, fun w hSw => by go_simp; rfl⟩) ?_
  simp only [Act.put, List.setIfInBounds_toArray, List.set_cons_zero, List.set_cons_succ]
  refine takeD (i := 3) (v := (.map (some M))) rfl (by kernel_rfl) (by kernel_rfl) (by kernel_rfl) (fun _ _ _ h => h) hS (Or.inl ⟨by rfl, fun w hSw => by have c := cell_of (i := 0) (hSw.old HB.out.1 id) rfl; go_simp⟩) ?_
  simp only [Act.put, List.setIfInBounds_toArray, List.set_cons_zero, List.set_cons_succ]
  refine takeD (i := 4) rfl (by kernel_rfl) (by kernel_rfl) (by kernel_rfl) (fun _ _ _ h => h) hS (yieldsIf_load_mid (by rfl) 48 (.tmp 4) rfl K 0 rfl ([.string k0, .string k1]) _ (fun w hSw => row_range (hSw.old HB.out.2.1 id)) Tryd.underlying48 rfl infoPair) ?_
  simp only [Act.put, List.setIfInBounds_toArray, List.set_cons_zero, List.set_cons_succ]
  refine takeD (i := 5) (v := v) rfl (by kernel_rfl) (by kernel_rfl) (by kernel_rfl) (fun _ _ _ h => h) hS (Or.inl ⟨by rfl, fun w hSw => by have c := HH.out.2.1 w (HH.out.2.2.2.2.1.mod hSw id (fun _ _ _ _ h => h)); go_simp⟩) ?_
  simp only [Act.put, List.setIfInBounds_toArray, List.set_cons_zero, List.set_cons_succ]
  refine takeD (i := 6) rfl (by kernel_rfl) (by kernel_rfl) (by kernel_rfl) (fun _ _ _ h => h) hS (yieldsIf_load_mid (by rfl) 27 (.tmp 5) rfl (K + 1) 0 rfl ([.string t0, .string t1, .string t2]) _ (fun w hSw => row_range (hSw.old HB.out.2.2.1 id)) Tryd.underlying27 rfl infoTup0) ?_
  simp only [Act.put, List.setIfInBounds_toArray, List.set_cons_zero, List.set_cons_succ]
  refine wpAnyH_ready (rs := [7]) (by kernel_rfl) (by simp) ?_
  refine consD (i := 7) rfl (fun K' hK' => ?_) AllReadyH.nil
  rw [if_pos (by rfl)]
  go_simp
  refine (HH.out.2.2.2.2.2.1 _ (HH.out.1.1.mod (S := fun _ => False) (HH.out.2.2.2.1.trans' hS) (fun _ _ h => h))).mono ?_
  rintro e w3 ⟨rfl, hb3⟩
  dsimp only
  refine hK'.out _ _ (hS.trans' (Mod.of_below hb3 (fun _ => False))) (fun hS => ?_)
  clear hK' K'
  refine takeD (i := 8) rfl (by kernel_rfl) (by kernel_rfl) (by kernel_rfl) (fun _ _ _ h => h) hS (Or.inl ⟨by rfl, fun w hSw => by go_simp; rfl⟩) ?_
  simp only [Act.put, List.setIfInBounds_toArray, List.set_cons_zero, List.set_cons_succ]
  refine wpAnyH_done (by kernel_rfl) ?_ _
  have H3 := Lib.hid (And.intro hS hb3)
  clear hS hb3
  cases bb with
  | true =>
    simp only [Bool.not_true]
    go_wp2
    (try simp only [Exit.inBlock, Exit.then])
    refine bodyPost_end (results_none rfl _ _ _) rfl ?_
    refine ⟨rfl, ob, (HH.out.2.2.2.2.1.mod H3.out.1 id (fun _ _ _ _ h => h)).weaken (fun b hb => .inl hb), ?_, (HH.out.2.2.2.1.trans' H3.out.1).mono (fun _ _ h => h.elim)⟩
    unfold putC
    rw [hL, if_pos HH.out.2.2.2.2.2.2.1]
  | false =>
    simp only [Bool.not_false]
    go_upto_region 2 with fail
    obtain ⟨hO2, hK2, hT2, hs2, hW2, hKw⟩ := HB.out
    have hMlt := HH.out.2.2.2.2.1.map.lt
    have h3 : SlMap w3 M encP tupC 3 27 F ob := HH.out.2.2.2.2.1.mod H3.out.1 id (fun _ _ _ _ h => h)
    have hO3 := H3.out.1.old hO2 id
    have hK3 := H3.out.1.old hK2 id
    have hT3 := H3.out.1.old hT2 id
    have hs3 := H3.out.1.size
    have nM : ∀ (b : Nat) (cs : Array Value) (ty : TypeId), w3.heap[b]? = some (.cells cs ty (0, 0)) → b ≠ M := fun b cs ty hb e => by
      obtain ⟨es, ck, hm, _⟩ := h3.map
      rw [← e, hb] at hm
      cases hm
    have nO : ∀ b, v.ownBlock = some b → b ≠ O ∧ b < K := fun b hb => by
      refine ⟨fun e => ?_, ?_⟩
      · rw [e] at hb
        exact own_ne (by have := (h3.at (k0, k1)).1; rw [hL, hv] at this; exact this) hO3 (by decide) hb
      · have h1 := HH.out.1.2.1 b hb
        have h2 := HH.out.2.2.2.2.2.2.2.2.2.2 b h1
        omega
    have HN := Lib.hid (And.intro h3 (And.intro (nM O _ _ hO3) (And.intro (nM K _ _ hK3) (And.intro (nM (K + 1) _ _ hT3) (And.intro nO hs3)))))
    have HC := Lib.hid (And.intro hO3 (And.intro hK3 hT3))
    clear hO2 hK2 hT2 hs2 hW2 hKw hMlt h3 nM nO hs3 hO3 hK3 hT3
    refine wp_region_held_drew (S := fun w' => w'.heap[O]? = some (.cells #[.map (some M)] 66 (0, 0)) ∧ w'.heap[K]? = some (.cells #[.string k0, .string k1] 48 (0, 0)) ∧ w'.heap[K + 1]? = some (.cells #[.string t0, .string t1, .string t2] 27 (0, 0))) (by kernel_rfl) HC.out (fun hS => ?_)
    refine takeD (i := 0) rfl (by kernel_rfl) (by kernel_rfl) (by kernel_rfl) (fun _ _ _ h => h) hS (Or.inl ⟨by rfl, fun w hSw => by go_simp; rfl⟩) ?_
    simp only [Act.put, List.setIfInBounds_toArray, List.set_cons_zero, List.set_cons_succ]
    refine takeD (i := 1) rfl (by kernel_rfl) (by kernel_rfl) (by kernel_rfl) (fun _ _ _ h => h) hS (Or.inl ⟨by rfl, fun w hSw => by go_simp; rfl⟩) ?_
    simp only [Act.put, List.setIfInBounds_toArray, List.set_cons_zero, List.set_cons_succ]
    refine takeD (i := 2) rfl (by kernel_rfl) (by kernel_rfl) (by kernel_rfl) (fun _ _ _ h => h) hS (Or.inl ⟨by rfl, fun w hSw => by go_simp; rfl⟩) ?_
    simp only [Act.put, List.setIfInBounds_toArray, List.set_cons_zero, List.set_cons_succ]
    refine takeD (i := 3) (v := (.map (some M))) rfl (by kernel_rfl) (by kernel_rfl) (by kernel_rfl) (fun _ _ _ h => h) hS (Or.inl ⟨by rfl, fun w hSw => by have c := cell_of (i := 0) hSw.1 rfl; go_simp⟩) ?_
    simp only [Act.put, List.setIfInBounds_toArray, List.set_cons_zero, List.set_cons_succ]
    refine takeD (i := 4) rfl (by kernel_rfl) (by kernel_rfl) (by kernel_rfl) (fun _ _ _ h => h) hS (yieldsIf_load_mid (by rfl) 48 (.tmp 4) rfl K 0 rfl ([.string k0, .string k1]) _ (fun w hSw => row_range hSw.2.1) Tryd.underlying48 rfl infoPair) ?_
    simp only [Act.put, List.setIfInBounds_toArray, List.set_cons_zero, List.set_cons_succ]
    refine takeD (i := 5) rfl (by kernel_rfl) (by kernel_rfl) (by kernel_rfl) (fun _ _ _ h => h) hS (Or.inl ⟨by rfl, fun w hSw => by go_simp; rfl⟩) ?_
    simp only [Act.put, List.setIfInBounds_toArray, List.set_cons_zero, List.set_cons_succ]
    refine takeD (i := 6) rfl (by kernel_rfl) (by kernel_rfl) (by kernel_rfl) (fun _ _ _ h => h) hS (Or.inl ⟨by rfl, fun w hSw => by go_simp; rfl⟩) ?_
    simp only [Act.put, List.setIfInBounds_toArray, List.set_cons_zero, List.set_cons_succ]
    refine takeD (i := 7) rfl (by kernel_rfl) (by kernel_rfl) (by kernel_rfl) (fun _ _ _ h => h) hS (Or.inl ⟨by rfl, fun w hSw => by go_simp; rfl⟩) ?_
    simp only [Act.put, List.setIfInBounds_toArray, List.set_cons_zero, List.set_cons_succ]
    refine takeD (i := 8) (v := (.map (some M))) rfl (by kernel_rfl) (by kernel_rfl) (by kernel_rfl) (fun _ _ _ h => h) hS (Or.inl ⟨by rfl, fun w hSw => by have c := cell_of (i := 0) hSw.1 rfl; go_simp⟩) ?_
    simp only [Act.put, List.setIfInBounds_toArray, List.set_cons_zero, List.set_cons_succ]
    refine takeD (i := 9) rfl (by kernel_rfl) (by kernel_rfl) (by kernel_rfl) (fun _ _ _ h => h) hS (yieldsIf_load_mid (by rfl) 48 (.tmp 4) rfl K 0 rfl ([.string k0, .string k1]) _ (fun w hSw => row_range hSw.2.1) Tryd.underlying48 rfl infoPair) ?_
    simp only [Act.put, List.setIfInBounds_toArray, List.set_cons_zero, List.set_cons_succ]
    refine takeD (i := 11) rfl (by kernel_rfl) (by kernel_rfl) (by kernel_rfl) (fun _ _ _ h => h) hS (yieldsIf_load_mid (by rfl) 27 (.tmp 5) rfl (K + 1) 0 rfl ([.string t0, .string t1, .string t2]) _ (fun w hSw => row_range hSw.2.2) Tryd.underlying27 rfl infoTup0) ?_
    simp only [Act.put, List.setIfInBounds_toArray, List.set_cons_zero, List.set_cons_succ]
    refine wpAnyH_ready (rs := [10, 12]) (by kernel_rfl) (by simp) ?_
    refine consD (i := 10) rfl (fun K' hK' => ?_) (consD (i := 12) rfl (fun K' hK' => ?_) AllReadyH.nil)
    · have c := HH.out.2.1 w3.drew (HN.out.1.mod ((Mod.refl (fun _ => False) w3).drew) id (fun _ _ _ _ h => h))
      rw [if_pos (by rfl)]
      go_simp
      clear c
      refine hK'.out _ _ hS (fun hS => ?_)
      clear hK' K'
      refine wpAnyH_ready (rs := [12]) (by kernel_rfl) (by simp) ?_
      refine consD (i := 12) rfl (fun K' hK' => ?_) AllReadyH.nil
      rw [if_pos (by rfl)]
      go_simp
      refine hK'.out _ _ ⟨block_alloc hS.1 _, block_alloc hS.2.1 _, block_alloc hS.2.2 _⟩ (fun hS => ?_)
      clear hK' K'
      obtain ⟨v', w5, w6, hr5, hm5, hr6, hm6, hs6⟩ := SlMap.push (tm := 64) (HN.out.1.mod ((((Mod.refl (fun _ => False) w3).drew).alloc (.cells #[.string t0, .string t1, .string t2] 27))) id (fun _ _ _ _ h => h)) elemTup keyPair Tryd.underlying64 (k0, k1) (t0, t1, t2) 63 (block_new w3.drew (.cells #[.string t0, .string t1, .string t2] 27)) (by have := HH.out.2.2.2.2.2.2.2.2.2.1; omega) (by have := HH.out.2.2.2.2.2.2.2.2.2.1; unfold maxLen; omega)
      rw [hv] at hr5 hm5
      have hr6' : (Instr.mapUpdate 64 (.map (some M)) (.agg #[.string k0, .string k1]) v').run Tryd.prog w5 = .ok () w6 := hr6
      have n5 := HN.out.2.2.2.2.1
      have hm5O := hm5.old hS.1 (fun e => (n5 O e.symm).1 rfl)
      have hm5K := hm5.old hS.2.1 (fun e => by have := (n5 K e.symm).2; omega)
      have hm5T := hm5.old hS.2.2 (fun e => by have := (n5 (K + 1) e.symm).2; omega)
      have HP := Lib.hid (And.intro hm5 (And.intro hm6 (And.intro hs6 (And.intro hm5O (And.intro hm5K hm5T)))))
      clear hm5 hm6 hs6 hr6 n5 hm5O hm5K hm5T
      refine wpAnyH_ready (rs := [13]) (by kernel_rfl) (by simp) ?_
      refine consD (i := 13) rfl (fun K' hK' => ?_) AllReadyH.nil
      refine step_append_run rfl (.tmp 25) (.tmp 27) 63 rfl _ _ _ _ rfl rfl hr5 ?_
      clear hr5
      refine hK'.out _ _ ⟨HP.out.2.2.2.1, HP.out.2.2.2.2.1, HP.out.2.2.2.2.2⟩ (fun hS => ?_)
      clear hK' K'
      refine wpAnyH_ready (rs := [14]) (by kernel_rfl) (by simp) ?_
      refine consD (i := 14) rfl (fun K' hK' => ?_) AllReadyH.nil
      rw [if_pos (by rfl)]
      go_simp
      clear hr6'
      refine hK'.out _ _ ⟨HP.out.2.1.old hS.1 HN.out.2.1, HP.out.2.1.old hS.2.1 HN.out.2.2.1, HP.out.2.1.old hS.2.2 HN.out.2.2.2.1⟩ (fun hS => ?_)
      clear hK' K' hS
      refine wpAnyH_done (by kernel_rfl) ?_ _
      go_wp2
      (try simp only [Exit.inBlock, Exit.then])
      refine bodyPost_end (results_none rfl _ _ _) rfl ?_
      obtain ⟨p1, p2, p3, p4⟩ := HP.out
      have s0 := (HH.out.2.2.2.1.trans' H3.out.1).size
      have s6 := p2.size
      refine ⟨rfl, _, p3.weaken (fun b hb => ?_), ?_, ?_⟩
      · rcases hb with hb | ⟨hb1, hb2⟩
        · exact .inl hb
        · have e4 : (w3.drew.alloc (.cells #[.string t0, .string t1, .string t2] 27)).heap.size = w3.heap.size + 1 := by rw [World.size_alloc]; rfl
          exact .inr ⟨by omega, by omega⟩
      · rw [smc_gput]
        unfold putC
        rw [hL, if_neg (by rw [HH.out.2.2.2.2.2.2.1]; simp)]
      · have m4 : Mod (fun _ => False) w (w3.drew.alloc (.cells #[.string t0, .string t1, .string t2] 27)) := ((HH.out.2.2.2.1.trans' H3.out.1).drew).alloc _
        refine ((m4.mono (S' := fun b => b = M ∨ some b = (slv ob (k0, k1)).ownBlock) (fun _ _ h => h.elim)).trans p1 (fun b hb => .inl (.inr ?_))).trans p2 (fun b hb => .inl (.inl hb))
        rw [hv]
        exact hb
    · rw [if_pos (by rfl)]
      go_simp
      refine hK'.out _ _ ⟨block_alloc hS.1 _, block_alloc hS.2.1 _, block_alloc hS.2.2 _⟩ (fun hS => ?_)
      clear hK' K'
      refine wpAnyH_ready (rs := [10]) (by kernel_rfl) (by simp) ?_
      refine consD (i := 10) rfl (fun K' hK' => ?_) AllReadyH.nil
      have c := HH.out.2.1 (w3.alloc (.cells #[.string t0, .string t1, .string t2] 27)).drew (HN.out.1.mod (((Mod.refl (fun _ => False) w3).alloc _).drew) id (fun _ _ _ _ h => h))
      rw [if_pos (by rfl)]
      go_simp
      clear c
      refine hK'.out _ _ hS (fun hS => ?_)
      clear hK' K'
      obtain ⟨v', w5, w6, hr5, hm5, hr6, hm6, hs6⟩ := SlMap.push (tm := 64) (HN.out.1.mod ((((Mod.refl (fun _ => False) w3).drew).alloc (.cells #[.string t0, .string t1, .string t2] 27))) id (fun _ _ _ _ h => h)) elemTup keyPair Tryd.underlying64 (k0, k1) (t0, t1, t2) 63 (block_new w3.drew (.cells #[.string t0, .string t1, .string t2] 27)) (by have := HH.out.2.2.2.2.2.2.2.2.2.1; omega) (by have := HH.out.2.2.2.2.2.2.2.2.2.1; unfold maxLen; omega)
      rw [hv] at hr5 hm5
      have hr6' : (Instr.mapUpdate 64 (.map (some M)) (.agg #[.string k0, .string k1]) v').run Tryd.prog w5 = .ok () w6 := hr6
      have n5 := HN.out.2.2.2.2.1
      have hm5O := hm5.old hS.1 (fun e => (n5 O e.symm).1 rfl)
      have hm5K := hm5.old hS.2.1 (fun e => by have := (n5 K e.symm).2; omega)
      have hm5T := hm5.old hS.2.2 (fun e => by have := (n5 (K + 1) e.symm).2; omega)
      have HP := Lib.hid (And.intro hm5 (And.intro hm6 (And.intro hs6 (And.intro hm5O (And.intro hm5K hm5T)))))
      clear hm5 hm6 hs6 hr6 n5 hm5O hm5K hm5T
      refine wpAnyH_ready (rs := [13]) (by kernel_rfl) (by simp) ?_
      refine consD (i := 13) rfl (fun K' hK' => ?_) AllReadyH.nil
      refine step_append_run rfl (.tmp 25) (.tmp 27) 63 rfl _ _ _ _ rfl rfl hr5 ?_
      clear hr5
      refine hK'.out _ _ ⟨HP.out.2.2.2.1, HP.out.2.2.2.2.1, HP.out.2.2.2.2.2⟩ (fun hS => ?_)
      clear hK' K'
      refine wpAnyH_ready (rs := [14]) (by kernel_rfl) (by simp) ?_
      refine consD (i := 14) rfl (fun K' hK' => ?_) AllReadyH.nil
      rw [if_pos (by rfl)]
      go_simp
      clear hr6'
      refine hK'.out _ _ ⟨HP.out.2.1.old hS.1 HN.out.2.1, HP.out.2.1.old hS.2.1 HN.out.2.2.1, HP.out.2.1.old hS.2.2 HN.out.2.2.2.1⟩ (fun hS => ?_)
      clear hK' K' hS
      refine wpAnyH_done (by kernel_rfl) ?_ _
      go_wp2
      (try simp only [Exit.inBlock, Exit.then])
      refine bodyPost_end (results_none rfl _ _ _) rfl ?_
      obtain ⟨p1, p2, p3, p4⟩ := HP.out
      have s0 := (HH.out.2.2.2.1.trans' H3.out.1).size
      have s6 := p2.size
      refine ⟨rfl, _, p3.weaken (fun b hb => ?_), ?_, ?_⟩
      · rcases hb with hb | ⟨hb1, hb2⟩
        · exact .inl hb
        · have e4 : (w3.drew.alloc (.cells #[.string t0, .string t1, .string t2] 27)).heap.size = w3.heap.size + 1 := by rw [World.size_alloc]; rfl
          exact .inr ⟨by omega, by omega⟩
      · rw [smc_gput]
        unfold putC
        rw [hL, if_neg (by rw [HH.out.2.2.2.2.2.2.1]; simp)]
      · have m4 : Mod (fun _ => False) w (w3.drew.alloc (.cells #[.string t0, .string t1, .string t2] 27)) := ((HH.out.2.2.2.1.trans' H3.out.1).drew).alloc _
        refine ((m4.mono (S' := fun b => b = M ∨ some b = (slv ob (k0, k1)).ownBlock) (fun _ _ h => h.elim)).trans p1 (fun b hb => .inl (.inr ?_))).trans p2 (fun b hb => .inl (.inl hb))
        rw [hv]
        exact hb
end Go.Proofs.YtojjnfhgldjgbaaDoor.Store
