/- Apply. -/
import Derived.Test.YtojjnfhgldjgbaaDoorTouch
set_option linter.unusedVariables false
set_option linter.unusedSimpArgs false
namespace Go.Proofs.YtojjnfhgldjgbaaDoor.Store
open Go.RowKit Go.Por Go.Sort Go.Proofs.YtojjnfhgldjgbaaDoor.Watch Go.Por.Tupl
section
variable {w : World} {s O U M MO MU : Nat} {F : Nat → Prop} {lm : List (Tup × (Value × List Span))} {lo : List (PairT × (Value × List Tup))} {lu : List (ByteArray × (Value × List Tup))} {wm : Int}
theorem Short.mono {N N' : Nat} (h : Short N lm lo lu) (hn : N ≤ N') : Short N' lm lo lu := ⟨fun k => Nat.le_trans (h.m k) hn, fun k => Nat.le_trans (h.o k) hn, fun k => Nat.le_trans (h.u k) hn⟩
theorem StMem.grown {w' w'' : World} (h : StMem w' s O U M MO MU (grew F w w') lm lo lu wm) (hl : ∀ b, F b → b < w.heap.size) (hw : w.heap.size ≤ w'.heap.size) (hb : Below w'.heap.size w' w'') : StMem w'' s O U M MO MU (grew F w w'') lm lo lu wm := by
  have hs := hb.size
  refine (h.mod (Mod.of_below hb (fun _ => False)) (fun _ _ h => h)).weaken (fun b hb => ?_) (fun b hb => ?_)
  · rcases hb with hb | hb
    · exact .inl hb
    · exact .inr ⟨hb.1, by omega⟩
  · rcases hb with hb | hb
    · have := hl b hb; omega
    · exact hb.2
set_option maxRecDepth 100000 in
set_option maxHeartbeats 6400000 in
theorem apply_mem (h : StMem w s O U M MO MU F lm lo lu wm) {N : Nat} (hN : Short N lm lo lu) {v : Value} {muts : List Mut} (hr : ReadS mutC 4 w v muts) (hvF : muts ≠ [] → ∀ k, v.ownBlock = some k → ¬ F k) (hok : ∀ m ∈ muts, TupOk m.2) (hN2 : N + muts.length ≤ 1099511627776) (rev : Int) : Calls Tryd.prog 8 #[.pointer (some ⟨s, 0, none⟩), .int .i64 rev, v] w fun e w' => e = .returned (.int .i64 (checkA (smc lm) wm rev muts)) ∧
    ∃ lm' lo' lu', StMem w' s O U M MO MU (grew F w w') lm' lo' lu' wm ∧ (smc lm', smc lo', smc lu') = (if checkA (smc lm) wm rev muts = 0 then apply3 rev (smc lm, smc lo, smc lu) muts else (smc lm, smc lo, smc lu)) ∧ Short (N + muts.length) lm' lo' lu' ∧ Mod F w w' := by
  obtain ⟨ao, cap, rfl, hlen⟩ := hr.form
  obtain ⟨n, hn⟩ : ∃ n, muts.length = n := ⟨_, rfl⟩
  have hck := check_mem h hr hok rev
  obtain ⟨q, hq⟩ : ∃ q, checkA (smc lm) wm rev muts = q := ⟨_, rfl⟩
  rw [hn] at hr hlen hvF hN2 hck ⊢
  rw [hq] at hck ⊢
  obtain ⟨X, hX⟩ : ∃ X, (if q = 0 then apply3 rev (smc lm, smc lo, smc lu) muts else (smc lm, smc lo, smc lu)) = X := ⟨_, rfl⟩
  rw [hX]
  have HH := Lib.hid (And.intro h (And.intro hr (And.intro hlen (And.intro hn (And.intro hvF (And.intro hN (And.intro hN2 (And.intro hX h.lt))))))))
  have HC := Lib.hid hck
  clear h hr hvF hN hN2 hX hck hq hok
  obtain ⟨B, hB⟩ : ∃ B, w.heap.size = B := ⟨_, rfl⟩
  go_enter Tryd.func8, Tryd.ntmps8
  go_wp2_with fail
  refine (HC.out).mono ?_
  rintro e w1 ⟨rfl, hb1⟩
  have hS1 : StMem w1 s O U M MO MU (grew F w w1) lm lo lu wm := (HH.out.1.weaken (F' := grew F w w) (fun b hb => .inl hb) (fun b hb => hb.elim (HH.out.2.2.2.2.2.2.2.2 b) (fun h => h.2))).grown HH.out.2.2.2.2.2.2.2.2 (Nat.le_refl _) hb1
  have HD := Lib.hid (And.intro hS1 (And.intro hb1 hB))
  clear hS1 hb1 hB
  by_cases hq0 : q = 0
  · subst hq0
    go_wp2
    go_loopg [21] n (fun gg vi wx => ∃ (t : Nat) (lmx : List (Tup × (Value × List Span))) (lox : List (PairT × (Value × List Tup))) (lux : List (ByteArray × (Value × List Tup))), t + gg = n ∧ vi = .int .i64 (t : Int) ∧ StMem wx s O U M MO MU (grew F w wx) lmx lox lux wm ∧ (smc lmx, smc lox, smc lux) = apply3 rev (smc lm, smc lo, smc lu) (muts.take t) ∧ Short (N + t) lmx lox lux ∧ Mod F w wx)
    case atStart => exact ⟨0, lm, lo, lu, by omega, rfl, HD.out.1, rfl, HH.out.2.2.2.2.2.1, Mod.of_below HD.out.2.1 F⟩
    case round =>
      obtain ⟨t, lmx, lox, lux, htg, rfl, hSx, hap, hsh, hmod⟩ := hrel
      by_cases hg : gk = 0
      · have ht : t = n := by omega
        have hk0 : ¬ ((t : Int) < (n : Int)) := by omega
        have hap2 : (smc lmx, smc lox, smc lux) = X := by
          have e1 := HH.out.2.2.2.2.2.2.2.1
          rw [if_pos trivial] at e1
          rw [hap, List.take_of_length_le (by rw [HH.out.2.2.2.1]; omega), e1]
        have HE := Lib.hid (And.intro hSx (And.intro hap2 (And.intro hsh (And.intro hmod ht))))
        clear hSx hap hap2 hsh hmod htg hg ht
        go_wp2
        go_ret
        exact ⟨rfl, lmx, lox, lux, HE.out.1, HE.out.2.1, by have := HE.out.2.2.1; rwa [HE.out.2.2.2.2] at this, HE.out.2.2.2.1⟩
      · have htn : t < n := by omega
        obtain ⟨⟨d, t0, t1, t2⟩, hx⟩ : ∃ m, muts[t]? = some m := ⟨_, List.getElem?_eq_getElem (by rw [HH.out.2.2.2.1]; exact htn)⟩
        have hrr := HH.out.2.1.mod (by decide) mutC_len hmod (HH.out.2.2.2.2.1 (List.ne_nil_of_mem (List.mem_of_getElem? hx)))
        obtain ⟨b, o, rfl, hrange, hbl⟩ := hrr.lt (by decide) mutC_len hx
        have hti : (t : Int) < (n : Int) := by omega
        have hstep := apply3_take rev (smc lm, smc lo, smc lu) muts hx
        rw [← hap] at hstep
        have hlim : N + t ≤ 1099511627776 := by have := HH.out.2.2.2.2.2.2.1; omega
        have HE := Lib.hid (And.intro hSx (And.intro hstep (And.intro hsh (And.intro hmod (And.intro hrange (And.intro htg (And.intro htn hlim)))))))
        clear hSx hap hsh hmod hrange hrr hbl hx hg htg htn hstep hlim
        go_upto_region 7 with (first
          | (refine wpList_load_mid rfl 30 (.tmp 23) rfl b (o + t * 4) rfl (mutC (d, t0, t1, t2)) _ HE.out.2.2.2.2.1 Tryd.underlying30 rfl infoMut0 ?_; unfold mutC))
        obtain ⟨Q, hQ⟩ : ∃ Q, wr.heap.size = Q := ⟨_, rfl⟩
        have hQb := block_new wr (.cells #[.bool d, .string t0, .string t1, .string t2] 30)
        have b4 : Below wr.heap.size wr (wr.alloc (.cells #[.bool d, .string t0, .string t1, .string t2] 30)) := (Below.refl _ wr).alloc (Nat.le_refl _) _
        have s4 : (wr.alloc (.cells #[.bool d, .string t0, .string t1, .string t2] 30)).heap.size = Q + 1 := by rw [World.size_alloc, hQ]
        have hS4 := HE.out.1.grown HH.out.2.2.2.2.2.2.2.2 HE.out.2.2.2.1.size b4
        rw [hQ] at hQb ⊢
        generalize hW4 : wr.alloc (.cells #[.bool d, .string t0, .string t1, .string t2] 30) = W4 at *
        have hlook : ∀ W : World, SlMap W M encT spanC 2 56 (grew F w W4) lmx → (Instr.lookup 45 (.map (some M)) (.agg #[.string t0, .string t1, .string t2]) false).run Tryd.prog W = .ok (slv lmx (t0, t1, t2)) W := fun W hW => hW.look keyTup Tryd.underlying45 (zeroSpans W) (t0, t1, t2)
        obtain ⟨vl, hvl⟩ : ∃ vl, slv lmx (t0, t1, t2) = vl := ⟨_, rfl⟩
        rw [hvl] at hlook
        have HF := Lib.hid (And.intro hQb (And.intro b4 (And.intro s4 (And.intro hQ (And.intro hS4 (And.intro hlook hvl))))))
        clear hQb b4 s4 hQ hW4 hS4 hlook hvl
        refine wp_region_held_drew (S := fun w' => Mod (fun _ => False) W4 w') (by kernel_rfl) ((Mod.refl _ W4).drew) (fun hS => ?_)
        refine takeD (i := 0) rfl (by kernel_rfl) (by kernel_rfl) (by kernel_rfl) (fun _ _ _ h => h) hS (Or.inl ⟨by rfl, fun w hSw => by go_simp; rfl⟩) ?_
        simp only [Act.put, List.setIfInBounds_toArray, List.set_cons_zero, List.set_cons_succ]
        refine takeD (i := 1) rfl (by kernel_rfl) (by kernel_rfl) (by kernel_rfl) (fun _ _ _ h => h) hS (Or.inl ⟨by rfl, fun w hSw => by go_simp; rfl⟩) ?_
        simp only [Act.put, List.setIfInBounds_toArray, List.set_cons_zero, List.set_cons_succ]
        refine takeD (i := 2) rfl (by kernel_rfl) (by kernel_rfl) (by kernel_rfl) (fun _ _ _ h => h) hS (Or.inl ⟨by rfl, fun w hSw => by go_simp; rfl⟩) ?_
        simp only [Act.put, List.setIfInBounds_toArray, List.set_cons_zero, List.set_cons_succ]
        refine takeD (i := 3) (v := (.map (some M))) rfl (by kernel_rfl) (by kernel_rfl) (by kernel_rfl) (fun _ _ _ h => h) hS (Or.inl ⟨by rfl, fun w hSw => by have c := cell_of (i := 0) (hSw.old HF.out.2.2.2.2.1.hs id) rfl; go_simp⟩) ?_
        simp only [Act.put, List.setIfInBounds_toArray, List.set_cons_zero, List.set_cons_succ]
        refine takeD (i := 4) rfl (by kernel_rfl) (by kernel_rfl) (by kernel_rfl) (fun _ _ _ h => h) hS (Or.inl ⟨by rfl, fun w hSw => by go_simp; rfl⟩) ?_
        simp only [Act.put, List.setIfInBounds_toArray, List.set_cons_zero, List.set_cons_succ]
        refine takeD (i := 5) rfl (by kernel_rfl) (by kernel_rfl) (by kernel_rfl) (fun _ _ _ h => h) hS (yieldsIf_load_mid (by rfl) 27 (.tmp 29) rfl Q 1 rfl ([.string t0, .string t1, .string t2]) _ (fun w hSw => row_mid (hSw.old HF.out.1 id)) Tryd.underlying27 rfl infoTup0) ?_
        simp only [Act.put, List.setIfInBounds_toArray, List.set_cons_zero, List.set_cons_succ]
        refine takeD (i := 6) (v := vl) rfl (by kernel_rfl) (by kernel_rfl) (by kernel_rfl) (fun _ _ _ h => h) hS (Or.inl ⟨by rfl, fun w hSw => by have c := HF.out.2.2.2.2.2.1 w (HF.out.2.2.2.2.1.m.mod hSw id (fun _ _ _ _ h => h)); go_simp⟩) ?_
        simp only [Act.put, List.setIfInBounds_toArray, List.set_cons_zero, List.set_cons_succ]
        refine takeD (i := 7) rfl (by kernel_rfl) (by kernel_rfl) (by kernel_rfl) (fun _ _ _ h => h) hS (Or.inl ⟨by rfl, fun w hSw => by go_simp; rfl⟩) ?_
        simp only [Act.put, List.setIfInBounds_toArray, List.set_cons_zero, List.set_cons_succ]
        refine wpAnyH_done (by kernel_rfl) ?_ _
        simp only [Exit.then]
        have hQ5 := hS.old HF.out.1 id
        have hS5 : StMem W4.drew s O U M MO MU (grew F w W4) lmx lox lux wm := HF.out.2.2.2.2.1.mod hS (fun _ _ h => h)
        have HG := Lib.hid (And.intro (row_mid hQ5) (And.intro hQ5 (And.intro hS5 hS)))
        clear hQ5 hS5 hS
        go_wp2_with (first
          | (refine wpList_load_mid rfl 27 (.tmp 33) rfl Q 1 rfl [.string t0, .string t1, .string t2] _ HG.out.1 Tryd.underlying27 rfl infoTup0 ?_))
        refine (there_any HG.out.2.2.1 (t0, t1, t2)).mono ?_
        rintro e w6 ⟨rfl, hb6⟩
        have b46 : Below W4.heap.size W4 w6 := ((Below.refl W4.heap.size W4).drew).trans hb6
        have hS6 := HF.out.2.2.2.2.1.grown HH.out.2.2.2.2.2.2.2.2 (Nat.le_trans HE.out.2.2.2.1.size HF.out.2.1.size) b46
        have hQ6 := (Mod.of_below b46 (fun _ => False)).old HF.out.1 id
        have m6 : Mod F w w6 := (HE.out.2.2.2.1.trans (Mod.of_below HF.out.2.1 (fun _ => False)) (fun _ h => h.elim)).trans (Mod.of_below b46 (fun _ => False)) (fun _ h => h.elim)
        have c0 : w6.cell? ⟨Q, 0, none⟩ = some (.bool d) := cell_of hQ6 rfl
        obtain ⟨th, hth⟩ : ∃ th, thereOf (aget (smc lmx) (t0, t1, t2)) = th := ⟨_, rfl⟩
        rw [hth]
        have HI := Lib.hid (And.intro (row_mid hQ6) (And.intro hQ6 (And.intro hS6 (And.intro m6 hth))))
        clear hb6 b46 hS6 hQ6 m6 hth
        cases d with
        | true =>
          cases th with
          | true =>
            have hth := HI.out.2.2.2.2
            rcases spans_last HI.out.2.2.1 (t0, t1, t2) with ⟨_, h2⟩ | ⟨_, _, _, h2⟩ | ⟨g, cp, k, P, x, h1, h2, h3, h4, h5, h6, h7⟩
            · rw [h2] at hth; cases hth
            · rw [h2] at hth; cases hth
            · clear hth
              have hvl : vl = .slice (some ⟨g, 0, none⟩) (k + 1) cp := by rw [← HF.out.2.2.2.2.2.2]; exact h1
              subst hvl
              have hown := (HI.out.2.2.1.m.at (t0, t1, t2)).1
              rw [h1, h2] at hown
              have hfree := hown.free (k * 2 + 1)
              have hk : (k : Int) + 1 ≤ 9223372036854775807 := by unfold maxLen at h4; omega
              have hwk : wrap64 (k : Int) = k := by unfold wrap64; omega
              have HK := Lib.hid (And.intro h1 (And.intro h2 (And.intro h3 (And.intro h4 (And.intro h7 hown)))))
              clear h1 h2 h3 h4 h5 h7 hown
              go_wp2
              go_roundg (gk - 1)
              case measure => have := HE.out.2.2.2.2.2; omega
              case rel =>
                obtain ⟨e1, e2, e3, e4, e5, e6, e7, e8⟩ := HE.out
                obtain ⟨i1, i2, i3, i4, i5⟩ := HI.out
                obtain ⟨k1, k2, k3, k4, k5, k6⟩ := HK.out
                have hset := OwnS.set spanC_len k6 (i := k) (j := 1) (x := x) (y := (x.1, rev)) (u := .int .i64 rev) (by rw [← k3]; simp) (by decide) rfl
                have elist : (P ++ [x]).set k (x.1, rev) = P ++ [(x.1, rev)] := by
                  rw [← k3, List.set_append_right _ _ (Nat.le_refl _), Nat.sub_self]
                  rfl
                rw [elist] at hset
                obtain ⟨y, hfind, hy⟩ := slv_find k1
                have mset : Mod (fun b => some b = (Value.slice (some ⟨g, 0, none⟩) (k + 1) cp).ownBlock) w6 (w6.setCell ⟨g, k * 2 + 1, none⟩ (.int .i64 rev)) := Mod.setCell (p := ⟨g, k * 2 + 1, none⟩) (Mod.refl (fun b => some b = (Value.slice (some ⟨g, 0, none⟩) (k + 1) cp).ownBlock) w6) (.inl rfl) _
                have htouch := i3.m.tight.touch hfind mset hset
                have mset2 : Mod (fun b => b = M ∨ blk lmx b) w6 (w6.setCell ⟨g, k * 2 + 1, none⟩ (.int .i64 rev)) := mset.mono (fun b _ hb => .inr (slv_blk (by rw [k1]; exact hb)))
                have hS7 := i3.setM mset2 (htouch.weaken (fun b hb => .inl hb))
                have z6 := i4.size
                have z7 := mset2.size
                refine ⟨t + 1, _, lox, lux, by omega, by go_num, hS7.weaken (fun b hb => ?_) (fun b hb => ?_), ?_, ⟨?_, fun q => Nat.le_trans (e3.o q) (by omega), fun q => Nat.le_trans (e3.u q) (by omega)⟩, i4.trans mset2 (fun b hb => ?_)⟩
                · rcases hb with (hb | hb) | hb
                  · exact .inl hb
                  · exact .inr ⟨hb.1, by omega⟩
                  · exact .inr ⟨by omega, hb.2⟩
                · rcases hb with hb | hb
                  · have := HH.out.2.2.2.2.2.2.2.2 b hb; omega
                  · exact hb.2
                · rw [e2]
                  unfold step3
                  rw [if_pos rfl, if_pos i5, smc_gput, k2, shutL_snoc]
                · rw [smc_gput]
                  refine aget_len_gput i3.m.nodupC (fun q => Nat.le_trans (e3.m q) (by omega)) _ _ ?_
                  have := e3.m (t0, t1, t2)
                  rw [k2] at this
                  rw [List.length_append, List.length_singleton] at this ⊢
                  omega
                · have hg' : grew F w w6 b := by
                    rcases hb with hb | hb
                    · rw [hb]; exact i3.fM
                    · exact i3.m.blk_F b hb
                  rcases hg' with hb | hb
                  · exact .inl hb
                  · exact .inr hb.1
          | false =>
            go_wp2
            go_roundg (gk - 1)
            case measure => have := HE.out.2.2.2.2.2; omega
            case rel =>
              obtain ⟨e1, e2, e3, e4, e5, e6, e7, e8⟩ := HE.out
              refine ⟨t + 1, lmx, lox, lux, by omega, by go_num, HI.out.2.2.1, ?_, e3.mono (by omega), HI.out.2.2.2.1⟩
              rw [e2]
              unfold step3
              rw [if_pos rfl, if_neg (by rw [HI.out.2.2.2.2]; decide)]
        | false =>
          cases th with
          | true =>
            go_wp2
            go_roundg (gk - 1)
            case measure => have := HE.out.2.2.2.2.2; omega
            case rel =>
              obtain ⟨e1, e2, e3, e4, e5, e6, e7, e8⟩ := HE.out
              refine ⟨t + 1, lmx, lox, lux, by omega, by go_num, HI.out.2.2.1, ?_, e3.mono (by omega), HI.out.2.2.2.1⟩
              rw [e2]
              unfold step3
              rw [if_neg (by intro h; cases h), if_pos HI.out.2.2.2.2]
          | false =>
            go_wp2_with (first
              | (refine wpList_load_mid rfl 27 (.tmp 58) rfl Q 1 rfl [.string t0, .string t1, .string t2] _ HI.out.1 Tryd.underlying27 rfl infoTup0 ?_))
            refine (add_mem HI.out.2.2.1 HE.out.2.2.1 HE.out.2.2.2.2.2.2.2 (t0, t1, t2) (rev, 0)).mono ?_
            rintro e w7 ⟨rfl, lm7, lo7, lu7, hS7, a1, a2, a3, m7⟩
            have HJ := Lib.hid (And.intro hS7 (And.intro a1 (And.intro a2 (And.intro a3 m7))))
            clear hS7 a1 a2 a3 m7
            go_wp2
            go_roundg (gk - 1)
            case measure => have := HE.out.2.2.2.2.2; omega
            case rel =>
              obtain ⟨e1, e2, e3, e4, e5, e6, e7, e8⟩ := HE.out
              obtain ⟨j1, j2, j3, j4, j5⟩ := HJ.out
              obtain ⟨i1, i2, i3, i4, i5⟩ := HI.out
              have z6 := i4.size
              have z7 := j5.size
              refine ⟨t + 1, lm7, lo7, lu7, by omega, by go_num, j1.weaken (fun b hb => ?_) (fun b hb => ?_), ?_, ⟨?_, ?_, ?_⟩, i4.trans j5 (fun b hb => ?_)⟩
              · rcases hb with (hb | hb) | hb
                · exact .inl hb
                · exact .inr ⟨hb.1, by omega⟩
                · exact .inr ⟨by omega, hb.2⟩
              · rcases hb with hb | hb
                · have := HH.out.2.2.2.2.2.2.2.2 b hb; omega
                · exact hb.2
              · rw [e2]
                unfold step3
                rw [if_neg (by intro h; cases h), if_neg (by rw [i5]; decide), j2, j3, j4]
              · rw [j2]
                exact aget_len_gput i3.m.nodupC (fun k => Nat.le_trans (e3.m k) (by omega)) _ _ (by rw [List.length_append, List.length_singleton]; have := e3.m (t0, t1, t2); omega)
              · rw [j3]
                exact putC_len i3.o.nodupC e3.o _ _
              · rw [j4]
                exact putC_len i3.u.nodupC e3.u _ _
              · rcases hb with hb | hb
                · exact .inl hb
                · exact .inr hb.1
  · have hq1 : (q == 0) = false := by simp [hq0]
    have eX : X = (smc lm, smc lo, smc lu) := by
      have e1 := HH.out.2.2.2.2.2.2.2.1
      rw [if_neg hq0] at e1
      exact e1.symm
    go_wp2
    go_ret
    exact ⟨rfl, lm, lo, lu, HD.out.1, eX.symm, HH.out.2.2.2.2.2.1.mono (by omega), Mod.of_below HD.out.2.1 F⟩
end
end Go.Proofs.YtojjnfhgldjgbaaDoor.Store
