/- at, Has. -/
import Derived.Test.YtojjnfhgldjgbaaDoorLastP
set_option linter.unusedVariables false
set_option linter.unusedSimpArgs false
namespace Go.Proofs.YtojjnfhgldjgbaaDoor.Store
open Go.RowKit Go.Por Go.Sort Go.Proofs.YtojjnfhgldjgbaaDoor.Watch

set_option maxRecDepth 100000 in
set_option maxHeartbeats 800000 in
theorem askS_any (w : World) {kb : Nat} {rev : Int} (hk : w.cell? ⟨kb, 0, none⟩ = some (.int .i64 rev)) (hlt : kb < w.heap.size) (x : Span) :
    Calls Tryd.prog 32 #[.agg #[.int .i64 x.1, .int .i64 x.2], .pointer (some ⟨kb, 0, none⟩)] w fun e w' => e = .returned (.bool (hasS rev x)) ∧ Below w.heap.size w w' := by
  have hh : ∀ W : World, Calls Tryd.prog 33 #[.agg #[.int .i64 x.1, .int .i64 x.2], .int .i64 rev] W fun e w' => e = .returned (.bool (hasS rev x)) ∧ Below W.heap.size W w' := fun W => spanHas_any W x rev
  have HH := Lib.hid hh
  clear hh
  go_enter Tryd.func32, Tryd.ntmps32
  go_wp2_with fail
  refine (HH.out _).mono ?_
  rintro e w1 ⟨rfl, hb⟩
  have H1 := Lib.hid hb
  clear hb
  go_wp2
  go_ret
  refine ⟨rfl, ?_⟩
  refine ((Below.refl _ w).alloc (Nat.le_refl _) _).trans ((H1.out).mono ?_)
  rw [World.size_alloc]
  omega

set_option maxRecDepth 100000 in
set_option maxHeartbeats 800000 in
theorem indexS_any {w : World} {v : Value} {l : List Span} (h : OwnS spanC 2 w 56 v l) (hlen : l.length ≤ 1099511627776) {kb : Nat} {rev : Int} (hk : w.cell? ⟨kb, 0, none⟩ = some (.int .i64 rev)) (hlt : kb < w.heap.size) :
    Calls Tryd.prog 50 #[v, .func (.func 32) #[] #[.pointer (some ⟨kb, 0, none⟩)]] w fun e w' => ∃ i : Int, e = .returned (.int .i64 i) ∧ decide (0 ≤ i) = l.any (hasS rev) ∧ Below w.heap.size w w' := by
  obtain ⟨n, hn⟩ : ∃ n, l.length = n := ⟨_, rfl⟩
  obtain ⟨a, cap, rfl, hrow⟩ : ∃ a cap, v = .slice a n cap ∧ (0 < n → ∃ g, a = some ⟨g, 0, none⟩) := by
    rcases h.form with ⟨rfl, rfl⟩ | ⟨g, cap, rfl, _⟩
    · exact ⟨none, 0, by rw [← hn]; rfl, fun h => by rw [← hn] at h; simp at h⟩
    · exact ⟨_, cap, by rw [hn], fun _ => ⟨g, rfl⟩⟩
  rw [hn] at hlen
  have HH := Lib.hid (And.intro h (And.intro hrow hn))
  clear h hrow hn
  go_enter Tryd.func50, Tryd.ntmps50
  go_wp2
  go_loopg [8] n (fun g i wx => ∃ t : Nat, t + g = n ∧ i = .int .i64 (t : Int) ∧ (∀ j, j < t → ∀ y, l[j]? = some y → hasS rev y = false) ∧ Below w.heap.size w wx)
  case atStart => exact ⟨0, by omega, rfl, fun j hj => by omega, Below.refl _ _⟩
  case round =>
    obtain ⟨t, htg, rfl, hno, hbel⟩ := hrel
    by_cases hg : gk = 0
    · have hk0 : ¬ ((t : Int) < (n : Int)) := by omega
      have HE := Lib.hid (And.intro hno (And.intro hbel (show t = n by omega)))
      clear hno hbel htg hg
      go_wp2
      go_ret
      obtain ⟨hno, hbel, ht⟩ := HE.out
      refine ⟨-1, rfl, ?_, hbel⟩
      have h1 : l.any (hasS rev) = false := by
        rw [List.any_eq_false]
        intro x hx
        obtain ⟨j, hj⟩ := List.getElem?_of_mem hx
        have : j < l.length := by
          rcases Nat.lt_or_ge j l.length with h | h
          · exact h
          · simp [List.getElem?_eq_none h] at hj
        rw [hno j (by rw [HH.out.2.2] at this; omega) x hj]
        simp
      rw [h1]
      rfl
    · have ht : t < n := by omega
      obtain ⟨g, rfl⟩ := HH.out.2.1 (by omega)
      obtain ⟨x, hx⟩ : ∃ x, l[t]? = some x := ⟨_, List.getElem?_eq_getElem (by rw [HH.out.2.2]; exact ht)⟩
      have hgl := HH.out.1.lt
      have c0 : wr.cell? ⟨g, t * 2, none⟩ = some (.int .i64 x.1) := by
        rw [hbel.cell (p := ⟨g, t * 2, none⟩) hgl]; exact HH.out.1.cell spanC_len hx (j := 0) (by omega) rfl
      have c1 : wr.cell? ⟨g, t * 2 + 1, none⟩ = some (.int .i64 x.2) := by
        rw [hbel.cell (p := ⟨g, t * 2 + 1, none⟩) hgl]; exact HH.out.1.cell spanC_len hx (j := 1) (by omega) rfl
      have ck : wr.cell? ⟨kb, 0, none⟩ = some (.int .i64 rev) := by rw [hbel.cell (p := ⟨kb, 0, none⟩) hlt]; exact hk
      have hbs := hbel.size
      have hti : (t : Int) < (n : Int) := by omega
      have HE := Lib.hid (And.intro hno (And.intro hbel (And.intro htg hx)))
      clear hno hbel htg hg hx
      go_wp2_with fail
      refine (askS_any wr ck (by omega) x).mono ?_
      rintro e w1 ⟨rfl, hb1⟩
      obtain ⟨hno, hbel, htg, hx⟩ := HE.out
      have HF := Lib.hid (hbel.trans (hb1.mono hbs))
      clear hno hbel htg hx hb1
      cases hkx : hasS rev x with
      | true =>
        have HK := Lib.hid hkx
        clear hkx
        go_wp2
        go_ret
        obtain ⟨hno, hbel, htg, hx⟩ := HE.out
        refine ⟨(t : Int), rfl, ?_, HF.out⟩
        have h1 : l.any (hasS rev) = true := List.any_eq_true.2 ⟨x, List.mem_of_getElem? hx, HK.out⟩
        rw [h1]
        exact decide_eq_true (by omega)
      | false =>
        have HK := Lib.hid hkx
        clear hkx
        go_wp2
        go_roundg (gk - 1)
        case measure => have := HE.out.2.2.1; omega
        case rel =>
          obtain ⟨hno, hbel, htg, hx⟩ := HE.out
          refine ⟨t + 1, by omega, by go_num, fun j hj y hy => ?_, HF.out⟩
          by_cases hjt : j = t
          · subst hjt
            rw [hx] at hy
            cases hy
            exact HK.out
          · exact hno j (by omega) y hy
set_option maxRecDepth 100000 in
set_option maxHeartbeats 800000 in
theorem containsS_any {w : World} {v : Value} {l : List Span} (h : OwnS spanC 2 w 56 v l) (hlen : l.length ≤ 1099511627776) {kb : Nat} {rev : Int} (hk : w.cell? ⟨kb, 0, none⟩ = some (.int .i64 rev)) (hlt : kb < w.heap.size) :
    Calls Tryd.prog 31 #[v, .func (.func 32) #[] #[.pointer (some ⟨kb, 0, none⟩)]] w fun e w' => e = .returned (.bool (l.any (hasS rev))) ∧ Below w.heap.size w w' := by
  have HH := Lib.hid (indexS_any h hlen hk hlt)
  clear h hk
  go_enter Tryd.func31, Tryd.ntmps31
  go_wp2_with fail
  refine (HH.out).mono ?_
  rintro e w1 ⟨i, rfl, hi, hb⟩
  have H1 := Lib.hid (And.intro hi hb)
  clear hi hb
  go_wp2
  go_ret
  rw [← H1.out.1]
  exact ⟨rfl, H1.out.2⟩
section
variable {w : World} {s O U M MO MU : Nat} {F : Nat → Prop} {lm : List (Tup × (Value × List Span))} {lo : List (PairT × (Value × List Tup))} {lu : List (ByteArray × (Value × List Tup))} {wm : Int}
set_option maxRecDepth 100000 in
set_option maxHeartbeats 800000 in
theorem at_any (h : StMem w s O U M MO MU F lm lo lu wm) (t : Tup) (rev : Int) (hlen : (aget (smc lm) t).length ≤ 1099511627776) : Calls Tryd.prog 22 #[.pointer (some ⟨s, 0, none⟩), .agg (tupC t).toArray, .int .i64 rev] w fun e w' => e = .returned (.bool ((aget (smc lm) t).any (hasS rev))) ∧ Below w.heap.size w w' := by
  obtain ⟨t0, t1, t2⟩ := t
  obtain ⟨K, hK⟩ : ∃ K, w.heap.size = K := ⟨_, rfl⟩
  obtain ⟨v, hv⟩ : ∃ v, slv lm (t0, t1, t2) = v := ⟨_, rfl⟩
  obtain ⟨L, hL⟩ : ∃ L, aget (smc lm) (t0, t1, t2) = L := ⟨_, rfl⟩
  obtain ⟨W1, hW1⟩ : ∃ W1, (w.alloc (.cells #[.string t0, .string t1, .string t2] 27)).alloc (.cells #[.int .i64 rev] 2) = W1 := ⟨_, rfl⟩
  have m1 : Mod (fun _ => False) w W1 := by rw [← hW1]; exact ((Mod.refl _ w).alloc _).alloc _
  have hs1 : W1.heap.size = K + 2 := by rw [← hW1, World.size_alloc, World.size_alloc, hK]
  have hb1 : Below K w W1 := by rw [← hW1, ← hK]; exact ((Below.refl _ w).alloc (Nat.le_refl _) _).alloc (by simp) _
  have hT1 : W1.heap[K]? = some (.cells #[.string t0, .string t1, .string t2] 27 (0, 0)) := by rw [← hW1, ← hK]; exact block_alloc (block_new w _) _
  have hR1 : W1.heap[K + 1]? = some (.cells #[.int .i64 rev] 2 (0, 0)) := by
    have h1 := block_new (w.alloc (.cells #[.string t0, .string t1, .string t2] 27)) (.cells #[.int .i64 rev] 2)
    rw [World.size_alloc, hK] at h1
    rw [← hW1]
    exact h1
  have hlook : ∀ W : World, SlMap W M encT spanC 2 56 F lm → (Instr.lookup 45 (.map (some M)) (.agg #[.string t0, .string t1, .string t2]) false).run Tryd.prog W = .ok v W := fun W hW => by
    rw [← hv]
    exact hW.look keyTup Tryd.underlying45 (zeroSpans W) (t0, t1, t2)
  have hown : ∀ W : World, SlMap W M encT spanC 2 56 F lm → OwnS spanC 2 W 56 v L := fun W hW => by
    rw [← hv, ← hL]
    exact (hW.at (t0, t1, t2)).1
  rw [hL] at hlen ⊢
  have HH := Lib.hid (And.intro h (And.intro hlook (And.intro m1 (And.intro hb1 (And.intro hT1 (And.intro hR1 (And.intro (h.m.mod m1 id (fun _ _ _ _ h => h)) (And.intro hown (And.intro hlen (And.intro hK hs1))))))))))
  clear h hlook m1 hb1 hT1 hR1 hown hlen hv hL hs1
  unfold tupC
  go_enter Tryd.func22, Tryd.ntmps22
  go_upto_region 1 with fail
  clear hW1
  refine wp_region_held_drew (S := fun w' => Mod (fun _ => False) W1 w') (by kernel_rfl) ((Mod.refl _ W1).drew) (fun hS => ?_)
  refine takeD (i := 0) rfl (by kernel_rfl) (by kernel_rfl) (by kernel_rfl) (fun _ _ _ h => h) hS (Or.inl ⟨by rfl, fun w hSw => by go_simp; rfl⟩) ?_
  simp only [Act.put, List.setIfInBounds_toArray, List.set_cons_zero, List.set_cons_succ]
  refine takeD (i := 1) rfl (by kernel_rfl) (by kernel_rfl) (by kernel_rfl) (fun _ _ _ h => h) hS (Or.inl ⟨by rfl, fun w hSw => by go_simp; rfl⟩) ?_
  simp only [Act.put, List.setIfInBounds_toArray, List.set_cons_zero, List.set_cons_succ]
  refine takeD (i := 2) rfl (by kernel_rfl) (by kernel_rfl) (by kernel_rfl) (fun _ _ _ h => h) hS (Or.inl ⟨by rfl, fun w hSw => by go_simp; rfl⟩) ?_
  simp only [Act.put, List.setIfInBounds_toArray, List.set_cons_zero, List.set_cons_succ]
  refine takeD (i := 3) (v := (.map (some M))) rfl (by kernel_rfl) (by kernel_rfl) (by kernel_rfl) (fun _ _ _ h => h) hS (Or.inl ⟨by rfl, fun w hSw => by have c := cell_of (i := 0) (hSw.old (HH.out.2.2.1.old HH.out.1.hs id) id) rfl; go_simp⟩) ?_
  simp only [Act.put, List.setIfInBounds_toArray, List.set_cons_zero, List.set_cons_succ]
  refine takeD (i := 4) rfl (by kernel_rfl) (by kernel_rfl) (by kernel_rfl) (fun _ _ _ h => h) hS (yieldsIf_load_mid (by rfl) 27 (.tmp 4) rfl K 0 rfl ([.string t0, .string t1, .string t2]) _ (fun w hSw => row_range (hSw.old HH.out.2.2.2.2.1 id)) Tryd.underlying27 rfl infoTup0) ?_
  simp only [Act.put, List.setIfInBounds_toArray, List.set_cons_zero, List.set_cons_succ]
  refine takeD (i := 5) (v := v) rfl (by kernel_rfl) (by kernel_rfl) (by kernel_rfl) (fun _ _ _ h => h) hS (Or.inl ⟨by rfl, fun w hSw => by have c := HH.out.2.1 w (HH.out.2.2.2.2.2.2.1.mod hSw id (fun _ _ _ _ h => h)); go_simp⟩) ?_
  simp only [Act.put, List.setIfInBounds_toArray, List.set_cons_zero, List.set_cons_succ]
  refine takeD (i := 6) rfl (by kernel_rfl) (by kernel_rfl) (by kernel_rfl) (fun _ _ _ h => h) hS (Or.inl ⟨by rfl, fun w hSw => by go_simp; rfl⟩) ?_
  simp only [Act.put, List.setIfInBounds_toArray, List.set_cons_zero, List.set_cons_succ]
  refine wpAnyH_ready (rs := [7]) (by kernel_rfl) (by simp) ?_
  refine consD (i := 7) rfl (fun K' hK' => ?_) AllReadyH.nil
  rw [if_pos (by rfl)]
  go_simp
  have hm := HH.out.2.2.2.2.2.2.1.mod hS id (fun _ _ _ _ h => h)
  have hsz := hS.size
  have hs1 := HH.out.2.2.2.2.2.2.2.2.2.2
  refine (containsS_any (HH.out.2.2.2.2.2.2.2.1 _ hm) HH.out.2.2.2.2.2.2.2.2.1 (kb := K + 1) (rev := rev) (cell_of (i := 0) (hS.old HH.out.2.2.2.2.2.1 id) rfl) (by omega)).mono ?_
  rintro e w3 ⟨rfl, hb3⟩
  dsimp only
  refine hK'.out _ _ (hS.trans' (Mod.of_below hb3 (fun _ => False))) (fun hS' => ?_)
  clear hK' K'
  refine takeD (i := 8) rfl (by kernel_rfl) (by kernel_rfl) (by kernel_rfl) (fun _ _ _ h => h) hS' (Or.inl ⟨by rfl, fun w hSw => by go_simp; rfl⟩) ?_
  simp only [Act.put, List.setIfInBounds_toArray, List.set_cons_zero, List.set_cons_succ]
  refine wpAnyH_done (by kernel_rfl) ?_ _
  have H3 := Lib.hid (And.intro hS hb3)
  clear hS hS' hb3 hm hsz hs1
  simp only [Exit.then]
  go_wp2
  go_ret
  refine ⟨rfl, ?_⟩
  rw [HH.out.2.2.2.2.2.2.2.2.2.1]
  have h1 : Below K W1 W1.drew := (Below.refl K W1).drew
  refine HH.out.2.2.2.1.trans (h1.trans (H3.out.2.mono ?_))
  have h2 := h1.size
  have h3 := HH.out.2.2.2.2.2.2.2.2.2.2
  omega
end
end Go.Proofs.YtojjnfhgldjgbaaDoor.Store
