/- WatchNet, where what came in is of bulk at most 1048576: what leads from some tuples to others does so in a store, and n: part 10 of 32: what it leans on. -/
import Derived.Test.YtojjnfhgldjgbaaGreatDoorNtA
import Derived.Test.YtojjnfhgldjgbaaGreatDoorNtB
import Derived.Test.YtojjnfhgldjgbaaGreatDoorNtC
import Derived.Test.YtojjnfhgldjgbaaGreatDoorNtD
import Derived.Test.YtojjnfhgldjgbaaGreatDoorNtE
import Derived.Test.YtojjnfhgldjgbaaGreatDoorNtF
import Derived.Test.YtojjnfhgldjgbaaGreatDoorNtG
import Derived.Test.YtojjnfhgldjgbaaGreatDoorNtH
import Derived.Test.YtojjnfhgldjgbaaGreatDoorNtI
section
set_option linter.unusedVariables false
set_option linter.unusedSimpArgs false
namespace Go.Proofs.YtojjnfhgldjgbaaGreatDoor.Store
open Go.RowKit Go.Por Go.Sort Go.Proofs.YtojjnfhgldjgbaaGreatDoor.Watch

set_option maxRecDepth 100000 in
set_option maxHeartbeats 800000 in
theorem askS_any (w : World) {kb : Nat} {rev : Int} (hk : w.cell? ⟨kb, 0, none⟩ = some (.int .i64 rev)) (hlt : kb < w.heap.size) (x : Span) :
    Calls Tryz.prog 91 #[.agg #[.int .i64 x.1, .int .i64 x.2], .pointer (some ⟨kb, 0, none⟩)] w fun e w' => e = .returned (.bool (hasS rev x)) ∧ Below w.heap.size w w' := by
  have hh : ∀ W : World, Calls Tryz.prog 92 #[.agg #[.int .i64 x.1, .int .i64 x.2], .int .i64 rev] W fun e w' => e = .returned (.bool (hasS rev x)) ∧ Below W.heap.size W w' := fun W => spanHas_any W x rev
  have HH := Lib.hid hh
  clear hh
  go_enter Tryz.func91, Tryz.ntmps91
  go_wp2_with fail
  refine (HH.out _).mono ?_
  rintro e w1 ⟨rfl, hb⟩
  have H1 := Lib.hid hb
  clear hb
  go_wp2
  go_ret
  refine ⟨rfl, ?_⟩
  refine ((Below.refl _ w).alloc (Nat.le_refl _) _).trans ((H1.out).mono ?_)
  rw [World.size_alloc]
  omega

set_option maxRecDepth 100000 in
set_option maxHeartbeats 800000 in
theorem indexS_any {w : World} {v : Value} {l : List Span} (h : OwnS spanC 2 w 119 v l) (hlen : l.length ≤ 1099511627776) {kb : Nat} {rev : Int} (hk : w.cell? ⟨kb, 0, none⟩ = some (.int .i64 rev)) (hlt : kb < w.heap.size) :
    Calls Tryz.prog 97 #[v, .func (.func 91) #[] #[.pointer (some ⟨kb, 0, none⟩)]] w fun e w' => ∃ i : Int, e = .returned (.int .i64 i) ∧ decide (0 ≤ i) = l.any (hasS rev) ∧ Below w.heap.size w w' := by
  obtain ⟨n, hn⟩ : ∃ n, l.length = n := ⟨_, rfl⟩
  obtain ⟨a, cap, rfl, hrow⟩ : ∃ a cap, v = .slice a n cap ∧ (0 < n → ∃ g, a = some ⟨g, 0, none⟩) := by
    rcases h.form with ⟨rfl, rfl⟩ | ⟨g, cap, rfl, _⟩
    · exact ⟨none, 0, by rw [← hn]; rfl, fun h => by rw [← hn] at h; simp at h⟩
    · exact ⟨_, cap, by rw [hn], fun _ => ⟨g, rfl⟩⟩
  rw [hn] at hlen
  have HH := Lib.hid (And.intro h (And.intro hrow hn))
  clear h hrow hn
  go_enter Tryz.func97, Tryz.ntmps97
  go_wp2
  go_loopg [8] n (fun g i wx => ∃ t : Nat, t + g = n ∧ i = .int .i64 (t : Int) ∧ (∀ j, j < t → ∀ y, l[j]? = some y → hasS rev y = false) ∧ Below w.heap.size w wx)
  case atStart => exact ⟨0, by omega, rfl, fun j hj => by omega, Below.refl _ _⟩
  case round =>
    obtain ⟨t, htg, rfl, hno, hbel⟩ := hrel
    by_cases hg : gk = 0
    · have hk0 : ¬ ((t : Int) < (n : Int)) := by omega
      have HE := Lib.hid (And.intro hno (And.intro hbel (show t = n by omega)))
      clear hno hbel htg hg
      go_wp2
      go_ret
      obtain ⟨hno, hbel, ht⟩ := HE.out
      refine ⟨-1, rfl, ?_, hbel⟩
      have h1 : l.any (hasS rev) = false := by
        rw [List.any_eq_false]
        intro x hx
        obtain ⟨j, hj⟩ := List.getElem?_of_mem hx
        have : j < l.length := by
          rcases Nat.lt_or_ge j l.length with h | h
          · exact h
          · simp [List.getElem?_eq_none h] at hj
        rw [hno j (by rw [HH.out.2.2] at this; omega) x hj]
        simp
      rw [h1]
      rfl
    · have ht : t < n := by omega
      obtain ⟨g, rfl⟩ := HH.out.2.1 (by omega)
      obtain ⟨x, hx⟩ : ∃ x, l[t]? = some x := ⟨_, List.getElem?_eq_getElem (by rw [HH.out.2.2]; exact ht)⟩
      have hgl := HH.out.1.lt
      have c0 : wr.cell? ⟨g, t * 2, none⟩ = some (.int .i64 x.1) := by
        rw [hbel.cell (p := ⟨g, t * 2, none⟩) hgl]; exact HH.out.1.cell spanC_len hx (j := 0) (by omega) rfl
      have c1 : wr.cell? ⟨g, t * 2 + 1, none⟩ = some (.int .i64 x.2) := by
        rw [hbel.cell (p := ⟨g, t * 2 + 1, none⟩) hgl]; exact HH.out.1.cell spanC_len hx (j := 1) (by omega) rfl
      have ck : wr.cell? ⟨kb, 0, none⟩ = some (.int .i64 rev) := by rw [hbel.cell (p := ⟨kb, 0, none⟩) hlt]; exact hk
      have hbs := hbel.size
      have hti : (t : Int) < (n : Int) := by omega
      have HE := Lib.hid (And.intro hno (And.intro hbel (And.intro htg hx)))
      clear hno hbel htg hg hx
      go_wp2_with fail
      refine (askS_any wr ck (by omega) x).mono ?_
      rintro e w1 ⟨rfl, hb1⟩
      obtain ⟨hno, hbel, htg, hx⟩ := HE.out
      have HF := Lib.hid (hbel.trans (hb1.mono hbs))
      clear hno hbel htg hx hb1
      cases hkx : hasS rev x with
      | true =>
        have HK := Lib.hid hkx
        clear hkx
        go_wp2
        go_ret
        obtain ⟨hno, hbel, htg, hx⟩ := HE.out
        refine ⟨(t : Int), rfl, ?_, HF.out⟩
        have h1 : l.any (hasS rev) = true := List.any_eq_true.2 ⟨x, List.mem_of_getElem? hx, HK.out⟩
        rw [h1]
        exact decide_eq_true (by omega)
      | false =>
        have HK := Lib.hid hkx
        clear hkx
        go_wp2
        go_roundg (gk - 1)
        case measure => have := HE.out.2.2.1; omega
        case rel =>
          obtain ⟨hno, hbel, htg, hx⟩ := HE.out
          refine ⟨t + 1, by omega, by go_num, fun j hj y hy => ?_, HF.out⟩
          by_cases hjt : j = t
          · subst hjt
            rw [hx] at hy
            cases hy
            exact HK.out
          · exact hno j (by omega) y hy
set_option maxRecDepth 100000 in
set_option maxHeartbeats 800000 in
theorem containsS_any {w : World} {v : Value} {l : List Span} (h : OwnS spanC 2 w 119 v l) (hlen : l.length ≤ 1099511627776) {kb : Nat} {rev : Int} (hk : w.cell? ⟨kb, 0, none⟩ = some (.int .i64 rev)) (hlt : kb < w.heap.size) :
    Calls Tryz.prog 90 #[v, .func (.func 91) #[] #[.pointer (some ⟨kb, 0, none⟩)]] w fun e w' => e = .returned (.bool (l.any (hasS rev))) ∧ Below w.heap.size w w' := by
  have HH := Lib.hid (indexS_any h hlen hk hlt)
  clear h hk
  go_enter Tryz.func90, Tryz.ntmps90
  go_wp2_with fail
  refine (HH.out).mono ?_
  rintro e w1 ⟨i, rfl, hi, hb⟩
  have H1 := Lib.hid (And.intro hi hb)
  clear hi hb
  go_wp2
  go_ret
  rw [← H1.out.1]
  exact ⟨rfl, H1.out.2⟩
section
variable {w : World} {s O U M MO MU : Nat} {F : Nat → Prop} {lm : List (Tup × (Value × List Span))} {lo : List (PairT × (Value × List Tup))} {lu : List (ByteArray × (Value × List Tup))} {wm : Int}
set_option maxRecDepth 100000 in
set_option maxHeartbeats 800000 in
theorem at_any (h : StMem w s O U M MO MU F lm lo lu wm) (t : Tup) (rev : Int) (hlen : (aget (smc lm) t).length ≤ 1099511627776) : Calls Tryz.prog 62 #[.pointer (some ⟨s, 0, none⟩), .agg (tupC t).toArray, .int .i64 rev] w fun e w' => e = .returned (.bool ((aget (smc lm) t).any (hasS rev))) ∧ Below w.heap.size w w' := by
  obtain ⟨t0, t1, t2⟩ := t
  obtain ⟨K, hK⟩ : ∃ K, w.heap.size = K := ⟨_, rfl⟩
  obtain ⟨v, hv⟩ : ∃ v, slv lm (t0, t1, t2) = v := ⟨_, rfl⟩
  obtain ⟨L, hL⟩ : ∃ L, aget (smc lm) (t0, t1, t2) = L := ⟨_, rfl⟩
  obtain ⟨W1, hW1⟩ : ∃ W1, (w.alloc (.cells #[.string t0, .string t1, .string t2] 41)).alloc (.cells #[.int .i64 rev] 2) = W1 := ⟨_, rfl⟩
  have m1 : Mod (fun _ => False) w W1 := by rw [← hW1]; exact ((Mod.refl _ w).alloc _).alloc _
  have hs1 : W1.heap.size = K + 2 := by rw [← hW1, World.size_alloc, World.size_alloc, hK]
  have hb1 : Below K w W1 := by rw [← hW1, ← hK]; exact ((Below.refl _ w).alloc (Nat.le_refl _) _).alloc (by simp) _
  have hT1 : W1.heap[K]? = some (.cells #[.string t0, .string t1, .string t2] 41 (0, 0)) := by rw [← hW1, ← hK]; exact block_alloc (block_new w _) _
  have hR1 : W1.heap[K + 1]? = some (.cells #[.int .i64 rev] 2 (0, 0)) := by
    have h1 := block_new (w.alloc (.cells #[.string t0, .string t1, .string t2] 41)) (.cells #[.int .i64 rev] 2)
    rw [World.size_alloc, hK] at h1
    rw [← hW1]
    exact h1
  have hlook : ∀ W : World, SlMap W M encT spanC 2 119 F lm → (Instr.lookup 104 (.map (some M)) (.agg #[.string t0, .string t1, .string t2]) false).run Tryz.prog W = .ok v W := fun W hW => by
    rw [← hv]
    exact hW.look keyTup Tryz.underlying104 (zeroSpans W) (t0, t1, t2)
  have hown : ∀ W : World, SlMap W M encT spanC 2 119 F lm → OwnS spanC 2 W 119 v L := fun W hW => by
    rw [← hv, ← hL]
    exact (hW.at (t0, t1, t2)).1
  rw [hL] at hlen ⊢
  have HH := Lib.hid (And.intro h (And.intro hlook (And.intro m1 (And.intro hb1 (And.intro hT1 (And.intro hR1 (And.intro (h.m.mod m1 id (fun _ _ _ _ h => h)) (And.intro hown (And.intro hlen (And.intro hK hs1))))))))))
  clear h hlook m1 hb1 hT1 hR1 hown hlen hv hL hs1
  unfold tupC
  go_enter Tryz.func62, Tryz.ntmps62
  go_upto_region 1 with fail
  clear hW1
  refine wp_region_held_drew (S := fun w' => Mod (fun _ => False) W1 w') (by kernel_rfl) ((Mod.refl _ W1).drew) (fun hS => ?_)
  refine takeD (i := 0) rfl (by kernel_rfl) (by kernel_rfl) (by kernel_rfl) (fun _ _ _ h => h) hS (Or.inl ⟨by rfl, fun w hSw => by go_simp; rfl⟩) ?_
  simp only [Act.put, List.setIfInBounds_toArray, List.set_cons_zero, List.set_cons_succ]
  refine takeD (i := 1) rfl (by kernel_rfl) (by kernel_rfl) (by kernel_rfl) (fun _ _ _ h => h) hS (Or.inl ⟨by rfl, fun w hSw => by go_simp; rfl⟩) ?_
  simp only [Act.put, List.setIfInBounds_toArray, List.set_cons_zero, List.set_cons_succ]
  refine takeD (i := 2) rfl (by kernel_rfl) (by kernel_rfl) (by kernel_rfl) (fun _ _ _ h => h) hS (Or.inl ⟨by rfl, fun w hSw => by go_simp; rfl⟩) ?_
  simp only [Act.put, List.setIfInBounds_toArray, List.set_cons_zero, List.set_cons_succ]
  refine takeD (i := 3) (v := (.map (some M))) rfl (by kernel_rfl) (by kernel_rfl) (by kernel_rfl) (fun _ _ _ h => h) hS (Or.inl ⟨by rfl, fun w hSw => by have c := cell_of (i := 0) (hSw.old (HH.out.2.2.1.old HH.out.1.hs id) id) rfl; go_simp⟩) ?_
  simp only [Act.put, List.setIfInBounds_toArray, List.set_cons_zero, List.set_cons_succ]
  refine takeD (i := 4) rfl (by kernel_rfl) (by kernel_rfl) (by kernel_rfl) (fun _ _ _ h => h) hS (yieldsIf_load_mid (by rfl) 41 (.tmp 4) rfl K 0 rfl ([.string t0, .string t1, .string t2]) _ (fun w hSw => row_range (hSw.old HH.out.2.2.2.2.1 id)) Tryz.underlying41 rfl infoTup0) ?_
  simp only [Act.put, List.setIfInBounds_toArray, List.set_cons_zero, List.set_cons_succ]
  refine takeD (i := 5) (v := v) rfl (by kernel_rfl) (by kernel_rfl) (by kernel_rfl) (fun _ _ _ h => h) hS (Or.inl ⟨by rfl, fun w hSw => by have c := HH.out.2.1 w (HH.out.2.2.2.2.2.2.1.mod hSw id (fun _ _ _ _ h => h)); go_simp⟩) ?_
  simp only [Act.put, List.setIfInBounds_toArray, List.set_cons_zero, List.set_cons_succ]
  refine takeD (i := 6) rfl (by kernel_rfl) (by kernel_rfl) (by kernel_rfl) (fun _ _ _ h => h) hS (Or.inl ⟨by rfl, fun w hSw => by go_simp; rfl⟩) ?_
  simp only [Act.put, List.setIfInBounds_toArray, List.set_cons_zero, List.set_cons_succ]
  refine wpAnyH_ready (rs := [7]) (by kernel_rfl) (by simp) ?_
  refine consD (i := 7) rfl (fun K' hK' => ?_) AllReadyH.nil
  rw [if_pos (by rfl)]
  go_simp
  have hm := HH.out.2.2.2.2.2.2.1.mod hS id (fun _ _ _ _ h => h)
  have hsz := hS.size
  have hs1 := HH.out.2.2.2.2.2.2.2.2.2.2
  refine (containsS_any (HH.out.2.2.2.2.2.2.2.1 _ hm) HH.out.2.2.2.2.2.2.2.2.1 (kb := K + 1) (rev := rev) (cell_of (i := 0) (hS.old HH.out.2.2.2.2.2.1 id) rfl) (by omega)).mono ?_
  rintro e w3 ⟨rfl, hb3⟩
  dsimp only
  refine hK'.out _ _ (hS.trans' (Mod.of_below hb3 (fun _ => False))) (fun hS' => ?_)
  clear hK' K'
  refine takeD (i := 8) rfl (by kernel_rfl) (by kernel_rfl) (by kernel_rfl) (fun _ _ _ h => h) hS' (Or.inl ⟨by rfl, fun w hSw => by go_simp; rfl⟩) ?_
  simp only [Act.put, List.setIfInBounds_toArray, List.set_cons_zero, List.set_cons_succ]
  refine wpAnyH_done (by kernel_rfl) ?_ _
  have H3 := Lib.hid (And.intro hS hb3)
  clear hS hS' hb3 hm hsz hs1
  simp only [Exit.then]
  go_wp2
  go_ret
  refine ⟨rfl, ?_⟩
  rw [HH.out.2.2.2.2.2.2.2.2.2.1]
  have h1 : Below K W1 W1.drew := (Below.refl K W1).drew
  refine HH.out.2.2.2.1.trans (h1.trans (H3.out.2.mono ?_))
  have h2 := h1.size
  have h3 := HH.out.2.2.2.2.2.2.2.2.2.2
  omega
end
end Go.Proofs.YtojjnfhgldjgbaaGreatDoor.Store
end
section
set_option linter.unusedVariables false
set_option linter.unusedSimpArgs false
namespace Go.Proofs.YtojjnfhgldjgbaaGreatDoor.Store
open Go.RowKit Go.Por Go.Sort Go.Proofs.YtojjnfhgldjgbaaGreatDoor.Watch
section
variable {w : World} {s O U M MO MU : Nat} {F : Nat → Prop} {lm : List (Tup × (Value × List Span))} {lo : List (PairT × (Value × List Tup))} {lu : List (ByteArray × (Value × List Tup))} {wm : Int}
theorem StMem.below {w' : World} (h : StMem w s O U M MO MU F lm lo lu wm) (hb : Below w.heap.size w w') : StMem w' s O U M MO MU F lm lo lu wm := h.mod (Mod.of_below hb (fun _ => False)) (fun _ _ h => h)
set_option maxRecDepth 100000 in
set_option maxHeartbeats 800000 in
theorem has_mem (h : StMem w s O U M MO MU F lm lo lu wm) (t : Tup) (rev : Int) (hlen : (aget (smc lm) t).length ≤ 1099511627776) : Calls Tryz.prog 27 #[.pointer (some ⟨s, 0, none⟩), .agg (tupC t).toArray, .int .i64 rev] w fun e w' => e = .returned (.tuple #[.bool (decide (readA wm rev = 0) && atA (smc lm) t rev), .int .i64 (readA wm rev)]) ∧ Below w.heap.size w w' := by
  obtain ⟨t0, t1, t2⟩ := t
  have HH := Lib.hid (And.intro h hlen)
  clear h hlen
  have har : ∀ W, StMem W s O U M MO MU F lm lo lu wm → Calls Tryz.prog 61 #[.pointer (some ⟨s, 0, none⟩), .int .i64 rev] W fun e w' => e = .returned (.int .i64 (readA wm rev)) ∧ w' = W := fun W hW => readable_any hW rev
  have hat : ∀ W, StMem W s O U M MO MU F lm lo lu wm → Calls Tryz.prog 62 #[.pointer (some ⟨s, 0, none⟩), .agg #[.string t0, .string t1, .string t2], .int .i64 rev] W fun e w' => e = .returned (.bool (atA (smc lm) (t0, t1, t2) rev)) ∧ Below W.heap.size W w' := fun W hW => at_any hW (t0, t1, t2) rev HH.out.2
  obtain ⟨q, hq⟩ : ∃ q, readA wm rev = q := ⟨_, rfl⟩
  obtain ⟨b, hb⟩ : ∃ b, atA (smc lm) (t0, t1, t2) rev = b := ⟨_, rfl⟩
  rw [hq] at har ⊢
  rw [hb] at hat ⊢
  have HC := Lib.hid (And.intro har hat)
  clear har hat hq hb
  unfold tupC
  go_enter Tryz.func27, Tryz.ntmps27
  go_wp2_with fail
  have hb1 : Below w.heap.size w (w.alloc (.cells #[.string t0, .string t1, .string t2] 41)) := (Below.refl _ w).alloc (Nat.le_refl _) _
  have hm1 := HH.out.1.below hb1
  refine (HC.out.1 _ hm1).mono ?_
  rintro e w1 ⟨rfl, rfl⟩
  have H1 := Lib.hid (And.intro hb1 hm1)
  clear hb1 hm1
  by_cases h0 : q = 0
  · subst h0
    go_wp2_with fail
    refine (HC.out.2 _ H1.out.2).mono ?_
    rintro e w2 ⟨rfl, hb2⟩
    have H2 := Lib.hid hb2
    clear hb2
    go_wp2
    go_ret2
    refine ⟨?_, H1.out.1.trans (H2.out.mono (by rw [World.size_alloc]; omega))⟩
    simp
  · have h1 : (q == 0) = false := by simp [h0]
    go_wp2
    go_ret2
    refine ⟨?_, H1.out.1⟩
    simp [h0]
end
end Go.Proofs.YtojjnfhgldjgbaaGreatDoor.Store
end
section
set_option linter.unusedVariables false
set_option linter.unusedSimpArgs false
namespace Go.Por
open Go.RowKit
theorem gput_same {κ β : Type} [DecidableEq κ] {l : List (κ × β)} (hn : (l.map Prod.fst).Nodup) {k : κ} {v : β} (h : (k, v) ∈ l) : gput l k v = l := by
  unfold gput
  rw [if_pos (List.mem_map.2 ⟨_, h, rfl⟩)]
  conv => rhs; rw [← List.map_id l]
  apply List.map_congr_left
  intro p hp
  by_cases hk : p.1 = k
  · rw [if_pos hk]
    obtain ⟨p1, p2⟩ := p
    simp only at hk
    subst hk
    rw [nodup_fst hn h hp]
    rfl
  · rw [if_neg hk]
    rfl
section
variable {κ α : Type} [DecidableEq κ] {w w' : World} {M : Nat} {enc : κ → Value} {f : α → List Value} {c : Nat} {E : TypeId} {F : Nat → Prop} {l : List (κ × (Value × List α))}
/-- A key's own slice holds something else now, in its place. -/
theorem SlMap.touch (h : SlMap w M enc f c E F l) {k : κ} {v : Value} {x x' : List α} (hg : gfind l k = some (v, x)) (hm : Mod (fun b => some b = v.ownBlock) w w') (ho : OwnS f c w' E v x') : SlMap w' M enc f c E F (gput l k (v, x')) := by
  have hmem := gfind_mem hg
  have hself := h.own _ hmem
  refine ⟨?_, fun e he => ?_, fun e he e' he' hne b hb => ?_, fun e he b hb => ?_⟩
  · have e1 : smv (gput l k (v, x')) = smv l := by
      unfold smv
      rw [gput_map (fun p : Value × List α => p.1)]
      exact gput_same (by rw [List.map_map]; exact h.nodup) (List.mem_map.2 ⟨_, hmem, rfl⟩)
    rw [e1]
    exact h.map.mod hm (fun e => hself.ne_map h.map M e.symm rfl)
  · rcases mem_gput.1 he with rfl | ⟨h4, h5⟩
    · exact ho
    · exact (h.own e h5).mod hm (fun b hb e' => h.dis e h5 _ hmem h4 b hb e'.symm)
  · rcases mem_gput.1 he with rfl | ⟨h4, h5⟩
    · rcases mem_gput.1 he' with rfl | ⟨h6, h7⟩
      · exact absurd rfl hne
      · exact h.dis _ hmem e' h7 (fun e => h6 e.symm) b hb
    · rcases mem_gput.1 he' with rfl | ⟨h6, h7⟩
      · exact h.dis e h5 _ hmem h4 b hb
      · exact h.dis e h5 e' h7 hne b hb
  · rcases mem_gput.1 he with rfl | ⟨h4, h5⟩
    · exact h.foot _ hmem b hb
    · exact h.foot e h5 b hb
theorem SlMap.nodupC {κ α : Type} {w : World} {M : Nat} {enc : κ → Value} {f : α → List Value} {c : Nat} {E : TypeId} {F : Nat → Prop} {l : List (κ × (Value × List α))} (h : SlMap w M enc f c E F l) : ((smc l).map Prod.fst).Nodup := by rw [smc_fst]; exact h.nodup
theorem slv_find {k : κ} {b n cap : Nat} (h : slv l k = .slice (some ⟨b, 0, none⟩) n cap) : ∃ x, gfind l k = some (.slice (some ⟨b, 0, none⟩) n cap, x) ∧ x = aget (smc l) k := by
  rw [aget_smc]
  unfold slv at h
  cases hg : gfind l k with
  | none => rw [hg] at h; simp at h
  | some p =>
    rw [hg] at h
    obtain ⟨p1, p2⟩ := p
    simp only [Option.map_some, Option.getD_some] at h
    subst h
    exact ⟨p2, rfl, rfl⟩
end
end Go.Por
namespace Go.Proofs.YtojjnfhgldjgbaaGreatDoor.Store
open Go.RowKit Go.Por Go.Sort Go.Proofs.YtojjnfhgldjgbaaGreatDoor.Watch
abbrev Ob := List (PairT × List Tup)
abbrev Us := List (ByteArray × List Tup)
/-- The spans and both indices. -/
abbrev St3 := Sp × Ob × Us
def step3 (rev : Int) (x : St3) (m : Mut) : St3 :=
  if m.1 = true then (if thereOf (aget x.1 m.2) = true then (gput x.1 m.2 (shutL (aget x.1 m.2) rev), x.2.1, x.2.2) else x)
  else (if thereOf (aget x.1 m.2) = true then x else (gput x.1 m.2 (aget x.1 m.2 ++ [(rev, 0)]), putC x.2.1 (m.2.1, m.2.2.1) m.2, putC x.2.2 m.2.2.2 m.2))
def apply3 (rev : Int) (x : St3) (muts : List Mut) : St3 := muts.foldl (step3 rev) x
theorem step3_fst (rev : Int) (x : St3) (m : Mut) : (step3 rev x m).1 = stepA rev x.1 m := by
  unfold step3 stepA
  split <;> split <;> rfl
theorem apply3_fst (rev : Int) (muts : List Mut) : ∀ x : St3, (apply3 rev x muts).1 = applyA rev x.1 muts := by
  induction muts with
  | nil => intro x; rfl
  | cons m ms ih =>
    intro x
    unfold apply3 applyA
    rw [List.foldl_cons, List.foldl_cons]
    have := ih (step3 rev x m)
    unfold apply3 applyA at this
    rw [this, step3_fst]
theorem apply3_take (rev : Int) (x : St3) (muts : List Mut) {t : Nat} {m : Mut} (h : muts[t]? = some m) : apply3 rev x (muts.take (t + 1)) = step3 rev (apply3 rev x (muts.take t)) m := by
  unfold apply3
  rw [List.take_add_one, h, Option.toList_some, List.foldl_append]
  rfl
theorem shutL_snoc (P : List Span) (x : Span) (rev : Int) : shutL (P ++ [x]) rev = P ++ [(x.1, rev)] := by
  unfold shutL
  rw [List.getLast?_concat, Option.getD_some, List.length_append, List.length_singleton, Nat.add_sub_cancel]
  rw [List.set_append_right _ _ (Nat.le_refl _), Nat.sub_self]
  rfl
theorem shutL_len (l : List Span) (rev : Int) : (shutL l rev).length = l.length := by unfold shutL; rw [List.length_set]
theorem aget_len_gput {κ α : Type} [DecidableEq κ] {l : List (κ × List α)} (hn : (l.map Prod.fst).Nodup) {N : Nat} (h : ∀ k, (aget l k).length ≤ N) (k : κ) (x : List α) (hx : x.length ≤ N) : ∀ q, (aget (gput l k x) q).length ≤ N := fun q => by
  unfold aget
  rw [gfind_gput hn]
  by_cases hq : q = k
  · rw [if_pos hq]; exact hx
  · rw [if_neg hq]; exact h q
theorem putC_len {κ : Type} [DecidableEq κ] {l : List (κ × List Tup)} (hn : (l.map Prod.fst).Nodup) {N : Nat} (h : ∀ k, (aget l k).length ≤ N) (k : κ) (t : Tup) : ∀ q, (aget (putC l k t) q).length ≤ N + 1 := fun q => by
  unfold putC
  split
  · exact Nat.le_succ_of_le (h q)
  · exact aget_len_gput hn (fun k => Nat.le_succ_of_le (h k)) k _ (by rw [List.length_append, List.length_singleton]; exact Nat.succ_le_succ (h k)) q
end Go.Proofs.YtojjnfhgldjgbaaGreatDoor.Store
end
section
set_option linter.unusedVariables false
set_option linter.unusedSimpArgs false
namespace Go.Proofs.YtojjnfhgldjgbaaGreatDoor.Store
open Go.RowKit Go.Por Go.Sort Go.Proofs.YtojjnfhgldjgbaaGreatDoor.Watch Go.Por.Tupl
section
variable {w : World} {s O U M MO MU : Nat} {F : Nat → Prop} {lm : List (Tup × (Value × List Span))} {lo : List (PairT × (Value × List Tup))} {lu : List (ByteArray × (Value × List Tup))} {wm : Int}
theorem Short.mono {N N' : Nat} (h : Short N lm lo lu) (hn : N ≤ N') : Short N' lm lo lu := ⟨fun k => Nat.le_trans (h.m k) hn, fun k => Nat.le_trans (h.o k) hn, fun k => Nat.le_trans (h.u k) hn⟩
theorem StMem.grown {w' w'' : World} (h : StMem w' s O U M MO MU (grew F w w') lm lo lu wm) (hl : ∀ b, F b → b < w.heap.size) (hw : w.heap.size ≤ w'.heap.size) (hb : Below w'.heap.size w' w'') : StMem w'' s O U M MO MU (grew F w w'') lm lo lu wm := by
  have hs := hb.size
  refine (h.mod (Mod.of_below hb (fun _ => False)) (fun _ _ h => h)).weaken (fun b hb => ?_) (fun b hb => ?_)
  · rcases hb with hb | hb
    · exact .inl hb
    · exact .inr ⟨hb.1, by omega⟩
  · rcases hb with hb | hb
    · have := hl b hb; omega
    · exact hb.2
set_option maxRecDepth 100000 in
set_option maxHeartbeats 6400000 in
theorem apply_mem (h : StMem w s O U M MO MU F lm lo lu wm) {N : Nat} (hN : Short N lm lo lu) {v : Value} {muts : List Mut} (hr : ReadS mutC 4 w v muts) (hvF : muts ≠ [] → ∀ k, v.ownBlock = some k → ¬ F k) (hok : ∀ m ∈ muts, TupOk m.2) (hN2 : N + muts.length ≤ 1099511627776) (rev : Int) : Calls Tryz.prog 26 #[.pointer (some ⟨s, 0, none⟩), .int .i64 rev, v] w fun e w' => e = .returned (.int .i64 (checkA (smc lm) wm rev muts)) ∧
    ∃ lm' lo' lu', StMem w' s O U M MO MU (grew F w w') lm' lo' lu' wm ∧ (smc lm', smc lo', smc lu') = (if checkA (smc lm) wm rev muts = 0 then apply3 rev (smc lm, smc lo, smc lu) muts else (smc lm, smc lo, smc lu)) ∧ Short (N + muts.length) lm' lo' lu' ∧ Mod F w w' := by
  obtain ⟨ao, cap, rfl, hlen⟩ := hr.form
  obtain ⟨n, hn⟩ : ∃ n, muts.length = n := ⟨_, rfl⟩
  have hck := check_mem h hr hok rev
  obtain ⟨q, hq⟩ : ∃ q, checkA (smc lm) wm rev muts = q := ⟨_, rfl⟩
  rw [hn] at hr hlen hvF hN2 hck ⊢
  rw [hq] at hck ⊢
  obtain ⟨X, hX⟩ : ∃ X, (if q = 0 then apply3 rev (smc lm, smc lo, smc lu) muts else (smc lm, smc lo, smc lu)) = X := ⟨_, rfl⟩
  rw [hX]
  have HH := Lib.hid (And.intro h (And.intro hr (And.intro hlen (And.intro hn (And.intro hvF (And.intro hN (And.intro hN2 (And.intro hX h.lt))))))))
  have HC := Lib.hid hck
  clear h hr hvF hN hN2 hX hck hq hok
  obtain ⟨B, hB⟩ : ∃ B, w.heap.size = B := ⟨_, rfl⟩
  go_enter Tryz.func26, Tryz.ntmps26
  go_wp2_with fail
  refine (HC.out).mono ?_
  rintro e w1 ⟨rfl, hb1⟩
  have hS1 : StMem w1 s O U M MO MU (grew F w w1) lm lo lu wm := (HH.out.1.weaken (F' := grew F w w) (fun b hb => .inl hb) (fun b hb => hb.elim (HH.out.2.2.2.2.2.2.2.2 b) (fun h => h.2))).grown HH.out.2.2.2.2.2.2.2.2 (Nat.le_refl _) hb1
  have HD := Lib.hid (And.intro hS1 (And.intro hb1 hB))
  clear hS1 hb1 hB
  by_cases hq0 : q = 0
  · subst hq0
    go_wp2
    go_loopg [21] n (fun gg vi wx => ∃ (t : Nat) (lmx : List (Tup × (Value × List Span))) (lox : List (PairT × (Value × List Tup))) (lux : List (ByteArray × (Value × List Tup))), t + gg = n ∧ vi = .int .i64 (t : Int) ∧ StMem wx s O U M MO MU (grew F w wx) lmx lox lux wm ∧ (smc lmx, smc lox, smc lux) = apply3 rev (smc lm, smc lo, smc lu) (muts.take t) ∧ Short (N + t) lmx lox lux ∧ Mod F w wx)
    case atStart => exact ⟨0, lm, lo, lu, by omega, rfl, HD.out.1, rfl, HH.out.2.2.2.2.2.1, Mod.of_below HD.out.2.1 F⟩
    case round =>
      obtain ⟨t, lmx, lox, lux, htg, rfl, hSx, hap, hsh, hmod⟩ := hrel
      by_cases hg : gk = 0
      · have ht : t = n := by omega
        have hk0 : ¬ ((t : Int) < (n : Int)) := by omega
        have hap2 : (smc lmx, smc lox, smc lux) = X := by
          have e1 := HH.out.2.2.2.2.2.2.2.1
          rw [if_pos trivial] at e1
          rw [hap, List.take_of_length_le (by rw [HH.out.2.2.2.1]; omega), e1]
        have HE := Lib.hid (And.intro hSx (And.intro hap2 (And.intro hsh (And.intro hmod ht))))
        clear hSx hap hap2 hsh hmod htg hg ht
        go_wp2
        go_ret
        exact ⟨rfl, lmx, lox, lux, HE.out.1, HE.out.2.1, by have := HE.out.2.2.1; rwa [HE.out.2.2.2.2] at this, HE.out.2.2.2.1⟩
      · have htn : t < n := by omega
        obtain ⟨⟨d, t0, t1, t2⟩, hx⟩ : ∃ m, muts[t]? = some m := ⟨_, List.getElem?_eq_getElem (by rw [HH.out.2.2.2.1]; exact htn)⟩
        have hrr := HH.out.2.1.mod (by decide) mutC_len hmod (HH.out.2.2.2.2.1 (List.ne_nil_of_mem (List.mem_of_getElem? hx)))
        obtain ⟨b, o, rfl, hrange, hbl⟩ := hrr.lt (by decide) mutC_len hx
        have hti : (t : Int) < (n : Int) := by omega
        have hstep := apply3_take rev (smc lm, smc lo, smc lu) muts hx
        rw [← hap] at hstep
        have hlim : N + t ≤ 1099511627776 := by have := HH.out.2.2.2.2.2.2.1; omega
        have HE := Lib.hid (And.intro hSx (And.intro hstep (And.intro hsh (And.intro hmod (And.intro hrange (And.intro htg (And.intro htn hlim)))))))
        clear hSx hap hsh hmod hrange hrr hbl hx hg htg htn hstep hlim
        go_upto_region 7 with (first
          | (refine wpList_load_mid rfl 47 (.tmp 23) rfl b (o + t * 4) rfl (mutC (d, t0, t1, t2)) _ HE.out.2.2.2.2.1 Tryz.underlying47 rfl infoMut0 ?_; unfold mutC))
        obtain ⟨Q, hQ⟩ : ∃ Q, wr.heap.size = Q := ⟨_, rfl⟩
        have hQb := block_new wr (.cells #[.bool d, .string t0, .string t1, .string t2] 47)
        have b4 : Below wr.heap.size wr (wr.alloc (.cells #[.bool d, .string t0, .string t1, .string t2] 47)) := (Below.refl _ wr).alloc (Nat.le_refl _) _
        have s4 : (wr.alloc (.cells #[.bool d, .string t0, .string t1, .string t2] 47)).heap.size = Q + 1 := by rw [World.size_alloc, hQ]
        have hS4 := HE.out.1.grown HH.out.2.2.2.2.2.2.2.2 HE.out.2.2.2.1.size b4
        rw [hQ] at hQb ⊢
        generalize hW4 : wr.alloc (.cells #[.bool d, .string t0, .string t1, .string t2] 47) = W4 at *
        have hlook : ∀ W : World, SlMap W M encT spanC 2 119 (grew F w W4) lmx → (Instr.lookup 104 (.map (some M)) (.agg #[.string t0, .string t1, .string t2]) false).run Tryz.prog W = .ok (slv lmx (t0, t1, t2)) W := fun W hW => hW.look keyTup Tryz.underlying104 (zeroSpans W) (t0, t1, t2)
        obtain ⟨vl, hvl⟩ : ∃ vl, slv lmx (t0, t1, t2) = vl := ⟨_, rfl⟩
        rw [hvl] at hlook
        have HF := Lib.hid (And.intro hQb (And.intro b4 (And.intro s4 (And.intro hQ (And.intro hS4 (And.intro hlook hvl))))))
        clear hQb b4 s4 hQ hW4 hS4 hlook hvl
        refine wp_region_held_drew (S := fun w' => Mod (fun _ => False) W4 w') (by kernel_rfl) ((Mod.refl _ W4).drew) (fun hS => ?_)
        refine takeD (i := 0) rfl (by kernel_rfl) (by kernel_rfl) (by kernel_rfl) (fun _ _ _ h => h) hS (Or.inl ⟨by rfl, fun w hSw => by go_simp; rfl⟩) ?_
        simp only [Act.put, List.setIfInBounds_toArray, List.set_cons_zero, List.set_cons_succ]
        refine takeD (i := 1) rfl (by kernel_rfl) (by kernel_rfl) (by kernel_rfl) (fun _ _ _ h => h) hS (Or.inl ⟨by rfl, fun w hSw => by go_simp; rfl⟩) ?_
        simp only [Act.put, List.setIfInBounds_toArray, List.set_cons_zero, List.set_cons_succ]
        refine takeD (i := 2) rfl (by kernel_rfl) (by kernel_rfl) (by kernel_rfl) (fun _ _ _ h => h) hS (Or.inl ⟨by rfl, fun w hSw => by go_simp; rfl⟩) ?_
        simp only [Act.put, List.setIfInBounds_toArray, List.set_cons_zero, List.set_cons_succ]
        refine takeD (i := 3) (v := (.map (some M))) rfl (by kernel_rfl) (by kernel_rfl) (by kernel_rfl) (fun _ _ _ h => h) hS (Or.inl ⟨by rfl, fun w hSw => by have c := cell_of (i := 0) (hSw.old HF.out.2.2.2.2.1.hs id) rfl; go_simp⟩) ?_
        simp only [Act.put, List.setIfInBounds_toArray, List.set_cons_zero, List.set_cons_succ]
        refine takeD (i := 4) rfl (by kernel_rfl) (by kernel_rfl) (by kernel_rfl) (fun _ _ _ h => h) hS (Or.inl ⟨by rfl, fun w hSw => by go_simp; rfl⟩) ?_
        simp only [Act.put, List.setIfInBounds_toArray, List.set_cons_zero, List.set_cons_succ]
        refine takeD (i := 5) rfl (by kernel_rfl) (by kernel_rfl) (by kernel_rfl) (fun _ _ _ h => h) hS (yieldsIf_load_mid (by rfl) 41 (.tmp 29) rfl Q 1 rfl ([.string t0, .string t1, .string t2]) _ (fun w hSw => row_mid (hSw.old HF.out.1 id)) Tryz.underlying41 rfl infoTup0) ?_
        simp only [Act.put, List.setIfInBounds_toArray, List.set_cons_zero, List.set_cons_succ]
        refine takeD (i := 6) (v := vl) rfl (by kernel_rfl) (by kernel_rfl) (by kernel_rfl) (fun _ _ _ h => h) hS (Or.inl ⟨by rfl, fun w hSw => by have c := HF.out.2.2.2.2.2.1 w (HF.out.2.2.2.2.1.m.mod hSw id (fun _ _ _ _ h => h)); go_simp⟩) ?_
        simp only [Act.put, List.setIfInBounds_toArray, List.set_cons_zero, List.set_cons_succ]
        refine takeD (i := 7) rfl (by kernel_rfl) (by kernel_rfl) (by kernel_rfl) (fun _ _ _ h => h) hS (Or.inl ⟨by rfl, fun w hSw => by go_simp; rfl⟩) ?_
        simp only [Act.put, List.setIfInBounds_toArray, List.set_cons_zero, List.set_cons_succ]
        refine wpAnyH_done (by kernel_rfl) ?_ _
        simp only [Exit.then]
        have hQ5 := hS.old HF.out.1 id
        have hS5 : StMem W4.drew s O U M MO MU (grew F w W4) lmx lox lux wm := HF.out.2.2.2.2.1.mod hS (fun _ _ h => h)
        have HG := Lib.hid (And.intro (row_mid hQ5) (And.intro hQ5 (And.intro hS5 hS)))
        clear hQ5 hS5 hS
        go_wp2_with (first
          | (refine wpList_load_mid rfl 41 (.tmp 33) rfl Q 1 rfl [.string t0, .string t1, .string t2] _ HG.out.1 Tryz.underlying41 rfl infoTup0 ?_))
        refine (there_any HG.out.2.2.1 (t0, t1, t2)).mono ?_
        rintro e w6 ⟨rfl, hb6⟩
        have b46 : Below W4.heap.size W4 w6 := ((Below.refl W4.heap.size W4).drew).trans hb6
        have hS6 := HF.out.2.2.2.2.1.grown HH.out.2.2.2.2.2.2.2.2 (Nat.le_trans HE.out.2.2.2.1.size HF.out.2.1.size) b46
        have hQ6 := (Mod.of_below b46 (fun _ => False)).old HF.out.1 id
        have m6 : Mod F w w6 := (HE.out.2.2.2.1.trans (Mod.of_below HF.out.2.1 (fun _ => False)) (fun _ h => h.elim)).trans (Mod.of_below b46 (fun _ => False)) (fun _ h => h.elim)
        have c0 : w6.cell? ⟨Q, 0, none⟩ = some (.bool d) := cell_of hQ6 rfl
        obtain ⟨th, hth⟩ : ∃ th, thereOf (aget (smc lmx) (t0, t1, t2)) = th := ⟨_, rfl⟩
        rw [hth]
        have HI := Lib.hid (And.intro (row_mid hQ6) (And.intro hQ6 (And.intro hS6 (And.intro m6 hth))))
        clear hb6 b46 hS6 hQ6 m6 hth
        cases d with
        | true =>
          cases th with
          | true =>
            have hth := HI.out.2.2.2.2
            rcases spans_last HI.out.2.2.1 (t0, t1, t2) with ⟨_, h2⟩ | ⟨_, _, _, h2⟩ | ⟨g, cp, k, P, x, h1, h2, h3, h4, h5, h6, h7⟩
            · rw [h2] at hth; cases hth
            · rw [h2] at hth; cases hth
            · clear hth
              have hvl : vl = .slice (some ⟨g, 0, none⟩) (k + 1) cp := by rw [← HF.out.2.2.2.2.2.2]; exact h1
              subst hvl
              have hown := (HI.out.2.2.1.m.at (t0, t1, t2)).1
              rw [h1, h2] at hown
              have hfree := hown.free (k * 2 + 1)
              have hk : (k : Int) + 1 ≤ 9223372036854775807 := by unfold maxLen at h4; omega
              have hwk : wrap64 (k : Int) = k := by unfold wrap64; omega
              have HK := Lib.hid (And.intro h1 (And.intro h2 (And.intro h3 (And.intro h4 (And.intro h7 hown)))))
              clear h1 h2 h3 h4 h5 h7 hown
              go_wp2
              go_roundg (gk - 1)
              case measure => have := HE.out.2.2.2.2.2; omega
              case rel =>
                obtain ⟨e1, e2, e3, e4, e5, e6, e7, e8⟩ := HE.out
                obtain ⟨i1, i2, i3, i4, i5⟩ := HI.out
                obtain ⟨k1, k2, k3, k4, k5, k6⟩ := HK.out
                have hset := OwnS.set spanC_len k6 (i := k) (j := 1) (x := x) (y := (x.1, rev)) (u := .int .i64 rev) (by rw [← k3]; simp) (by decide) rfl
                have elist : (P ++ [x]).set k (x.1, rev) = P ++ [(x.1, rev)] := by
                  rw [← k3, List.set_append_right _ _ (Nat.le_refl _), Nat.sub_self]
                  rfl
                rw [elist] at hset
                obtain ⟨y, hfind, hy⟩ := slv_find k1
                have mset : Mod (fun b => some b = (Value.slice (some ⟨g, 0, none⟩) (k + 1) cp).ownBlock) w6 (w6.setCell ⟨g, k * 2 + 1, none⟩ (.int .i64 rev)) := Mod.setCell (p := ⟨g, k * 2 + 1, none⟩) (Mod.refl (fun b => some b = (Value.slice (some ⟨g, 0, none⟩) (k + 1) cp).ownBlock) w6) (.inl rfl) _
                have htouch := i3.m.tight.touch hfind mset hset
                have mset2 : Mod (fun b => b = M ∨ blk lmx b) w6 (w6.setCell ⟨g, k * 2 + 1, none⟩ (.int .i64 rev)) := mset.mono (fun b _ hb => .inr (slv_blk (by rw [k1]; exact hb)))
                have hS7 := i3.setM mset2 (htouch.weaken (fun b hb => .inl hb))
                have z6 := i4.size
                have z7 := mset2.size
                refine ⟨t + 1, _, lox, lux, by omega, by go_num, hS7.weaken (fun b hb => ?_) (fun b hb => ?_), ?_, ⟨?_, fun q => Nat.le_trans (e3.o q) (by omega), fun q => Nat.le_trans (e3.u q) (by omega)⟩, i4.trans mset2 (fun b hb => ?_)⟩
                · rcases hb with (hb | hb) | hb
                  · exact .inl hb
                  · exact .inr ⟨hb.1, by omega⟩
                  · exact .inr ⟨by omega, hb.2⟩
                · rcases hb with hb | hb
                  · have := HH.out.2.2.2.2.2.2.2.2 b hb; omega
                  · exact hb.2
                · rw [e2]
                  unfold step3
                  rw [if_pos rfl, if_pos i5, smc_gput, k2, shutL_snoc]
                · rw [smc_gput]
                  refine aget_len_gput i3.m.nodupC (fun q => Nat.le_trans (e3.m q) (by omega)) _ _ ?_
                  have := e3.m (t0, t1, t2)
                  rw [k2] at this
                  rw [List.length_append, List.length_singleton] at this ⊢
                  omega
                · have hg' : grew F w w6 b := by
                    rcases hb with hb | hb
                    · rw [hb]; exact i3.fM
                    · exact i3.m.blk_F b hb
                  rcases hg' with hb | hb
                  · exact .inl hb
                  · exact .inr hb.1
          | false =>
            go_wp2
            go_roundg (gk - 1)
            case measure => have := HE.out.2.2.2.2.2; omega
            case rel =>
              obtain ⟨e1, e2, e3, e4, e5, e6, e7, e8⟩ := HE.out
              refine ⟨t + 1, lmx, lox, lux, by omega, by go_num, HI.out.2.2.1, ?_, e3.mono (by omega), HI.out.2.2.2.1⟩
              rw [e2]
              unfold step3
              rw [if_pos rfl, if_neg (by rw [HI.out.2.2.2.2]; decide)]
        | false =>
          cases th with
          | true =>
            go_wp2
            go_roundg (gk - 1)
            case measure => have := HE.out.2.2.2.2.2; omega
            case rel =>
              obtain ⟨e1, e2, e3, e4, e5, e6, e7, e8⟩ := HE.out
              refine ⟨t + 1, lmx, lox, lux, by omega, by go_num, HI.out.2.2.1, ?_, e3.mono (by omega), HI.out.2.2.2.1⟩
              rw [e2]
              unfold step3
              rw [if_neg (by intro h; cases h), if_pos HI.out.2.2.2.2]
          | false =>
            go_wp2_with (first
              | (refine wpList_load_mid rfl 41 (.tmp 58) rfl Q 1 rfl [.string t0, .string t1, .string t2] _ HI.out.1 Tryz.underlying41 rfl infoTup0 ?_))
            refine (add_mem HI.out.2.2.1 HE.out.2.2.1 HE.out.2.2.2.2.2.2.2 (t0, t1, t2) (rev, 0)).mono ?_
            rintro e w7 ⟨rfl, lm7, lo7, lu7, hS7, a1, a2, a3, m7⟩
            have HJ := Lib.hid (And.intro hS7 (And.intro a1 (And.intro a2 (And.intro a3 m7))))
            clear hS7 a1 a2 a3 m7
            go_wp2
            go_roundg (gk - 1)
            case measure => have := HE.out.2.2.2.2.2; omega
            case rel =>
              obtain ⟨e1, e2, e3, e4, e5, e6, e7, e8⟩ := HE.out
              obtain ⟨j1, j2, j3, j4, j5⟩ := HJ.out
              obtain ⟨i1, i2, i3, i4, i5⟩ := HI.out
              have z6 := i4.size
              have z7 := j5.size
              refine ⟨t + 1, lm7, lo7, lu7, by omega, by go_num, j1.weaken (fun b hb => ?_) (fun b hb => ?_), ?_, ⟨?_, ?_, ?_⟩, i4.trans j5 (fun b hb => ?_)⟩
              · rcases hb with (hb | hb) | hb
                · exact .inl hb
                · exact .inr ⟨hb.1, by omega⟩
                · exact .inr ⟨by omega, hb.2⟩
              · rcases hb with hb | hb
                · have := HH.out.2.2.2.2.2.2.2.2 b hb; omega
                · exact hb.2
              · rw [e2]
                unfold step3
                rw [if_neg (by intro h; cases h), if_neg (by rw [i5]; decide), j2, j3, j4]
              · rw [j2]
                exact aget_len_gput i3.m.nodupC (fun k => Nat.le_trans (e3.m k) (by omega)) _ _ (by rw [List.length_append, List.length_singleton]; have := e3.m (t0, t1, t2); omega)
              · rw [j3]
                exact putC_len i3.o.nodupC e3.o _ _
              · rw [j4]
                exact putC_len i3.u.nodupC e3.u _ _
              · rcases hb with hb | hb
                · exact .inl hb
                · exact .inr hb.1
  · have hq1 : (q == 0) = false := by simp [hq0]
    have eX : X = (smc lm, smc lo, smc lu) := by
      have e1 := HH.out.2.2.2.2.2.2.2.1
      rw [if_neg hq0] at e1
      exact e1.symm
    go_wp2
    go_ret
    exact ⟨rfl, lm, lo, lu, HD.out.1, eX.symm, HH.out.2.2.2.2.2.1.mono (by omega), Mod.of_below HD.out.2.1 F⟩
end
end Go.Proofs.YtojjnfhgldjgbaaGreatDoor.Store
end
section
set_option linter.unusedVariables false
set_option linter.unusedSimpArgs false
namespace Go.Proofs.YtojjnfhgldjgbaaGreatDoor.Store
open Go.RowKit Go.Por Go.Sort Go.Proofs.YtojjnfhgldjgbaaGreatDoor.Watch
/-- The order of the store's rows. -/
def rcm (a b : RowT) : Int := if tcmp a.1 b.1 ≠ 0 then tcmp a.1 b.1 else min (max (a.2.1 - b.2.1) (-1)) 1
theorem rcm_neg {a b : RowT} : rcm a b < 0 ↔ rlt a b := by
  unfold rcm rlt
  by_cases h : a.1 = b.1
  · rw [if_neg (by simp [tcmp_zero.2 h])]
    constructor
    · intro k; exact .inr ⟨h, by omega⟩
    · rintro (k | ⟨_, k⟩)
      · rw [h] at k; exact absurd k (tlt_irrefl _)
      · omega
  · rw [if_pos (fun e => h (tcmp_zero.1 e)), tcmp_neg]
    exact ⟨.inl, fun k => k.elim id (fun k => absurd k.1 h)⟩
theorem rlt_cases (a b : RowT) : rlt a b ∨ (a.1 = b.1 ∧ a.2.1 = b.2.1) ∨ rlt b a := by
  unfold rlt
  rcases tlt_total a.1 b.1 with h | h | h
  · exact .inl (.inl h)
  · rcases Int.lt_trichotomy a.2.1 b.2.1 with k | k | k
    · exact .inl (.inr ⟨h, k⟩)
    · exact .inr (.inl ⟨h, k⟩)
    · exact .inr (.inr (.inr ⟨h.symm, k⟩))
  · exact .inr (.inr (.inl h))
theorem rlt_same {a b c : RowT} (h : a.1 = b.1 ∧ a.2.1 = b.2.1) : rlt a c ↔ rlt b c := by unfold rlt; rw [h.1, h.2]
/-- Rows whose revision is in bounds. -/
abbrev RB := { r : RowT // 0 ≤ r.2.1 ∧ r.2.1 ≤ maxRev }
instance : Inhabited RB := ⟨⟨((⟨#[]⟩, ⟨#[]⟩, ⟨#[]⟩), 0, 0), by decide⟩⟩
theorem rbSwo : SWO (ltOf (fun a b : RB => rcm a.1 b.1)) := by
  have e : ∀ x y : RB, ltOf (fun a b : RB => rcm a.1 b.1) x y = true ↔ rlt x.1 y.1 := fun x y => by
    unfold ltOf
    rw [decide_eq_true_iff]
    exact rcm_neg
  refine ⟨fun x => ?_, fun x y z h k => ?_, fun x y z h k => ?_⟩
  · cases hh : ltOf (fun a b : RB => rcm a.1 b.1) x x with
    | false => rfl
    | true => exact absurd ((e x x).1 hh) (rlt_irrefl _)
  · exact (e x z).2 (rlt_trans ((e x y).1 h) ((e y z).1 k))
  · cases hh : ltOf (fun a b : RB => rcm a.1 b.1) x z with
    | false => rfl
    | true =>
      have h1 := (e x z).1 hh
      have n1 : ¬ rlt x.1 y.1 := fun q => by rw [(e x y).2 q] at h; cases h
      have n2 : ¬ rlt y.1 z.1 := fun q => by rw [(e y z).2 q] at k; cases k
      rcases rlt_cases x.1 y.1 with q | q | q
      · exact absurd q n1
      · exact absurd ((rlt_same q).1 h1) n2
      · exact absurd (rlt_trans q h1) n2
set_option maxRecDepth 100000 in
set_option maxHeartbeats 800000 in
theorem rowcmp_any (a b : RB) (w : World) : Calls Tryz.prog 64 #[.agg (rowC a.1).toArray, .agg (rowC b.1).toArray] w fun e w' => e = .returned (.int .i64 (rcm a.1 b.1)) ∧ Gr w w' := by
  obtain ⟨⟨⟨a0, a1, a2⟩, ar, au⟩, ha1, ha2⟩ := a
  obtain ⟨⟨⟨b0, b1, b2⟩, br, bu⟩, hb1, hb2⟩ := b
  simp only at ha1 ha2 hb1 hb2
  unfold maxRev at ha2 hb2
  unfold rowC rcm
  have hc := fun w => compare_any (a0, a1, a2) (b0, b1, b2) w
  unfold tupC at hc
  obtain ⟨n, hn⟩ : ∃ n, tcmp (a0, a1, a2) (b0, b1, b2) = n := ⟨_, rfl⟩
  rw [hn] at hc
  simp only
  rw [hn]
  have HC := Lib.hid hc
  clear hc hn
  obtain ⟨B, hB⟩ : ∃ B, w.heap.size = B := ⟨_, rfl⟩
  obtain ⟨W2, hW2⟩ : ∃ W2, (w.alloc (.cells #[.string a0, .string a1, .string a2, .int .i64 ar, .int .i64 au] 63)).alloc (.cells #[.string b0, .string b1, .string b2, .int .i64 br, .int .i64 bu] 63) = W2 := ⟨_, rfl⟩
  have hg : Gr w W2 := by rw [← hW2]; exact ((Gr.refl w).alloc _).alloc _
  have p0 : W2.heap[B]? = some (.cells #[.string a0, .string a1, .string a2, .int .i64 ar, .int .i64 au] 63 (0, 0)) := by rw [← hW2, ← hB]; exact block_alloc (block_new w _) _
  have p1 : W2.heap[B + 1]? = some (.cells #[.string b0, .string b1, .string b2, .int .i64 br, .int .i64 bu] 63 (0, 0)) := by
    rw [← hW2, ← hB]
    have := block_new (w.alloc (.cells #[.string a0, .string a1, .string a2, .int .i64 ar, .int .i64 au] 63)) (.cells #[.string b0, .string b1, .string b2, .int .i64 br, .int .i64 bu] 63)
    rw [World.size_alloc] at this
    exact this
  have HW := Lib.hid (And.intro p0 (And.intro p1 hg))
  clear p0 p1 hg
  go_enter Tryz.func64, Tryz.ntmps64
  go_upto_region 1 with fail
  clear hW2 hB
  have x0 : W2.cell? ⟨B, 0, none⟩ = some (.string a0) := cell_of HW.out.1 rfl
  have x1 : W2.cell? ⟨B, 1, none⟩ = some (.string a1) := cell_of HW.out.1 rfl
  have x2 : W2.cell? ⟨B, 2, none⟩ = some (.string a2) := cell_of HW.out.1 rfl
  have y0 : W2.cell? ⟨B + 1, 0, none⟩ = some (.string b0) := cell_of HW.out.2.1 rfl
  have y1 : W2.cell? ⟨B + 1, 1, none⟩ = some (.string b1) := cell_of HW.out.2.1 rfl
  have y2 : W2.cell? ⟨B + 1, 2, none⟩ = some (.string b2) := cell_of HW.out.2.1 rfl
  go_wp2_with fail
  clear x0 x1 x2 y0 y1 y2
  ((with_reducible refine (HC.out _).mono ?_); rintro e w1 ⟨rfl, hg⟩)
  have m1 : Mod (fun _ => False) W2 w1 := Mod.of_below hg.below _
  have c0 := cell_of (i := 3) (m1.old HW.out.1 id) rfl
  have c1 := cell_of (i := 3) (m1.old HW.out.2.1 id) rfl
  have HG := Lib.hid (HW.out.2.2.trans hg)
  clear hg m1
  by_cases hn : n = 0
  · subst hn
    have hd : -1125899906842624 ≤ ar - br ∧ ar - br ≤ 1125899906842624 := by omega
    have hw : wrap64 (ar - br) = ar - br := by unfold wrap64; omega
    go_wp2
    go_ret
    exact ⟨by simp, HG.out⟩
  · have hn' : (n == 0) = false := by simp [hn]
    go_wp2
    go_ret
    exact ⟨by simp [hn], HG.out⟩
theorem aggRow : ∀ w, (isAgg 63).run Tryz.prog w = .ok true w := fun w => by kernel_rfl
theorem sizeRow : ∀ w, (Go.sizeOf 63).run Tryz.prog w = .ok 5 w := fun w => by kernel_rfl
theorem sort_rows {w : World} {v : Value} {l : List RowT} (h : OwnS rowC 5 w 63 v l) (hl : l.length < 4611686018427387904) (hb : ∀ r ∈ l, 0 ≤ r.2.1 ∧ r.2.1 ≤ maxRev) :
    Calls Tryz.prog 63 #[v, .func (.func 64) #[] #[]] w fun e w' =>
      e = .returned (.tuple #[]) ∧ ∃ l' : List RowT, l'.Perm l ∧ l'.Pairwise (fun x y => ¬ rlt y x) ∧ OwnS rowC 5 w' 63 v l' ∧ Mod (fun x => some x = v.ownBlock) w w' := by
  rcases h.form with ⟨rfl, rfl⟩ | ⟨g, cap, rfl, hc1, hc2⟩
  · refine (AnyF.slices_SortFunc_none Tryz.laysSortRow none 0 _ w).mono ?_
    rintro e w' ⟨he, rfl⟩
    exact ⟨he, [], .refl _, List.Pairwise.nil, h, Mod.refl _ _⟩
  · obtain ⟨m, hm⟩ : ∃ m : List RB, m.map Subtype.val = l := ⟨l.attachWith _ hb, List.attachWith_map_subtype_val hb⟩
    have hml : m.length = l.length := by rw [← hm, List.length_map]
    have hf : ∀ x : RB, ((fun x : RB => rowC x.1) x).length = 5 := fun x => rowC_len' x.1
    have hone : ∀ x : RB, ∀ u ∈ (fun x : RB => rowC x.1) x, u.oneCell' = true := fun x => rowC_ones x.1
    have tr : ∀ (W : World) (m : List RB) (l : List RowT) (v : Value), m.map Subtype.val = l → (OwnS (fun x : RB => rowC x.1) 5 W 63 v m ↔ OwnS rowC 5 W 63 v l) := fun W m l v e => by
      subst e
      unfold OwnS
      rw [List.length_map, List.flatMap_map]
    have h' := (tr w m l _ hm).2 h
    rw [← hml] at h' hl ⊢
    have eg : ∀ args w, (callFunc 64 args).run Tryz.prog w = .ok (.enter 64 args) w := enters_of Tryz.func64 (by kernel_rfl) rfl
    have hcon := AnyQ.slices_SortFunc Tryz.laysSortRow 5 aggRow sizeRow (fun x : RB => rowC x.1) hf hone (fun a b : RB => rcm a.1 b.1) rbSwo 64 #[] g 0 cap m.toArray w eg (fun _ _ _ _ x y => rowcmp_any x y _) (h'.holds hf) h'.lt (by simpa using hl)
    refine hcon.mono ?_
    rintro e w' ⟨he, d', n, os, hp, hs, rfl⟩
    have hperm := hp.2.2
    have hlen : d'.toList.length = m.length := by have := hp.1; simpa using this
    have e1 : (d'.extract 0 m.toArray.size).toList = d'.toList := by
      have := hp.1
      simp only [List.size_toArray] at this ⊢
      rw [← this]
      simp
    have e2 : (m.toArray.extract 0 m.toArray.size).toList = m := by simp
    rw [e1, e2] at hperm
    have hso := h'.sorted hf (l' := d'.toList) hlen n os
    rw [Array.toArray_toList] at hso
    refine ⟨he, d'.toList.map Subtype.val, by rw [← hm]; exact hperm.map _, ?_, (tr _ _ _ _ rfl).1 hso.1, hso.2.mono (fun x _ hx => by rw [show x = g from hx]; rfl)⟩
    rw [List.pairwise_map]
    refine List.pairwise_iff_getElem.2 (fun i j hi hj hij => ?_)
    have hsz : d'.size = m.toArray.size := hp.1
    have h1 := hs i j (Nat.zero_le _) hij (by rw [← hsz, ← Array.length_toList]; exact hj)
    intro hlt
    rw [getElem!_pos d' i (by rw [← Array.length_toList]; exact hi), getElem!_pos d' j (by rw [← Array.length_toList]; exact hj)] at h1
    unfold ltOf at h1
    have h2 := of_decide_eq_false h1
    exact h2 (rcm_neg.2 (by simpa using hlt))
end Go.Proofs.YtojjnfhgldjgbaaGreatDoor.Store
end
