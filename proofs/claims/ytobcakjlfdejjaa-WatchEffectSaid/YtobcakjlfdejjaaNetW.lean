/- slices.Index and slices.Contains at tuples; slices.SortFunc at mutations. -/
import Derived.Test.YtobcakjlfdejjaaPlayX
set_option linter.unusedVariables false
set_option linter.unusedSimpArgs false
namespace Go.Proofs.Ytobcakjlfdejjaa.Watch
open Go.RowKit Go.Por Go.Sort

/-- Is it among them? -/
def tin (x : Tup) (l : List Tup) : Bool := l.any (fun y => decide (x = y))
theorem tin_iff {x : Tup} {l : List Tup} : tin x l = true ↔ x ∈ l := by
  unfold tin
  rw [List.any_eq_true]
  constructor
  · rintro ⟨y, hy, e⟩
    rw [of_decide_eq_true e]; exact hy
  · intro h
    exact ⟨x, h, decide_eq_true rfl⟩
theorem tin_no {x : Tup} {l : List Tup} (h : x ∉ l) : tin x l = false := by
  cases hh : tin x l with
  | false => rfl
  | true => exact absurd (tin_iff.1 hh) h
set_option maxRecDepth 100000 in
set_option maxHeartbeats 1600000 in
theorem index_any {w : World} {v : Value} {l : List Tup} (x : Tup) (h : ReadS tupC 3 w v l) :
    Calls Try.prog 54 #[v, .agg (tupC x).toArray] w fun e w' => (∃ r : Int, e = .returned (.int .i64 r) ∧ (decide (0 ≤ r) = tin x l)) ∧ Below w.heap.size w w' := by
  obtain ⟨ao, cap, rfl, hl⟩ := h.form
  obtain ⟨n, hn⟩ : ∃ n, l.length = n := ⟨_, rfl⟩
  obtain ⟨X, hX⟩ : ∃ X, w.heap.size = X := ⟨_, rfl⟩
  rw [hn] at h hl ⊢
  have HH := Lib.hid (And.intro h hn)
  clear h
  obtain ⟨x0, x1, x2⟩ := x
  unfold tupC
  go_enter Try.func54, Try.ntmps54
  go_wp2
  have hXb := block_new w (.cells #[.string x0, .string x1, .string x2] 37)
  rw [hX] at hXb
  have hb1 := (Below.refl X w).alloc (by omega) (.cells #[.string x0, .string x1, .string x2] 37)
  have hs1 : X < (w.alloc (.cells #[.string x0, .string x1, .string x2] 37)).heap.size := by simp; omega
  generalize hW1 : w.alloc (.cells #[.string x0, .string x1, .string x2] 37) = W1 at *
  have HW := Lib.hid (And.intro hXb (And.intro hb1 hs1))
  clear hXb hb1 hs1 hW1
  go_loopg [8] n (fun gg vi wx => ∃ t : Nat, t + gg = n ∧ vi = .int .i64 (t : Int) ∧ (x0, x1, x2) ∉ l.take t ∧ Mod (fun _ => False) W1 wx)
  case atStart => exact ⟨0, by omega, rfl, by simp, Mod.refl _ _⟩
  case round =>
    obtain ⟨t, htg, rfl, hno, hmod⟩ := hrel
    have HI := Lib.hid (And.intro htg (And.intro hno hmod))
    by_cases hc : t < n
    · obtain ⟨g1, g2⟩ := HH.out
      have hci : (t : Int) < (n : Int) := by omega
      have ht0 : (0 : Int) ≤ (t : Int) := by omega
      have htb : (t : Int) < 9223372036854775807 := by omega
      have k6 : IntKind.i64.wrap (t : Int) = (t : Int) := by simp [IntKind.wrap, IntKind.bits, IntKind.signed]; omega
      obtain ⟨y, hy⟩ : ∃ y, l[t]? = some y := ⟨_, List.getElem?_eq_getElem (by omega)⟩
      obtain ⟨b, o, rfl, r1, lt1⟩ := g1.lt (by decide) tupC_len hy
      have hbW : b < X := by omega
      have r2 : wr.drew.rangeAt b (o + t * 3) (tupC y) := range_below (range_below r1 HW.out.2.1 hbW) (hmod.drew.to_below (B := W1.heap.size) (Nat.le_refl _) (fun _ h => h.elim)) (by have := HW.out.2.2; omega)
      have rX : wr.drew.rangeAt X 0 (tupC (x0, x1, x2)) := fun j u hu => cell_of (hmod.drew.old HW.out.1 (fun h => h)) (by simpa [tupC] using hu)
      obtain ⟨cy, hcy⟩ : ∃ cy, tupC y = cy := ⟨_, rfl⟩
      obtain ⟨cx, hcx⟩ : ∃ cx, tupC (x0, x1, x2) = cx := ⟨_, rfl⟩
      have hy3 : cy.length = 3 := by rw [← hcy]; rfl
      have hx3 : cx.length = 3 := by rw [← hcx]; rfl
      obtain ⟨bb, hbb⟩ : ∃ bb, decide ((x0, x1, x2) = y) = bb := ⟨_, rfl⟩
      have hq : ∀ w, (Op.equal 37 (.agg cx.toArray) (.agg cy.toArray)).run Try.prog w = .ok bb w := fun w => by
        rw [← hcx, ← hcy, ← hbb]
        exact eqTup (x0, x1, x2) y w
      rw [hcy] at r2
      rw [hcx] at rX
      have hbl : b < wr.drew.heap.size := by have := hmod.size; have := HW.out.2.2; show b < wr.heap.size; omega
      have hXl : X < wr.drew.heap.size := by have := hmod.size; have := HW.out.2.2; show X < wr.heap.size; omega
      have HQ := Lib.hid hq
      have HX := Lib.hid (And.intro hx3 (And.intro hy3 (And.intro rX (And.intro hXl (And.intro r2 (And.intro hbl hbb))))))
      have HE := Lib.hid (And.intro hy hc)
      clear g1 g2 hy r1 r2 rX lt1 hcy hcx hx3 hy3 hbb hq htg hno hmod hc hbW hbl hXl
      go_wp2_with fail
      refine wp_region_held_drew (S := fun w' => Gr wr.drew w') (by kernel_rfl) (Gr.refl _) (fun hS => ?_)
      refine takeD (i := 0) rfl (by kernel_rfl) (by kernel_rfl) (by kernel_rfl) (fun _ _ _ h => h) hS (yieldsIf_load_mid (by rfl) 37 (.tmp 3) rfl X 0 rfl cx _ (fun w hSw => range_below HX.out.2.2.1 hSw.below HX.out.2.2.2.1) Try.underlying37 rfl (by rw [HX.out.1]; exact infoTup0)) ?_
      simp only [Act.put, List.setIfInBounds_toArray, List.set_cons_zero, List.set_cons_succ]
      refine takeD (i := 1) rfl (by kernel_rfl) (by kernel_rfl) (by kernel_rfl) (fun _ _ _ h => h) hS (Or.inl ⟨by rfl, fun w hSw => by go_simp; rfl⟩) ?_
      simp only [Act.put, List.setIfInBounds_toArray, List.set_cons_zero, List.set_cons_succ]
      refine takeD (i := 2) rfl (by kernel_rfl) (by kernel_rfl) (by kernel_rfl) (fun _ _ _ h => h) hS (Or.inl ⟨by rfl, fun w hSw => by go_simp; rfl⟩) ?_
      simp only [Act.put, List.setIfInBounds_toArray, List.set_cons_zero, List.set_cons_succ]
      refine takeD (i := 3) rfl (by kernel_rfl) (by kernel_rfl) (by kernel_rfl) (fun _ _ _ h => h) hS (Or.inl ⟨by rfl, fun w hSw => by go_simp; rfl⟩) ?_
      simp only [Act.put, List.setIfInBounds_toArray, List.set_cons_zero, List.set_cons_succ]
      refine takeD (i := 4) rfl (by kernel_rfl) (by kernel_rfl) (by kernel_rfl) (fun _ _ _ h => h) hS (yieldsIf_load_mid (by rfl) 37 (.tmp 14) rfl b (o + t * 3) rfl cy _ (fun w hSw => range_below HX.out.2.2.2.2.1 hSw.below HX.out.2.2.2.2.2.1) Try.underlying37 rfl (by rw [HX.out.2.1]; exact infoTup0)) ?_
      simp only [Act.put, List.setIfInBounds_toArray, List.set_cons_zero, List.set_cons_succ]
      refine takeD (i := 5) rfl (by kernel_rfl) (by kernel_rfl) (by kernel_rfl) (fun _ _ _ h => h) hS (yields_eqS (by rfl) 37 (.tmp 11) (.tmp 15) _ rfl cx.toArray cy.toArray rfl rfl (by kernel_rfl) bb HQ.out) ?_
      simp only [Act.put, List.setIfInBounds_toArray, List.set_cons_zero, List.set_cons_succ]
      refine wpAnyH_done (by kernel_rfl) ?_ _
      clear hS
      cases bb with
      | false =>
        go_wp2
        go_roundg (gk - 1)
        case measure => have h1 := HI.out; have h2 := HE.out; omega
        case rel =>
          obtain ⟨i1, i2, i3⟩ := HI.out
          obtain ⟨e1, e2⟩ := HE.out
          have hxy := of_decide_eq_false HX.out.2.2.2.2.2.2
          exact ⟨t + 1, by omega, by go_num, by rw [List.take_add_one, e1]; intro h; rcases List.mem_append.1 h with h | h; exact i2 h; exact hxy (List.mem_singleton.1 h), i3.drew⟩
      | true =>
        go_wp2
        go_ret
        obtain ⟨i1, i2, i3⟩ := HI.out
        obtain ⟨e1, e2⟩ := HE.out
        have hxy := of_decide_eq_true HX.out.2.2.2.2.2.2
        refine ⟨⟨(t : Int), rfl, ?_⟩, by (try rw [hX]); exact HW.out.2.1.trans (i3.drew.to_below (by have := HW.out.2.2; omega) (fun _ h => h.elim))⟩
        rw [decide_eq_true (by omega), tin_iff.2 (by rw [hxy]; exact List.mem_of_getElem? e1)]
    · have hci : ¬ (t : Int) < (n : Int) := by omega
      have HE := Lib.hid hc
      clear htg hno hmod hc
      go_wp2
      go_ret
      obtain ⟨i1, i2, i3⟩ := HI.out
      obtain ⟨g1, g2⟩ := HH.out
      have hcc := HE.out
      rw [List.take_of_length_le (by omega)] at i2
      refine ⟨⟨-1, rfl, ?_⟩, by (try rw [hX]); exact HW.out.2.1.trans (i3.to_below (by have := HW.out.2.2; omega) (fun _ h => h.elim))⟩
      rw [decide_eq_false (by omega), tin_no i2]

set_option maxRecDepth 100000 in
set_option maxHeartbeats 1600000 in
theorem contains_any {w : World} {v : Value} {l : List Tup} (x : Tup) (h : ReadS tupC 3 w v l) :
    Calls Try.prog 41 #[v, .agg (tupC x).toArray] w fun e w' => e = .returned (.bool (tin x l)) ∧ Below w.heap.size w w' := by
  obtain ⟨ao, cap, rfl, hl⟩ := h.form
  obtain ⟨n, hn⟩ : ∃ n, l.length = n := ⟨_, rfl⟩
  rw [hn] at h ⊢
  obtain ⟨x0, x1, x2⟩ := x
  have hcall : ∀ W : World, ReadS tupC 3 W (.slice ao n cap) l → Calls Try.prog 54 #[.slice ao n cap, .agg #[.string x0, .string x1, .string x2]] W fun e w' => (∃ r : Int, e = .returned (.int .i64 r) ∧ (decide (0 ≤ r) = tin (x0, x1, x2) l)) ∧ Below W.heap.size W w' := fun W hW => index_any (x0, x1, x2) hW
  have hr1 := h.mod (S := fun _ => False) (by decide) tupC_len ((Mod.refl _ w).alloc (.cells #[.string x0, .string x1, .string x2] 37)) (fun _ _ h => h)
  obtain ⟨bb, hbb⟩ : ∃ bb, tin (x0, x1, x2) l = bb := ⟨_, rfl⟩
  rw [hbb] at hcall ⊢
  have HH := Lib.hid (And.intro hcall hr1)
  clear h hcall hr1 hbb
  unfold tupC
  go_enter Try.func41, Try.ntmps41
  go_wp2_with fail
  refine (HH.out.1 _ HH.out.2).mono ?_
  rintro e w2 ⟨⟨r, rfl, hr⟩, hb2⟩
  have HB := Lib.hid (And.intro hb2 hr)
  clear hb2 hr
  go_wp2
  go_ret
  obtain ⟨h1, h2⟩ := HB.out
  refine ⟨?_, ((Below.refl _ w).alloc (Nat.le_refl _) _).trans (h1.mono (by simp))⟩
  rw [← h2]
  rfl

theorem aggMut : ∀ w, (isAgg 41).run Try.prog w = .ok true w := fun w => by kernel_rfl
theorem sizeMut : ∀ w, (Go.sizeOf 41).run Try.prog w = .ok 4 w := fun w => by kernel_rfl
theorem sort_mut {w : World} {v : Value} {l : List Mut} (h : OwnS mutC 4 w 41 v l) (hl : l.length < 4611686018427387904) :
    Calls Try.prog 42 #[v, .func (.func 43) #[] #[]] w fun e w' =>
      e = .returned (.tuple #[]) ∧ ∃ l' : List Mut, l'.Perm l ∧ Stab.Sorted (ltOf mcmp) l' ∧ OwnS mutC 4 w' 41 v l' ∧ Mod (fun x => some x = v.ownBlock) w w' := by
  rcases h.form with ⟨rfl, rfl⟩ | ⟨g, cap, rfl, hc1, hc2⟩
  · refine (AnyF.slices_SortFunc_none Try.laysSortMut none 0 _ w).mono ?_
    rintro e w' ⟨he, rfl⟩
    exact ⟨he, [], .refl _, List.Pairwise.nil, h, Mod.refl _ _⟩
  · have eg : ∀ args w, (callFunc 43 args).run Try.prog w = .ok (.enter 43 args) w := enters_of Try.func43 (by kernel_rfl) rfl
    have hcon := AnyQ.slices_SortFunc Try.laysSortMut 4 aggMut sizeMut mutC mutC_len oneMut mcmp mutSwo 43 #[] g 0 cap l.toArray w eg (fun _ _ _ _ x y => net_order x y _) (h.holds mutC_len) h.lt (by simpa using hl)
    refine hcon.mono ?_
    rintro e w' ⟨he, d', n, os, hp, hs, rfl⟩
    have hperm := hp.2.2
    have hlen : d'.toList.length = l.length := by have := hp.1; simpa using this
    have e1 : (d'.extract 0 l.toArray.size).toList = d'.toList := by
      have := hp.1
      simp only [List.size_toArray] at this ⊢
      rw [← this]
      simp
    have e2 : (l.toArray.extract 0 l.toArray.size).toList = l := by simp
    rw [e1, e2] at hperm
    have := h.sorted mutC_len (l' := d'.toList) hlen n os
    rw [Array.toArray_toList] at this
    refine ⟨he, d'.toList, hperm, ?_, this.1, this.2.mono (fun x _ hx => by rw [show x = g from hx]; rfl)⟩
    refine List.pairwise_iff_getElem.2 (fun i j hi hj hij => ?_)
    have hsz : d'.size = l.toArray.size := hp.1
    have h1 := hs i j (Nat.zero_le _) hij (by rw [← hsz, ← Array.length_toList]; exact hj)
    rw [getElem!_pos d' i (by rw [← Array.length_toList]; exact hi), getElem!_pos d' j (by rw [← Array.length_toList]; exact hj)] at h1
    simpa using h1
end Go.Proofs.Ytobcakjlfdejjaa.Watch
