/- The law WatchDoes of the watch, where what came in is of bulk at most 1048576: raw changes done to raw tuples, the rows : part 19 of 38: what it leans on. -/
import Derived.Test.YtobcakjlfdejjaaDoA
import Derived.Test.YtobcakjlfdejjaaDoB
import Derived.Test.YtobcakjlfdejjaaDoC
import Derived.Test.YtobcakjlfdejjaaDoD
import Derived.Test.YtobcakjlfdejjaaDoE
import Derived.Test.YtobcakjlfdejjaaDoF
import Derived.Test.YtobcakjlfdejjaaDoG
import Derived.Test.YtobcakjlfdejjaaDoH
import Derived.Test.YtobcakjlfdejjaaDoI
import Derived.Test.YtobcakjlfdejjaaDoJ
import Derived.Test.YtobcakjlfdejjaaDoK
import Derived.Test.YtobcakjlfdejjaaDoL
import Derived.Test.YtobcakjlfdejjaaDoM
import Derived.Test.YtobcakjlfdejjaaDoN
import Derived.Test.YtobcakjlfdejjaaDoO
import Derived.Test.YtobcakjlfdejjaaDoP
import Derived.Test.YtobcakjlfdejjaaDoQ
import Derived.Test.YtobcakjlfdejjaaDoR
section
set_option linter.unusedVariables false
set_option linter.unusedSimpArgs false
namespace Go.Proofs.Ytobcakjlfdejjaa.Watch
open Go.RowKit Go.Por Go.Sort

theorem oneMut (x : Mut) : ∀ u ∈ mutC x, u.oneCell' = true := by
  intro v hv
  simp only [mutC, List.mem_cons, List.not_mem_nil, or_false] at hv
  rcases hv with rfl | rfl | rfl | rfl <;> rfl
theorem allOneMut (x : Mut) : (mutC x).toArray.all (·.oneCell') = true := by simp [mutC, Value.oneCell']
theorem infoMut0 : (Try.prog.info? 41).map (·.size) = some 4 := by kernel_rfl
theorem zeroMut (w : World) : (zeroValue 41).run Try.prog w = .ok (.agg #[.bool false, .string ByteArray.empty, .string ByteArray.empty, .string ByteArray.empty]) w := by
  have h1 : Try.t41.zero = some (.agg #[.bool false, .string ByteArray.empty, .string ByteArray.empty, .string ByteArray.empty]) := by kernel_rfl
  simp [zeroValue, h1]
theorem zoneMut (r : Nat) : ∀ u ∈ (Builtin.zeroCells (.agg #[.bool false, .string ByteArray.empty, .string ByteArray.empty, .string ByteArray.empty] : Value).cells r).toList, u.oneCell' = true :=
  zeroCells_one _ (by decide) (by intro u hu; simp [Value.cells] at hu; rcases hu with rfl | rfl | rfl | rfl <;> rfl) r

set_option maxRecDepth 100000 in
set_option maxHeartbeats 3200000 in
theorem compactMut {w : World} {g cap n : Nat} {l : List Mut} (h : OwnS mutC 4 w 41 (.slice (some ⟨g, 0, none⟩) n cap) l) :
    Calls Try.prog 44 #[.slice (some ⟨g, 0, none⟩) n cap] w fun e w' =>
      e = .returned (.slice (some ⟨g, 0, none⟩) (compactL l).length cap) ∧ OwnS mutC 4 w' 41 (.slice (some ⟨g, 0, none⟩) (compactL l).length cap) (compactL l) ∧ Mod (fun x => x = g) w w' := by
  have hn : n = l.length := by obtain ⟨cur, _, _, _, e, _⟩ := h.block; exact e
  have hcap : n ≤ cap ∧ cap ≤ 9223372036854775807 := by obtain ⟨cur, _, _, _, e, h4, h5⟩ := h.block; unfold maxLen at h5; omega
  have HH := Lib.hid (And.intro h (And.intro hn hcap))
  have hni : (n : Int) ≤ 9223372036854775807 := by omega
  clear h hn hcap
  go_enter Try.func44, Try.ntmps44
  by_cases h2 : n < 2
  · have h2i : (n : Int) < 2 := by omega
    have HC := Lib.hid h2
    clear h2
    go_wp2
    go_ret
    obtain ⟨h, hn, _⟩ := HH.out
    have e : compactL l = l := compactL_short l (by have := HC.out; omega)
    rw [e, ← hn]
    exact ⟨rfl, h, Mod.refl _ _⟩
  · have h2i : ¬ (n : Int) < 2 := by omega
    have HC := Lib.hid h2
    clear h2
    go_wp2
    go_loopg [3] (n - 1) (fun gg vk wx => ∃ k : Nat, k + gg = n ∧ vk = .int .i64 (k : Int) ∧ 1 ≤ k ∧ compactL (l.take k) = l.take k ∧ Mod (fun _ => False) w wx)
    case atStart => exact ⟨1, by have := HC.out; omega, rfl, Nat.le_refl _, compactL_short _ (by rw [List.length_take]; omega), Mod.refl _ _⟩
    case round =>
      obtain ⟨k, hkg, rfl, hk1, hcl, hmod⟩ := hrel
      have HI := Lib.hid (And.intro hkg (And.intro hk1 (And.intro hcl hmod)))
      by_cases hc : k < n
      · have hci : (k : Int) < (n : Int) := by omega
        obtain ⟨j, hj⟩ : ∃ j, k - 1 = j := ⟨_, rfl⟩
        have hji : (k : Int) - 1 = (j : Int) := by omega
        have hj0 : (0 : Int) ≤ (j : Int) := by omega
        have hjn : (j : Int) < (n : Int) := by omega
        have hk0 : (0 : Int) ≤ (k : Int) := by omega
        have hkb : (k : Int) < 9223372036854775807 := by omega
        have k6 : IntKind.i64.wrap (k : Int) = (k : Int) := by simp [IntKind.wrap, IntKind.bits, IntKind.signed]; omega
        have k7 : IntKind.i64.wrap (j : Int) = (j : Int) := by simp [IntKind.wrap, IntKind.bits, IntKind.signed]; omega
        obtain ⟨h, hn, hcap⟩ := HH.out
        obtain ⟨x, hx⟩ : ∃ x, l[k]? = some x := ⟨_, List.getElem?_eq_getElem (by omega)⟩
        obtain ⟨y, hy⟩ : ∃ y, l[j]? = some y := ⟨_, List.getElem?_eq_getElem (by omega)⟩
        have hD : OwnS mutC 4 wr.drew 41 (.slice (some ⟨g, 0, none⟩) n cap) l := OwnS.mod h hmod.drew (fun _ _ h => h)
        have hrx0 := OwnS.range mutC_len hD hx
        have hry0 := OwnS.range mutC_len hD hy
        have hglt : g < wr.drew.heap.size := hD.lt
        obtain ⟨cx, hcx⟩ : ∃ cx, mutC x = cx := ⟨_, rfl⟩
        obtain ⟨cy, hcy⟩ : ∃ cy, mutC y = cy := ⟨_, rfl⟩
        have hx5 : cx.length = 4 := by rw [← hcx]; rfl
        have hy5 : cy.length = 4 := by rw [← hcy]; rfl
        have hx1 : cx.toArray.all (·.oneCell') = true := by rw [← hcx]; exact allOneMut x
        obtain ⟨bb, hbb⟩ : ∃ bb, decide (x = y) = bb := ⟨_, rfl⟩
        have hq : ∀ w, (Op.equal 41 (.agg cx.toArray) (.agg cy.toArray)).run Try.prog w = .ok bb w := fun w => by
          rw [← hcx, ← hcy, ← hbb]
          exact eqMut x y w
        have hrx : wr.drew.rangeAt g (k * 4) cx := by rw [← hcx]; exact hrx0
        have hry : wr.drew.rangeAt g (j * 4) cy := by rw [← hcy]; exact hry0
        have HQ := Lib.hid hq
        have HX := Lib.hid (And.intro hcx (And.intro hcy (And.intro hx5 (And.intro hy5 (And.intro hx1 (And.intro hrx (And.intro hry hglt)))))))
        have HBB := Lib.hid hbb
        clear hcx hcy hx5 hy5 hx1 hq hrx hry hrx0 hry0 hbb hglt
        have HE := Lib.hid (And.intro hx (And.intro hy (And.intro hj hc)))
        clear h hn hcap hD hkg hk1 hcl hmod hx hy hj hc
        go_wp2_with fail
        refine wp_region_held_drew (S := fun w' => Gr wr.drew w') (by kernel_rfl) (Gr.refl _) (fun hS => ?_)
        refine takeD (i := 0) rfl (by kernel_rfl) (by kernel_rfl) (by kernel_rfl) (fun _ _ _ h => h) hS (Or.inl ⟨by rfl, fun w hSw => by go_simp; rfl⟩) ?_
        simp only [Act.put, List.setIfInBounds_toArray, List.set_cons_zero, List.set_cons_succ]
        refine takeD (i := 1) rfl (by kernel_rfl) (by kernel_rfl) (by kernel_rfl) (fun _ _ _ h => h) hS (Or.inl ⟨by rfl, fun w hSw => by go_simp; rfl⟩) ?_
        simp only [Act.put, List.setIfInBounds_toArray, List.set_cons_zero, List.set_cons_succ]
        refine takeD (i := 2) rfl (by kernel_rfl) (by kernel_rfl) (by kernel_rfl) (fun _ _ _ h => h) hS (Or.inl ⟨by rfl, fun w hSw => by go_simp; rfl⟩) ?_
        simp only [Act.put, List.setIfInBounds_toArray, List.set_cons_zero, List.set_cons_succ]
        refine takeD (i := 3) rfl (by kernel_rfl) (by kernel_rfl) (by kernel_rfl) (fun _ _ _ h => h) hS (yieldsIf_load_mid (by rfl) 41 (.tmp 18) rfl g (k * 4) rfl cx _ (fun w hSw => by exact range_below HX.out.2.2.2.2.2.1 hSw.below (by exact HX.out.2.2.2.2.2.2.2)) Try.underlying41 rfl (by rw [HX.out.2.2.1]; exact infoMut0)) ?_
        simp only [Act.put, List.setIfInBounds_toArray, List.set_cons_zero, List.set_cons_succ]
        refine takeD (i := 4) rfl (by kernel_rfl) (by kernel_rfl) (by kernel_rfl) (fun _ _ _ h => h) hS (Or.inl ⟨by rfl, fun w hSw => by go_simp; rfl⟩) ?_
        simp only [Act.put, List.setIfInBounds_toArray, List.set_cons_zero, List.set_cons_succ]
        refine takeD (i := 5) rfl (by kernel_rfl) (by kernel_rfl) (by kernel_rfl) (fun _ _ _ h => h) hS (Or.inl ⟨by rfl, fun w hSw => by go_simp; rfl⟩) ?_
        simp only [Act.put, List.setIfInBounds_toArray, List.set_cons_zero, List.set_cons_succ]
        refine takeD (i := 6) rfl (by kernel_rfl) (by kernel_rfl) (by kernel_rfl) (fun _ _ _ h => h) hS (Or.inl ⟨by rfl, fun w hSw => by go_simp; rfl⟩) ?_
        simp only [Act.put, List.setIfInBounds_toArray, List.set_cons_zero, List.set_cons_succ]
        refine takeD (i := 7) rfl (by kernel_rfl) (by kernel_rfl) (by kernel_rfl) (fun _ _ _ h => h) hS (Or.inl ⟨by rfl, fun w hSw => by go_simp; rfl⟩) ?_
        simp only [Act.put, List.setIfInBounds_toArray, List.set_cons_zero, List.set_cons_succ]
        refine takeD (i := 8) rfl (by kernel_rfl) (by kernel_rfl) (by kernel_rfl) (fun _ _ _ h => h) hS (yieldsIf_load_mid (by rfl) 41 (.tmp 23) rfl g (j * 4) rfl cy _ (fun w hSw => by exact range_below HX.out.2.2.2.2.2.2.1 hSw.below (by exact HX.out.2.2.2.2.2.2.2)) Try.underlying41 rfl (by rw [HX.out.2.2.2.1]; exact infoMut0)) ?_
        simp only [Act.put, List.setIfInBounds_toArray, List.set_cons_zero, List.set_cons_succ]
        refine takeD (i := 9) rfl (by kernel_rfl) (by kernel_rfl) (by kernel_rfl) (fun _ _ _ h => h) hS (yields_eqS (by rfl) 41 (.tmp 19) (.tmp 24) _ rfl cx.toArray cy.toArray rfl rfl (by kernel_rfl) bb HQ.out) ?_
        simp only [Act.put, List.setIfInBounds_toArray, List.set_cons_zero, List.set_cons_succ]
        refine wpAnyH_done (by kernel_rfl) ?_ _
        have HS := Lib.hid hS
        clear hS
        cases bb with
        | false =>
          go_wp2
          go_roundg (gk - 1)
          case measure => have h1 := HI.out; have h2 := HE.out; omega
          case rel =>
            obtain ⟨i1, i2, i3, i4⟩ := HI.out
            obtain ⟨e1, e2, e3, e4⟩ := HE.out
            have hne : ¬ x = y := of_decide_eq_false HBB.out
            refine ⟨k + 1, by omega, by go_num, by omega, ?_, (i4.drew).trans' HS.out.mod⟩
            rw [compactL_succ e1 (y := y) (by rw [e3]; exact e2) i2, i3, if_neg (fun e => hne e.symm), List.take_add_one, e1]
            rfl
        | true =>
          have hkcap : ¬ cap = k := by have := HH.out; have := HE.out; omega
          have hkn2 : (k : Int) ≤ (n : Int) := by omega
          go_wp2_with fail
          obtain ⟨nk, hnk⟩ : ∃ nk, n - k = nk := ⟨_, rfl⟩
          rw [hnk]
          have HNK := Lib.hid hnk
          clear hnk
          go_loopg [3, 5] (nk - 1) (fun gg vm vq wx => ∃ (q m : Nat) (D : List Mut), vq = .int .i64 (q : Int) ∧ vm = .int .i64 (m : Int) ∧ 1 ≤ q ∧ k + q + gg = n ∧ m + 1 ≤ k + q ∧ (compactL (l.take (k + q))).length = m ∧ D.length = n ∧ D.take m = compactL (l.take (k + q)) ∧ (∀ p, k + q ≤ p + 1 → D[p]? = l[p]?) ∧ OwnS mutC 4 wx 41 (.slice (some ⟨g, 0, none⟩) n cap) D ∧ Mod (fun x => x = g) w wx)
          case atStart =>
            obtain ⟨i1, i2, i3, i4⟩ := HI.out
            obtain ⟨e1, e2, e3, e4⟩ := HE.out
            obtain ⟨h, hn, _⟩ := HH.out
            have hxy : x = y := of_decide_eq_true HBB.out
            have e5 : compactL (l.take (k + 1)) = l.take k := by
              rw [compactL_succ e1 (y := y) (by rw [e3]; exact e2) i2, i3, if_pos hxy.symm, List.append_nil]
            have e6 : (l.take k).length = k := by rw [List.length_take]; omega
            exact ⟨1, k, l, rfl, rfl, Nat.le_refl _, by have := HNK.out; omega, by omega, by rw [e5, e6], hn.symm, by rw [e5], fun _ _ => rfl, OwnS.mod h i4.drew (fun _ _ h => h), i4.drew.mono (fun _ _ h => h.elim)⟩
          case round =>
            have hkk := HI.out.2.1
            clear HI HQ HX HBB hkn2 hji hj0 hjn HS k6 k7
            obtain ⟨q, m, D, rfl, rfl, hq1, hqg, hmq, hml, hDn, hDm, hDp, hown, hmod⟩ := hrel
            have HI := Lib.hid (And.intro hq1 (And.intro hqg (And.intro hmq (And.intro hml (And.intro hDn (And.intro hDm (And.intro hDp (And.intro hown hmod))))))))
            have hnk := HNK.out
            have hee := HE.out.2.2.2
            have hcc := HH.out
            have hnki : (nk : Int) ≤ 9223372036854775807 := by omega
            by_cases hc : q < nk
            · have hci : (q : Int) < (nk : Int) := by omega
              obtain ⟨i, hi⟩ : ∃ i, k + q = i := ⟨_, rfl⟩
              obtain ⟨r, hr⟩ : ∃ r, q - 1 = r := ⟨_, rfl⟩
              have hri : (q : Int) - 1 = (r : Int) := by omega
              have hr0 : (0 : Int) ≤ (r : Int) := by omega
              have hrn : (r : Int) < (nk : Int) := by omega
              have hq0 : (0 : Int) ≤ (q : Int) := by omega
              have hqb : (q : Int) < 9223372036854775807 := by omega
              have hm0 : (0 : Int) ≤ (m : Int) := by omega
              have hmn : (m : Int) < (n : Int) := by omega
              have hmb : (m : Int) < 9223372036854775807 := by omega
              have k6 : IntKind.i64.wrap (q : Int) = (q : Int) := by simp [IntKind.wrap, IntKind.bits, IntKind.signed]; omega
              have k7 : IntKind.i64.wrap (r : Int) = (r : Int) := by simp [IntKind.wrap, IntKind.bits, IntKind.signed]; omega
              have k8 : IntKind.i64.wrap (m : Int) = (m : Int) := by simp [IntKind.wrap, IntKind.bits, IntKind.signed]; omega
              obtain ⟨x, hx⟩ : ∃ x, D[i]? = some x := ⟨_, List.getElem?_eq_getElem (by omega)⟩
              obtain ⟨y, hy⟩ : ∃ y, D[i - 1]? = some y := ⟨_, List.getElem?_eq_getElem (by omega)⟩
              have hD : OwnS mutC 4 wr.drew 41 (.slice (some ⟨g, 0, none⟩) n cap) D := OwnS.mod (S := fun _ => False) hown ((Mod.refl _ wr).drew) (fun _ _ h => h)
              have hrx0 := OwnS.range mutC_len hD hx
              have hry0 := OwnS.range mutC_len hD hy
              have hglt : g < wr.drew.heap.size := hD.lt
              have a1 : i * 4 = k * 4 + q * 4 := by rw [← hi, Nat.add_mul]
              have a2 : (i - 1) * 4 = k * 4 + r * 4 := by rw [← Nat.add_mul]; congr 1; omega
              rw [a1] at hrx0
              rw [a2] at hry0
              have lx : l[i]? = some x := by rw [← hDp i (by omega)]; exact hx
              have ly : l[i - 1]? = some y := by rw [← hDp (i - 1) (by omega)]; exact hy
              obtain ⟨cx, hcx⟩ : ∃ cx, mutC x = cx := ⟨_, rfl⟩
              obtain ⟨cy, hcy⟩ : ∃ cy, mutC y = cy := ⟨_, rfl⟩
              have hx5 : cx.length = 4 := by rw [← hcx]; rfl
              have hy5 : cy.length = 4 := by rw [← hcy]; rfl
              have hx1 : cx.toArray.all (·.oneCell') = true := by rw [← hcx]; exact allOneMut x
              obtain ⟨bb, hbb⟩ : ∃ bb, decide (x = y) = bb := ⟨_, rfl⟩
              have hq : ∀ w, (Op.equal 41 (.agg cx.toArray) (.agg cy.toArray)).run Try.prog w = .ok bb w := fun w => by
                rw [← hcx, ← hcy, ← hbb]
                exact eqMut x y w
              have hrx : wr.drew.rangeAt g (k * 4 + q * 4) cx := by rw [← hcx]; exact hrx0
              have hry : wr.drew.rangeAt g (k * 4 + r * 4) cy := by rw [← hcy]; exact hry0
              have HQ := Lib.hid hq
              have HX := Lib.hid (And.intro hcx (And.intro hcy (And.intro hx5 (And.intro hy5 (And.intro hx1 (And.intro hrx (And.intro hry hglt)))))))
              have HBB := Lib.hid hbb
              clear hcx hcy hx5 hy5 hx1 hq hrx hry hrx0 hry0 hbb hglt
              have HF := Lib.hid (And.intro hx (And.intro hy (And.intro hi (And.intro hr (And.intro hc (And.intro hnk (And.intro lx ly)))))))
              have HD := Lib.hid (And.intro hD hmod.drew)
              clear hD hq1 hqg hmq hml hDn hDm hDp hown hmod hx hy hi hr hc hnk hee hcc a1 a2 lx ly hkk
              go_wp2_with fail
              refine wp_region_held_drew (S := fun w' => Gr wr.drew w') (by kernel_rfl) (Gr.refl _) (fun hS => ?_)
              refine takeD (i := 0) rfl (by kernel_rfl) (by kernel_rfl) (by kernel_rfl) (fun _ _ _ h => h) hS (Or.inl ⟨by rfl, fun w hSw => by go_simp; rfl⟩) ?_
              simp only [Act.put, List.setIfInBounds_toArray, List.set_cons_zero, List.set_cons_succ]
              refine takeD (i := 1) rfl (by kernel_rfl) (by kernel_rfl) (by kernel_rfl) (fun _ _ _ h => h) hS (Or.inl ⟨by rfl, fun w hSw => by go_simp; rfl⟩) ?_
              simp only [Act.put, List.setIfInBounds_toArray, List.set_cons_zero, List.set_cons_succ]
              refine takeD (i := 2) rfl (by kernel_rfl) (by kernel_rfl) (by kernel_rfl) (fun _ _ _ h => h) hS (Or.inl ⟨by rfl, fun w hSw => by go_simp; rfl⟩) ?_
              simp only [Act.put, List.setIfInBounds_toArray, List.set_cons_zero, List.set_cons_succ]
              refine takeD (i := 3) rfl (by kernel_rfl) (by kernel_rfl) (by kernel_rfl) (fun _ _ _ h => h) hS (yieldsIf_load_mid (by rfl) 41 (.tmp 37) rfl g (k * 4 + q * 4) rfl cx _ (fun w hSw => by exact range_below HX.out.2.2.2.2.2.1 hSw.below (by exact HX.out.2.2.2.2.2.2.2)) Try.underlying41 rfl (by rw [HX.out.2.2.1]; exact infoMut0)) ?_
              simp only [Act.put, List.setIfInBounds_toArray, List.set_cons_zero, List.set_cons_succ]
              refine takeD (i := 4) rfl (by kernel_rfl) (by kernel_rfl) (by kernel_rfl) (fun _ _ _ h => h) hS (Or.inl ⟨by rfl, fun w hSw => by go_simp; rfl⟩) ?_
              simp only [Act.put, List.setIfInBounds_toArray, List.set_cons_zero, List.set_cons_succ]
              refine takeD (i := 5) rfl (by kernel_rfl) (by kernel_rfl) (by kernel_rfl) (fun _ _ _ h => h) hS (Or.inl ⟨by rfl, fun w hSw => by go_simp; rfl⟩) ?_
              simp only [Act.put, List.setIfInBounds_toArray, List.set_cons_zero, List.set_cons_succ]
              refine takeD (i := 6) rfl (by kernel_rfl) (by kernel_rfl) (by kernel_rfl) (fun _ _ _ h => h) hS (Or.inl ⟨by rfl, fun w hSw => by go_simp; rfl⟩) ?_
              simp only [Act.put, List.setIfInBounds_toArray, List.set_cons_zero, List.set_cons_succ]
              refine takeD (i := 7) rfl (by kernel_rfl) (by kernel_rfl) (by kernel_rfl) (fun _ _ _ h => h) hS (Or.inl ⟨by rfl, fun w hSw => by go_simp; rfl⟩) ?_
              simp only [Act.put, List.setIfInBounds_toArray, List.set_cons_zero, List.set_cons_succ]
              refine takeD (i := 8) rfl (by kernel_rfl) (by kernel_rfl) (by kernel_rfl) (fun _ _ _ h => h) hS (yieldsIf_load_mid (by rfl) 41 (.tmp 42) rfl g (k * 4 + r * 4) rfl cy _ (fun w hSw => by exact range_below HX.out.2.2.2.2.2.2.1 hSw.below (by exact HX.out.2.2.2.2.2.2.2)) Try.underlying41 rfl (by rw [HX.out.2.2.2.1]; exact infoMut0)) ?_
              simp only [Act.put, List.setIfInBounds_toArray, List.set_cons_zero, List.set_cons_succ]
              refine takeD (i := 9) rfl (by kernel_rfl) (by kernel_rfl) (by kernel_rfl) (fun _ _ _ h => h) hS (yields_neS (by rfl) 41 (.tmp 38) (.tmp 43) _ rfl cx.toArray cy.toArray rfl rfl (by kernel_rfl) bb HQ.out) ?_
              simp only [Act.put, List.setIfInBounds_toArray, List.set_cons_zero, List.set_cons_succ]
              refine wpAnyH_done (by kernel_rfl) ?_ _
              clear hS
              cases bb with
              | true =>
                simp only [Bool.not_true]
                go_wp2
                go_roundg (gk - 1)
                case measure => have h1 := HI.out; have h2 := HF.out; omega
                case rel =>
                  obtain ⟨i1, i2, i3, i4, i5, i6, i7, i8, i9⟩ := HI.out
                  obtain ⟨f1, f2, f3, f4, f5, f6, f7, f8⟩ := HF.out
                  have hxy : x = y := of_decide_eq_true HBB.out
                  have e5 : compactL (l.take (k + (q + 1))) = compactL (l.take (k + q)) := by
                    rw [← Nat.add_assoc, f3, compactL_succ f7 f8 (by omega), if_pos hxy.symm, List.append_nil]
                  exact ⟨q + 1, m, D, by go_num, rfl, by omega, by omega, by omega, by rw [e5]; exact i4, i5, by rw [e5]; exact i6, fun p hp => i7 p (by omega), HD.out.1, HD.out.2⟩
              | false =>
                simp only [Bool.not_false]
                go_wp2_with (first
                  | (refine wpList_load_mid rfl 41 (.tmp 49) rfl g (k * 4 + q * 4) rfl cx _ HX.out.2.2.2.2.2.1 Try.underlying41 rfl (by rw [HX.out.2.2.1]; exact infoMut0) ?_)
                  | (refine wpList_store_mid rfl 41 (.tmp 51) (.tmp 50) rfl g (m * 4) cx.toArray rfl rfl (by rw [List.size_toArray, HX.out.2.2.1]; exact OwnS.there HD.out.1 (by have h1 := HI.out; have h2 := HF.out; omega)) (by rw [List.size_toArray, HX.out.2.2.1]; exact infoMut0) HX.out.2.2.2.2.1 ?_))
                go_roundg (gk - 1)
                case measure => have h1 := HI.out; have h2 := HF.out; omega
                case rel =>
                  obtain ⟨i1, i2, i3, i4, i5, i6, i7, i8, i9⟩ := HI.out
                  obtain ⟨f1, f2, f3, f4, f5, f6, f7, f8⟩ := HF.out
                  have hxy : ¬ x = y := of_decide_eq_false HBB.out
                  have e5 : compactL (l.take (k + (q + 1))) = compactL (l.take (k + q)) ++ [x] := by
                    rw [← Nat.add_assoc, f3, compactL_succ f7 f8 (by omega), if_neg (fun e => hxy e.symm)]
                  have hs := OwnS.store mutC_len HD.out.1 (i := m) (by omega) x
                  rw [HX.out.1] at hs
                  refine ⟨q + 1, m + 1, D.set m x, by go_num, by go_num, by omega, by omega, by omega, by rw [e5, List.length_append, i4]; rfl, by rw [List.length_set]; exact i5, ?_, fun p hp => ?_, hs, HD.out.2.trans' (Mod.setCells (S := fun x => x = g) (.inl rfl) cx (m * 4) (Mod.refl _ _))⟩
                  · rw [e5, ← i6, List.take_add_one, List.getElem?_set_self (by omega), List.take_set_of_le (Nat.le_refl _)]
                    rfl
                  · rw [List.getElem?_set_ne (by omega)]
                    exact i7 p (by omega)
            · have hci : ¬ (q : Int) < (nk : Int) := by omega
              obtain ⟨r, hr⟩ : ∃ r, n - m = r := ⟨_, rfl⟩
              have hmn : (m : Int) ≤ (n : Int) := by omega
              have hm0 : (0 : Int) ≤ (m : Int) := by omega
              have hmc : ¬ cap = m := by omega
              have hmcap : m ≤ cap := by omega
              have hmi : (m : Int) < 9223372036854775807 := by omega
              obtain ⟨w2, hr2, hown2, hm2⟩ := OwnS.wipeN (P := Try.prog) (t := 54) (ty := 0) mutC_len Try.underlying54 (zeroMut wr) rfl zoneMut hown (k := m) (r := r) (by omega) (by omega) (cap - m)
              have e5 : l.take (k + q) = l := List.take_of_length_le (by omega)
              rw [e5] at hml hDm
              rw [hDm] at hown2
              have HF := Lib.hid (And.intro hown2 (And.intro (hmod.trans' hm2) hml))
              clear hq1 hqg hmq hml hDn hDm hDp hown hmod hc hnk hee hcc hkk e5 hm2 HI
              go_wp2
              go_ret
              obtain ⟨f1, f2, f3⟩ := HF.out
              rw [f3]
              exact ⟨rfl, f1, f2⟩
      · have hci : ¬ (k : Int) < (n : Int) := by omega
        have HE := Lib.hid hc
        clear hkg hk1 hcl hmod hc
        go_wp2
        go_ret
        obtain ⟨h, hn, _⟩ := HH.out
        obtain ⟨i1, i2, i3, i4⟩ := HI.out
        have e : l.take k = l := List.take_of_length_le (by have := HE.out; omega)
        rw [e] at i3
        rw [i3, ← hn]
        exact ⟨rfl, OwnS.mod h i4 (fun _ _ h => h), i4.mono (fun _ _ h => h.elim)⟩
theorem compactAnyMut {w : World} {v : Value} {l : List Mut} (h : OwnS mutC 4 w 41 v l) :
    Calls Try.prog 44 #[v] w fun e w' => ∃ v', e = .returned v' ∧ OwnS mutC 4 w' 41 v' (compactL l) ∧ v'.ownBlock = v.ownBlock ∧ Mod (fun x => some x = v.ownBlock) w w' := by
  rcases h.form with ⟨rfl, rfl⟩ | ⟨g, cap, rfl, _, _⟩
  · have HH := Lib.hid h
    clear h
    go_enter Try.func44, Try.ntmps44
    go_wp2
    go_ret
    exact ⟨_, rfl, HH.out, rfl, Mod.refl _ _⟩
  · refine (compactMut h).mono ?_
    rintro e w' ⟨he, h1, h2⟩
    exact ⟨_, he, h1, rfl, h2.mono (fun x _ hx => by rw [show x = g from hx]; rfl)⟩
end Go.Proofs.Ytobcakjlfdejjaa.Watch
end
section
set_option linter.unusedVariables false
set_option linter.unusedSimpArgs false
namespace Go.Proofs.Ytobcakjlfdejjaa.Watch
open Go.RowKit Go.Por Go.Sort Go.Por.StEq

theorem infoRow0 : (Try.prog.info? 39).map (·.size) = some 5 := by kernel_rfl
theorem part_tupR (x : Tup) (a b : Int) (w : World) : (part 37 (rowC (x, a, b)).toArray 0).run Try.prog w = .ok (.agg (tupC x).toArray) w := by
  unfold rowC tupC
  go_simp
theorem eqRowIn (d : Nat) (w : World) (x y : RowT) : (Op.equalIn (d + 3) 39 (.agg (rowC x).toArray) (.agg (rowC y).toArray)).run Try.prog w = .ok (decide (x = y)) w := by
  obtain ⟨x0, x1, x2⟩ := x
  obtain ⟨y0, y1, y2⟩ := y
  have h : (Op.equalIn (d + 3) 39 (.agg (rowC (x0, x1, x2)).toArray) (.agg (rowC (y0, y1, y2)).toArray)).run Try.prog w = .ok (decide (x0 = y0) && (x1 == y1 && x2 == y2)) w := by
    refine eqA_of Try.underlying39 (by kernel_rfl) ?_
    refine eqf_cons (by rfl) (part_tupR x0 x1 x2 w) (part_tupR y0 y1 y2 w) (eqTupIn d w x0 y0) ?_
    refine eqf_cons (a := .int .i64 x1) (b := .int .i64 y1) (by rfl) (by unfold rowC; go_simp) (by unfold rowC; go_simp) (by go_simp) ?_
    exact eqf_last (a := .int .i64 x2) (b := .int .i64 y2) (by rfl) (by unfold rowC; go_simp) (by unfold rowC; go_simp) (by go_simp)
  have e : (decide (x0 = y0) && (x1 == y1 && x2 == y2)) = decide ((x0, x1, x2) = (y0, y1, y2)) := by
    rw [Bool.eq_iff_iff]
    simp
  rw [h, e]
theorem eqRow (x y : RowT) (w : World) : (Op.equal 39 (.agg (rowC x).toArray) (.agg (rowC y).toArray)).run Try.prog w = .ok (decide (x = y)) w := eqRowIn 9997 w x y

set_option maxRecDepth 100000 in
set_option maxHeartbeats 1600000 in
theorem tuples_any {w : World} {v1 v2 : Value} {l1 l2 : List Tup} (h1 : ReadS tupC 3 w v1 l1) (h2 : ReadS tupC 3 w v2 l2) :
    Calls Try.prog 12 #[v1, v2] w fun e w' => e = .returned (.bool (decide (l1 = l2))) ∧ Mod (fun _ => False) w w' := by
  obtain ⟨ao1, cap1, rfl, hl1⟩ := h1.form
  obtain ⟨ao2, cap2, rfl, hl2⟩ := h2.form
  obtain ⟨n1, hn1⟩ : ∃ n, l1.length = n := ⟨_, rfl⟩
  obtain ⟨n2, hn2⟩ : ∃ n, l2.length = n := ⟨_, rfl⟩
  rw [hn1] at h1 hl1 ⊢
  rw [hn2] at h2 hl2 ⊢
  have HH := Lib.hid (And.intro h1 (And.intro h2 (And.intro hl1 (And.intro hn1 hn2))))
  clear h1 h2 hl2
  go_enter Try.func12, Try.ntmps12
  by_cases hne : n1 = n2
  · subst hne
    clear hn2 hn1
    go_wp2
    go_loopg [13] n1 (fun gg vi wx => ∃ t : Nat, t + gg = n1 ∧ vi = .int .i64 (t : Int) ∧ l1.take t = l2.take t ∧ Mod (fun _ => False) w wx)
    case atStart => exact ⟨0, by omega, rfl, rfl, Mod.refl _ _⟩
    case round =>
      obtain ⟨t, htg, rfl, heq, hmod⟩ := hrel
      have HI := Lib.hid (And.intro htg (And.intro heq hmod))
      by_cases hc : t < n1
      · obtain ⟨g1, g2, g3, g4, g5⟩ := HH.out
        have hci : (t : Int) < (n1 : Int) := by omega
        have ht0 : (0 : Int) ≤ (t : Int) := by omega
        have htb : (t : Int) < 9223372036854775807 := by omega
        have k6 : IntKind.i64.wrap (t : Int) = (t : Int) := by simp [IntKind.wrap, IntKind.bits, IntKind.signed]; omega
        obtain ⟨x, hx⟩ : ∃ x, l1[t]? = some x := ⟨_, List.getElem?_eq_getElem (by omega)⟩
        obtain ⟨y, hy⟩ : ∃ y, l2[t]? = some y := ⟨_, List.getElem?_eq_getElem (by omega)⟩
        have d1 := (g1.mod (S := fun _ => False) (by decide) tupC_len hmod.drew (fun _ _ h => h))
        have d2 := (g2.mod (S := fun _ => False) (by decide) tupC_len hmod.drew (fun _ _ h => h))
        obtain ⟨b1, o1, rfl, r1, lt1⟩ := d1.lt (by decide) tupC_len hx
        obtain ⟨b2, o2, rfl, r2, lt2⟩ := d2.lt (by decide) tupC_len hy
        obtain ⟨cx, hcx⟩ : ∃ cx, tupC x = cx := ⟨_, rfl⟩
        obtain ⟨cy, hcy⟩ : ∃ cy, tupC y = cy := ⟨_, rfl⟩
        have hx5 : cx.length = 3 := by rw [← hcx]; rfl
        have hy5 : cy.length = 3 := by rw [← hcy]; rfl
        obtain ⟨bb, hbb⟩ : ∃ bb, decide (x = y) = bb := ⟨_, rfl⟩
        have hq : ∀ w, (Op.equal 37 (.agg cx.toArray) (.agg cy.toArray)).run Try.prog w = .ok bb w := fun w => by
          rw [← hcx, ← hcy, ← hbb]
          exact eqTup x y w
        rw [hcx] at r1
        rw [hcy] at r2
        have HQ := Lib.hid hq
        have HX := Lib.hid (And.intro hx5 (And.intro hy5 (And.intro r1 (And.intro lt1 (And.intro r2 (And.intro lt2 hbb))))))
        have HE := Lib.hid (And.intro hx (And.intro hy hc))
        clear g1 g2 g3 g4 g5 hx hy d1 d2 r1 lt1 r2 lt2 hcx hcy hx5 hy5 hbb hq htg heq hmod hc
        go_wp2_with fail
        refine wp_region_held_drew (S := fun w' => Gr wr.drew w') (by kernel_rfl) (Gr.refl _) (fun hS => ?_)
        refine takeD (i := 0) rfl (by kernel_rfl) (by kernel_rfl) (by kernel_rfl) (fun _ _ _ h => h) hS (Or.inl ⟨by rfl, fun w hSw => by go_simp; rfl⟩) ?_
        simp only [Act.put, List.setIfInBounds_toArray, List.set_cons_zero, List.set_cons_succ]
        refine takeD (i := 1) rfl (by kernel_rfl) (by kernel_rfl) (by kernel_rfl) (fun _ _ _ h => h) hS (Or.inl ⟨by rfl, fun w hSw => by go_simp; rfl⟩) ?_
        simp only [Act.put, List.setIfInBounds_toArray, List.set_cons_zero, List.set_cons_succ]
        refine takeD (i := 2) rfl (by kernel_rfl) (by kernel_rfl) (by kernel_rfl) (fun _ _ _ h => h) hS (Or.inl ⟨by rfl, fun w hSw => by go_simp; rfl⟩) ?_
        simp only [Act.put, List.setIfInBounds_toArray, List.set_cons_zero, List.set_cons_succ]
        refine takeD (i := 3) rfl (by kernel_rfl) (by kernel_rfl) (by kernel_rfl) (fun _ _ _ h => h) hS (yieldsIf_load_mid (by rfl) 37 (.tmp 18) rfl b1 (o1 + t * 3) rfl cx _ (fun w hSw => range_below HX.out.2.2.1 hSw.below HX.out.2.2.2.1) Try.underlying37 rfl (by rw [HX.out.1]; exact infoTup0)) ?_
        simp only [Act.put, List.setIfInBounds_toArray, List.set_cons_zero, List.set_cons_succ]
        refine takeD (i := 4) rfl (by kernel_rfl) (by kernel_rfl) (by kernel_rfl) (fun _ _ _ h => h) hS (Or.inl ⟨by rfl, fun w hSw => by go_simp; rfl⟩) ?_
        simp only [Act.put, List.setIfInBounds_toArray, List.set_cons_zero, List.set_cons_succ]
        refine takeD (i := 5) rfl (by kernel_rfl) (by kernel_rfl) (by kernel_rfl) (fun _ _ _ h => h) hS (Or.inl ⟨by rfl, fun w hSw => by go_simp; rfl⟩) ?_
        simp only [Act.put, List.setIfInBounds_toArray, List.set_cons_zero, List.set_cons_succ]
        refine takeD (i := 6) rfl (by kernel_rfl) (by kernel_rfl) (by kernel_rfl) (fun _ _ _ h => h) hS (Or.inl ⟨by rfl, fun w hSw => by go_simp; rfl⟩) ?_
        simp only [Act.put, List.setIfInBounds_toArray, List.set_cons_zero, List.set_cons_succ]
        refine takeD (i := 7) rfl (by kernel_rfl) (by kernel_rfl) (by kernel_rfl) (fun _ _ _ h => h) hS (yieldsIf_load_mid (by rfl) 37 (.tmp 22) rfl b2 (o2 + t * 3) rfl cy _ (fun w hSw => range_below HX.out.2.2.2.2.1 hSw.below HX.out.2.2.2.2.2.1) Try.underlying37 rfl (by rw [HX.out.2.1]; exact infoTup0)) ?_
        simp only [Act.put, List.setIfInBounds_toArray, List.set_cons_zero, List.set_cons_succ]
        refine takeD (i := 8) rfl (by kernel_rfl) (by kernel_rfl) (by kernel_rfl) (fun _ _ _ h => h) hS (yields_neS (by rfl) 37 (.tmp 19) (.tmp 23) _ rfl cx.toArray cy.toArray rfl rfl (by kernel_rfl) bb HQ.out) ?_
        simp only [Act.put, List.setIfInBounds_toArray, List.set_cons_zero, List.set_cons_succ]
        refine wpAnyH_done (by kernel_rfl) ?_ _
        clear hS
        cases bb with
        | true =>
          simp only [Bool.not_true]
          go_wp2
          go_roundg (gk - 1)
          case measure => have h1 := HI.out; have h2 := HE.out; omega
          case rel =>
            obtain ⟨i1, i2, i3⟩ := HI.out
            obtain ⟨e1, e2, e3⟩ := HE.out
            have hxy : x = y := of_decide_eq_true HX.out.2.2.2.2.2.2
            exact ⟨t + 1, by omega, by go_num, by rw [List.take_add_one, List.take_add_one, i2, e1, e2, hxy], i3.drew⟩
        | false =>
          simp only [Bool.not_false]
          go_wp2
          go_ret
          obtain ⟨e1, e2, e3⟩ := HE.out
          have hxy : ¬ x = y := of_decide_eq_false HX.out.2.2.2.2.2.2
          refine ⟨?_, HI.out.2.2.drew⟩
          rw [decide_eq_false (fun e => hxy (by rw [e] at e1; rw [e1] at e2; exact Option.some.inj e2))]
          rfl
      · have hci : ¬ (t : Int) < (n1 : Int) := by omega
        have HE := Lib.hid hc
        clear htg heq hmod hc
        go_wp2
        go_ret
        obtain ⟨i1, i2, i3⟩ := HI.out
        obtain ⟨g1, g2, g3, g4, g5⟩ := HH.out
        have hcc := HE.out
        rw [List.take_of_length_le (by omega), List.take_of_length_le (by omega)] at i2
        refine ⟨?_, i3⟩
        rw [decide_eq_true i2]
        rfl
  · have q : ((n1 : Int) != (n2 : Int)) = true := by rw [bne_iff_ne]; omega
    have HE := Lib.hid hne
    clear hne hn1 hn2
    go_wp2
    go_ret
    obtain ⟨g1, g2, g3, g4, g5⟩ := HH.out
    refine ⟨?_, Mod.refl _ _⟩
    rw [decide_eq_false (fun e => HE.out (by rw [← g4, ← g5, e]))]
    rfl

set_option maxRecDepth 100000 in
set_option maxHeartbeats 1600000 in
theorem mutations_any {w : World} {v1 v2 : Value} {l1 l2 : List Mut} (h1 : ReadS mutC 4 w v1 l1) (h2 : ReadS mutC 4 w v2 l2) :
    Calls Try.prog 22 #[v1, v2] w fun e w' => e = .returned (.bool (decide (l1 = l2))) ∧ Mod (fun _ => False) w w' := by
  obtain ⟨ao1, cap1, rfl, hl1⟩ := h1.form
  obtain ⟨ao2, cap2, rfl, hl2⟩ := h2.form
  obtain ⟨n1, hn1⟩ : ∃ n, l1.length = n := ⟨_, rfl⟩
  obtain ⟨n2, hn2⟩ : ∃ n, l2.length = n := ⟨_, rfl⟩
  rw [hn1] at h1 hl1 ⊢
  rw [hn2] at h2 hl2 ⊢
  have HH := Lib.hid (And.intro h1 (And.intro h2 (And.intro hl1 (And.intro hn1 hn2))))
  clear h1 h2 hl2
  go_enter Try.func22, Try.ntmps22
  by_cases hne : n1 = n2
  · subst hne
    clear hn2 hn1
    go_wp2
    go_loopg [13] n1 (fun gg vi wx => ∃ t : Nat, t + gg = n1 ∧ vi = .int .i64 (t : Int) ∧ l1.take t = l2.take t ∧ Mod (fun _ => False) w wx)
    case atStart => exact ⟨0, by omega, rfl, rfl, Mod.refl _ _⟩
    case round =>
      obtain ⟨t, htg, rfl, heq, hmod⟩ := hrel
      have HI := Lib.hid (And.intro htg (And.intro heq hmod))
      by_cases hc : t < n1
      · obtain ⟨g1, g2, g3, g4, g5⟩ := HH.out
        have hci : (t : Int) < (n1 : Int) := by omega
        have ht0 : (0 : Int) ≤ (t : Int) := by omega
        have htb : (t : Int) < 9223372036854775807 := by omega
        have k6 : IntKind.i64.wrap (t : Int) = (t : Int) := by simp [IntKind.wrap, IntKind.bits, IntKind.signed]; omega
        obtain ⟨x, hx⟩ : ∃ x, l1[t]? = some x := ⟨_, List.getElem?_eq_getElem (by omega)⟩
        obtain ⟨y, hy⟩ : ∃ y, l2[t]? = some y := ⟨_, List.getElem?_eq_getElem (by omega)⟩
        have d1 := (g1.mod (S := fun _ => False) (by decide) mutC_len hmod.drew (fun _ _ h => h))
        have d2 := (g2.mod (S := fun _ => False) (by decide) mutC_len hmod.drew (fun _ _ h => h))
        obtain ⟨b1, o1, rfl, r1, lt1⟩ := d1.lt (by decide) mutC_len hx
        obtain ⟨b2, o2, rfl, r2, lt2⟩ := d2.lt (by decide) mutC_len hy
        obtain ⟨cx, hcx⟩ : ∃ cx, mutC x = cx := ⟨_, rfl⟩
        obtain ⟨cy, hcy⟩ : ∃ cy, mutC y = cy := ⟨_, rfl⟩
        have hx5 : cx.length = 4 := by rw [← hcx]; rfl
        have hy5 : cy.length = 4 := by rw [← hcy]; rfl
        obtain ⟨bb, hbb⟩ : ∃ bb, decide (x = y) = bb := ⟨_, rfl⟩
        have hq : ∀ w, (Op.equal 41 (.agg cx.toArray) (.agg cy.toArray)).run Try.prog w = .ok bb w := fun w => by
          rw [← hcx, ← hcy, ← hbb]
          exact eqMut x y w
        rw [hcx] at r1
        rw [hcy] at r2
        have HQ := Lib.hid hq
        have HX := Lib.hid (And.intro hx5 (And.intro hy5 (And.intro r1 (And.intro lt1 (And.intro r2 (And.intro lt2 hbb))))))
        have HE := Lib.hid (And.intro hx (And.intro hy hc))
        clear g1 g2 g3 g4 g5 hx hy d1 d2 r1 lt1 r2 lt2 hcx hcy hx5 hy5 hbb hq htg heq hmod hc
        go_wp2_with fail
        refine wp_region_held_drew (S := fun w' => Gr wr.drew w') (by kernel_rfl) (Gr.refl _) (fun hS => ?_)
        refine takeD (i := 0) rfl (by kernel_rfl) (by kernel_rfl) (by kernel_rfl) (fun _ _ _ h => h) hS (Or.inl ⟨by rfl, fun w hSw => by go_simp; rfl⟩) ?_
        simp only [Act.put, List.setIfInBounds_toArray, List.set_cons_zero, List.set_cons_succ]
        refine takeD (i := 1) rfl (by kernel_rfl) (by kernel_rfl) (by kernel_rfl) (fun _ _ _ h => h) hS (Or.inl ⟨by rfl, fun w hSw => by go_simp; rfl⟩) ?_
        simp only [Act.put, List.setIfInBounds_toArray, List.set_cons_zero, List.set_cons_succ]
        refine takeD (i := 2) rfl (by kernel_rfl) (by kernel_rfl) (by kernel_rfl) (fun _ _ _ h => h) hS (Or.inl ⟨by rfl, fun w hSw => by go_simp; rfl⟩) ?_
        simp only [Act.put, List.setIfInBounds_toArray, List.set_cons_zero, List.set_cons_succ]
        refine takeD (i := 3) rfl (by kernel_rfl) (by kernel_rfl) (by kernel_rfl) (fun _ _ _ h => h) hS (yieldsIf_load_mid (by rfl) 41 (.tmp 18) rfl b1 (o1 + t * 4) rfl cx _ (fun w hSw => range_below HX.out.2.2.1 hSw.below HX.out.2.2.2.1) Try.underlying41 rfl (by rw [HX.out.1]; exact infoMut0)) ?_
        simp only [Act.put, List.setIfInBounds_toArray, List.set_cons_zero, List.set_cons_succ]
        refine takeD (i := 4) rfl (by kernel_rfl) (by kernel_rfl) (by kernel_rfl) (fun _ _ _ h => h) hS (Or.inl ⟨by rfl, fun w hSw => by go_simp; rfl⟩) ?_
        simp only [Act.put, List.setIfInBounds_toArray, List.set_cons_zero, List.set_cons_succ]
        refine takeD (i := 5) rfl (by kernel_rfl) (by kernel_rfl) (by kernel_rfl) (fun _ _ _ h => h) hS (Or.inl ⟨by rfl, fun w hSw => by go_simp; rfl⟩) ?_
        simp only [Act.put, List.setIfInBounds_toArray, List.set_cons_zero, List.set_cons_succ]
        refine takeD (i := 6) rfl (by kernel_rfl) (by kernel_rfl) (by kernel_rfl) (fun _ _ _ h => h) hS (Or.inl ⟨by rfl, fun w hSw => by go_simp; rfl⟩) ?_
        simp only [Act.put, List.setIfInBounds_toArray, List.set_cons_zero, List.set_cons_succ]
        refine takeD (i := 7) rfl (by kernel_rfl) (by kernel_rfl) (by kernel_rfl) (fun _ _ _ h => h) hS (yieldsIf_load_mid (by rfl) 41 (.tmp 22) rfl b2 (o2 + t * 4) rfl cy _ (fun w hSw => range_below HX.out.2.2.2.2.1 hSw.below HX.out.2.2.2.2.2.1) Try.underlying41 rfl (by rw [HX.out.2.1]; exact infoMut0)) ?_
        simp only [Act.put, List.setIfInBounds_toArray, List.set_cons_zero, List.set_cons_succ]
        refine takeD (i := 8) rfl (by kernel_rfl) (by kernel_rfl) (by kernel_rfl) (fun _ _ _ h => h) hS (yields_neS (by rfl) 41 (.tmp 19) (.tmp 23) _ rfl cx.toArray cy.toArray rfl rfl (by kernel_rfl) bb HQ.out) ?_
        simp only [Act.put, List.setIfInBounds_toArray, List.set_cons_zero, List.set_cons_succ]
        refine wpAnyH_done (by kernel_rfl) ?_ _
        clear hS
        cases bb with
        | true =>
          simp only [Bool.not_true]
          go_wp2
          go_roundg (gk - 1)
          case measure => have h1 := HI.out; have h2 := HE.out; omega
          case rel =>
            obtain ⟨i1, i2, i3⟩ := HI.out
            obtain ⟨e1, e2, e3⟩ := HE.out
            have hxy : x = y := of_decide_eq_true HX.out.2.2.2.2.2.2
            exact ⟨t + 1, by omega, by go_num, by rw [List.take_add_one, List.take_add_one, i2, e1, e2, hxy], i3.drew⟩
        | false =>
          simp only [Bool.not_false]
          go_wp2
          go_ret
          obtain ⟨e1, e2, e3⟩ := HE.out
          have hxy : ¬ x = y := of_decide_eq_false HX.out.2.2.2.2.2.2
          refine ⟨?_, HI.out.2.2.drew⟩
          rw [decide_eq_false (fun e => hxy (by rw [e] at e1; rw [e1] at e2; exact Option.some.inj e2))]
          rfl
      · have hci : ¬ (t : Int) < (n1 : Int) := by omega
        have HE := Lib.hid hc
        clear htg heq hmod hc
        go_wp2
        go_ret
        obtain ⟨i1, i2, i3⟩ := HI.out
        obtain ⟨g1, g2, g3, g4, g5⟩ := HH.out
        have hcc := HE.out
        rw [List.take_of_length_le (by omega), List.take_of_length_le (by omega)] at i2
        refine ⟨?_, i3⟩
        rw [decide_eq_true i2]
        rfl
  · have q : ((n1 : Int) != (n2 : Int)) = true := by rw [bne_iff_ne]; omega
    have HE := Lib.hid hne
    clear hne hn1 hn2
    go_wp2
    go_ret
    obtain ⟨g1, g2, g3, g4, g5⟩ := HH.out
    refine ⟨?_, Mod.refl _ _⟩
    rw [decide_eq_false (fun e => HE.out (by rw [← g4, ← g5, e]))]
    rfl

set_option maxRecDepth 100000 in
set_option maxHeartbeats 1600000 in
theorem same07_any {w : World} {v1 v2 : Value} {l1 l2 : List RowT} (h1 : ReadS rowC 5 w v1 l1) (h2 : ReadS rowC 5 w v2 l2) :
    Calls Try.prog 18 #[v1, v2] w fun e w' => e = .returned (.bool (decide (l1 = l2))) ∧ Mod (fun _ => False) w w' := by
  obtain ⟨ao1, cap1, rfl, hl1⟩ := h1.form
  obtain ⟨ao2, cap2, rfl, hl2⟩ := h2.form
  obtain ⟨n1, hn1⟩ : ∃ n, l1.length = n := ⟨_, rfl⟩
  obtain ⟨n2, hn2⟩ : ∃ n, l2.length = n := ⟨_, rfl⟩
  rw [hn1] at h1 hl1 ⊢
  rw [hn2] at h2 hl2 ⊢
  have HH := Lib.hid (And.intro h1 (And.intro h2 (And.intro hl1 (And.intro hn1 hn2))))
  clear h1 h2 hl2
  go_enter Try.func18, Try.ntmps18
  by_cases hne : n1 = n2
  · subst hne
    clear hn2 hn1
    go_wp2
    go_loopg [5] n1 (fun gg vi wx => ∃ t : Nat, t + gg = n1 ∧ vi = .int .i64 (t : Int) ∧ l1.take t = l2.take t ∧ Mod (fun _ => False) w wx)
    case atStart => exact ⟨0, by omega, rfl, rfl, Mod.refl _ _⟩
    case round =>
      obtain ⟨t, htg, rfl, heq, hmod⟩ := hrel
      have HI := Lib.hid (And.intro htg (And.intro heq hmod))
      by_cases hc : t < n1
      · obtain ⟨g1, g2, g3, g4, g5⟩ := HH.out
        have hci : (t : Int) < (n1 : Int) := by omega
        have ht0 : (0 : Int) ≤ (t : Int) := by omega
        have htb : (t : Int) < 9223372036854775807 := by omega
        have k6 : IntKind.i64.wrap (t : Int) = (t : Int) := by simp [IntKind.wrap, IntKind.bits, IntKind.signed]; omega
        obtain ⟨x, hx⟩ : ∃ x, l1[t]? = some x := ⟨_, List.getElem?_eq_getElem (by omega)⟩
        obtain ⟨y, hy⟩ : ∃ y, l2[t]? = some y := ⟨_, List.getElem?_eq_getElem (by omega)⟩
        have d1 := (g1.mod (S := fun _ => False) (by decide) rowC_len hmod.drew (fun _ _ h => h))
        have d2 := (g2.mod (S := fun _ => False) (by decide) rowC_len hmod.drew (fun _ _ h => h))
        obtain ⟨b1, o1, rfl, r1, lt1⟩ := d1.lt (by decide) rowC_len hx
        obtain ⟨b2, o2, rfl, r2, lt2⟩ := d2.lt (by decide) rowC_len hy
        obtain ⟨cx, hcx⟩ : ∃ cx, rowC x = cx := ⟨_, rfl⟩
        obtain ⟨cy, hcy⟩ : ∃ cy, rowC y = cy := ⟨_, rfl⟩
        have hx5 : cx.length = 5 := by rw [← hcx]; rfl
        have hy5 : cy.length = 5 := by rw [← hcy]; rfl
        obtain ⟨bb, hbb⟩ : ∃ bb, decide (x = y) = bb := ⟨_, rfl⟩
        have hq : ∀ w, (Op.equal 39 (.agg cx.toArray) (.agg cy.toArray)).run Try.prog w = .ok bb w := fun w => by
          rw [← hcx, ← hcy, ← hbb]
          exact eqRow x y w
        rw [hcx] at r1
        rw [hcy] at r2
        have HQ := Lib.hid hq
        have HX := Lib.hid (And.intro hx5 (And.intro hy5 (And.intro r1 (And.intro lt1 (And.intro r2 (And.intro lt2 hbb))))))
        have HE := Lib.hid (And.intro hx (And.intro hy hc))
        clear g1 g2 g3 g4 g5 hx hy d1 d2 r1 lt1 r2 lt2 hcx hcy hx5 hy5 hbb hq htg heq hmod hc
        go_wp2_with fail
        refine wp_region_held_drew (S := fun w' => Gr wr.drew w') (by kernel_rfl) (Gr.refl _) (fun hS => ?_)
        refine takeD (i := 0) rfl (by kernel_rfl) (by kernel_rfl) (by kernel_rfl) (fun _ _ _ h => h) hS (Or.inl ⟨by rfl, fun w hSw => by go_simp; rfl⟩) ?_
        simp only [Act.put, List.setIfInBounds_toArray, List.set_cons_zero, List.set_cons_succ]
        refine takeD (i := 1) rfl (by kernel_rfl) (by kernel_rfl) (by kernel_rfl) (fun _ _ _ h => h) hS (Or.inl ⟨by rfl, fun w hSw => by go_simp; rfl⟩) ?_
        simp only [Act.put, List.setIfInBounds_toArray, List.set_cons_zero, List.set_cons_succ]
        refine takeD (i := 2) rfl (by kernel_rfl) (by kernel_rfl) (by kernel_rfl) (fun _ _ _ h => h) hS (Or.inl ⟨by rfl, fun w hSw => by go_simp; rfl⟩) ?_
        simp only [Act.put, List.setIfInBounds_toArray, List.set_cons_zero, List.set_cons_succ]
        refine takeD (i := 3) rfl (by kernel_rfl) (by kernel_rfl) (by kernel_rfl) (fun _ _ _ h => h) hS (yieldsIf_load_mid (by rfl) 39 (.tmp 19) rfl b1 (o1 + t * 5) rfl cx _ (fun w hSw => range_below HX.out.2.2.1 hSw.below HX.out.2.2.2.1) Try.underlying39 rfl (by rw [HX.out.1]; exact infoRow0)) ?_
        simp only [Act.put, List.setIfInBounds_toArray, List.set_cons_zero, List.set_cons_succ]
        refine takeD (i := 4) rfl (by kernel_rfl) (by kernel_rfl) (by kernel_rfl) (fun _ _ _ h => h) hS (Or.inl ⟨by rfl, fun w hSw => by go_simp; rfl⟩) ?_
        simp only [Act.put, List.setIfInBounds_toArray, List.set_cons_zero, List.set_cons_succ]
        refine takeD (i := 5) rfl (by kernel_rfl) (by kernel_rfl) (by kernel_rfl) (fun _ _ _ h => h) hS (Or.inl ⟨by rfl, fun w hSw => by go_simp; rfl⟩) ?_
        simp only [Act.put, List.setIfInBounds_toArray, List.set_cons_zero, List.set_cons_succ]
        refine takeD (i := 6) rfl (by kernel_rfl) (by kernel_rfl) (by kernel_rfl) (fun _ _ _ h => h) hS (Or.inl ⟨by rfl, fun w hSw => by go_simp; rfl⟩) ?_
        simp only [Act.put, List.setIfInBounds_toArray, List.set_cons_zero, List.set_cons_succ]
        refine takeD (i := 7) rfl (by kernel_rfl) (by kernel_rfl) (by kernel_rfl) (fun _ _ _ h => h) hS (yieldsIf_load_mid (by rfl) 39 (.tmp 23) rfl b2 (o2 + t * 5) rfl cy _ (fun w hSw => range_below HX.out.2.2.2.2.1 hSw.below HX.out.2.2.2.2.2.1) Try.underlying39 rfl (by rw [HX.out.2.1]; exact infoRow0)) ?_
        simp only [Act.put, List.setIfInBounds_toArray, List.set_cons_zero, List.set_cons_succ]
        refine takeD (i := 8) rfl (by kernel_rfl) (by kernel_rfl) (by kernel_rfl) (fun _ _ _ h => h) hS (yields_neS (by rfl) 39 (.tmp 20) (.tmp 24) _ rfl cx.toArray cy.toArray rfl rfl (by kernel_rfl) bb HQ.out) ?_
        simp only [Act.put, List.setIfInBounds_toArray, List.set_cons_zero, List.set_cons_succ]
        refine wpAnyH_done (by kernel_rfl) ?_ _
        clear hS
        cases bb with
        | true =>
          simp only [Bool.not_true]
          go_wp2
          go_roundg (gk - 1)
          case measure => have h1 := HI.out; have h2 := HE.out; omega
          case rel =>
            obtain ⟨i1, i2, i3⟩ := HI.out
            obtain ⟨e1, e2, e3⟩ := HE.out
            have hxy : x = y := of_decide_eq_true HX.out.2.2.2.2.2.2
            exact ⟨t + 1, by omega, by go_num, by rw [List.take_add_one, List.take_add_one, i2, e1, e2, hxy], i3.drew⟩
        | false =>
          simp only [Bool.not_false]
          go_wp2
          go_ret
          obtain ⟨e1, e2, e3⟩ := HE.out
          have hxy : ¬ x = y := of_decide_eq_false HX.out.2.2.2.2.2.2
          refine ⟨?_, HI.out.2.2.drew⟩
          rw [decide_eq_false (fun e => hxy (by rw [e] at e1; rw [e1] at e2; exact Option.some.inj e2))]
          rfl
      · have hci : ¬ (t : Int) < (n1 : Int) := by omega
        have HE := Lib.hid hc
        clear htg heq hmod hc
        go_wp2
        go_ret
        obtain ⟨i1, i2, i3⟩ := HI.out
        obtain ⟨g1, g2, g3, g4, g5⟩ := HH.out
        have hcc := HE.out
        rw [List.take_of_length_le (by omega), List.take_of_length_le (by omega)] at i2
        refine ⟨?_, i3⟩
        rw [decide_eq_true i2]
        rfl
  · have q : ((n1 : Int) != (n2 : Int)) = true := by rw [bne_iff_ne]; omega
    have HE := Lib.hid hne
    clear hne hn1 hn2
    go_wp2
    go_ret
    obtain ⟨g1, g2, g3, g4, g5⟩ := HH.out
    refine ⟨?_, Mod.refl _ _⟩
    rw [decide_eq_false (fun e => HE.out (by rw [← g4, ← g5, e]))]
    rfl
end Go.Proofs.Ytobcakjlfdejjaa.Watch
end
