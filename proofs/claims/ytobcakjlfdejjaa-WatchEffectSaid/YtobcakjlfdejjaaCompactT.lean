/- slices.Compact at tuples. -/
import Derived.Test.YtobcakjlfdejjaaWipe
set_option linter.unusedVariables false
set_option linter.unusedSimpArgs false
namespace Go.Proofs.Ytobcakjlfdejjaa.Watch
open Go.RowKit Go.Por Go.Sort

theorem oneTup (x : Tup) : ∀ u ∈ tupC x, u.oneCell' = true := by
  intro v hv
  simp only [tupC, List.mem_cons, List.not_mem_nil, or_false] at hv
  rcases hv with rfl | rfl | rfl <;> rfl
theorem allOneTup (x : Tup) : (tupC x).toArray.all (·.oneCell') = true := by simp [tupC, Value.oneCell']
theorem infoTup0 : (Try.prog.info? 37).map (·.size) = some 3 := by kernel_rfl
theorem zeroTup (w : World) : (zeroValue 37).run Try.prog w = .ok (.agg #[.string ByteArray.empty, .string ByteArray.empty, .string ByteArray.empty]) w := by
  have h1 : Try.t37.zero = some (.agg #[.string ByteArray.empty, .string ByteArray.empty, .string ByteArray.empty]) := by kernel_rfl
  simp [zeroValue, h1]
theorem zoneTup (r : Nat) : ∀ u ∈ (Builtin.zeroCells (.agg #[.string ByteArray.empty, .string ByteArray.empty, .string ByteArray.empty] : Value).cells r).toList, u.oneCell' = true :=
  zeroCells_one _ (by decide) (by intro u hu; simp [Value.cells] at hu; rcases hu with rfl | rfl | rfl <;> rfl) r

set_option maxRecDepth 100000 in
set_option maxHeartbeats 3200000 in
theorem compactTup {w : World} {g cap n : Nat} {l : List Tup} (h : OwnS tupC 3 w 37 (.slice (some ⟨g, 0, none⟩) n cap) l) :
    Calls Try.prog 32 #[.slice (some ⟨g, 0, none⟩) n cap] w fun e w' =>
      e = .returned (.slice (some ⟨g, 0, none⟩) (compactL l).length cap) ∧ OwnS tupC 3 w' 37 (.slice (some ⟨g, 0, none⟩) (compactL l).length cap) (compactL l) ∧ Mod (fun x => x = g) w w' := by
  have hn : n = l.length := by obtain ⟨cur, _, _, _, e, _⟩ := h.block; exact e
  have hcap : n ≤ cap ∧ cap ≤ 9223372036854775807 := by obtain ⟨cur, _, _, _, e, h4, h5⟩ := h.block; unfold maxLen at h5; omega
  have HH := Lib.hid (And.intro h (And.intro hn hcap))
  have hni : (n : Int) ≤ 9223372036854775807 := by omega
  clear h hn hcap
  go_enter Try.func32, Try.ntmps32
  by_cases h2 : n < 2
  · have h2i : (n : Int) < 2 := by omega
    have HC := Lib.hid h2
    clear h2
    go_wp2
    go_ret
    obtain ⟨h, hn, _⟩ := HH.out
    have e : compactL l = l := compactL_short l (by have := HC.out; omega)
    rw [e, ← hn]
    exact ⟨rfl, h, Mod.refl _ _⟩
  · have h2i : ¬ (n : Int) < 2 := by omega
    have HC := Lib.hid h2
    clear h2
    go_wp2
    go_loopg [3] (n - 1) (fun gg vk wx => ∃ k : Nat, k + gg = n ∧ vk = .int .i64 (k : Int) ∧ 1 ≤ k ∧ compactL (l.take k) = l.take k ∧ Mod (fun _ => False) w wx)
    case atStart => exact ⟨1, by have := HC.out; omega, rfl, Nat.le_refl _, compactL_short _ (by rw [List.length_take]; omega), Mod.refl _ _⟩
    case round =>
      obtain ⟨k, hkg, rfl, hk1, hcl, hmod⟩ := hrel
      have HI := Lib.hid (And.intro hkg (And.intro hk1 (And.intro hcl hmod)))
      by_cases hc : k < n
      · have hci : (k : Int) < (n : Int) := by omega
        obtain ⟨j, hj⟩ : ∃ j, k - 1 = j := ⟨_, rfl⟩
        have hji : (k : Int) - 1 = (j : Int) := by omega
        have hj0 : (0 : Int) ≤ (j : Int) := by omega
        have hjn : (j : Int) < (n : Int) := by omega
        have hk0 : (0 : Int) ≤ (k : Int) := by omega
        have hkb : (k : Int) < 9223372036854775807 := by omega
        have k6 : IntKind.i64.wrap (k : Int) = (k : Int) := by simp [IntKind.wrap, IntKind.bits, IntKind.signed]; omega
        have k7 : IntKind.i64.wrap (j : Int) = (j : Int) := by simp [IntKind.wrap, IntKind.bits, IntKind.signed]; omega
        obtain ⟨h, hn, hcap⟩ := HH.out
        obtain ⟨x, hx⟩ : ∃ x, l[k]? = some x := ⟨_, List.getElem?_eq_getElem (by omega)⟩
        obtain ⟨y, hy⟩ : ∃ y, l[j]? = some y := ⟨_, List.getElem?_eq_getElem (by omega)⟩
        have hD : OwnS tupC 3 wr.drew 37 (.slice (some ⟨g, 0, none⟩) n cap) l := OwnS.mod h hmod.drew (fun _ _ h => h)
        have hrx0 := OwnS.range tupC_len hD hx
        have hry0 := OwnS.range tupC_len hD hy
        have hglt : g < wr.drew.heap.size := hD.lt
        obtain ⟨cx, hcx⟩ : ∃ cx, tupC x = cx := ⟨_, rfl⟩
        obtain ⟨cy, hcy⟩ : ∃ cy, tupC y = cy := ⟨_, rfl⟩
        have hx5 : cx.length = 3 := by rw [← hcx]; rfl
        have hy5 : cy.length = 3 := by rw [← hcy]; rfl
        have hx1 : cx.toArray.all (·.oneCell') = true := by rw [← hcx]; exact allOneTup x
        obtain ⟨bb, hbb⟩ : ∃ bb, decide (x = y) = bb := ⟨_, rfl⟩
        have hq : ∀ w, (Op.equal 37 (.agg cx.toArray) (.agg cy.toArray)).run Try.prog w = .ok bb w := fun w => by
          rw [← hcx, ← hcy, ← hbb]
          exact eqTup x y w
        have hrx : wr.drew.rangeAt g (k * 3) cx := by rw [← hcx]; exact hrx0
        have hry : wr.drew.rangeAt g (j * 3) cy := by rw [← hcy]; exact hry0
        have HQ := Lib.hid hq
        have HX := Lib.hid (And.intro hcx (And.intro hcy (And.intro hx5 (And.intro hy5 (And.intro hx1 (And.intro hrx (And.intro hry hglt)))))))
        have HBB := Lib.hid hbb
        clear hcx hcy hx5 hy5 hx1 hq hrx hry hrx0 hry0 hbb hglt
        have HE := Lib.hid (And.intro hx (And.intro hy (And.intro hj hc)))
        clear h hn hcap hD hkg hk1 hcl hmod hx hy hj hc
        go_wp2_with fail
        refine wp_region_held_drew (S := fun w' => Gr wr.drew w') (by kernel_rfl) (Gr.refl _) (fun hS => ?_)
        refine takeD (i := 0) rfl (by kernel_rfl) (by kernel_rfl) (by kernel_rfl) (fun _ _ _ h => h) hS (Or.inl ⟨by rfl, fun w hSw => by go_simp; rfl⟩) ?_
        simp only [Act.put, List.setIfInBounds_toArray, List.set_cons_zero, List.set_cons_succ]
        refine takeD (i := 1) rfl (by kernel_rfl) (by kernel_rfl) (by kernel_rfl) (fun _ _ _ h => h) hS (Or.inl ⟨by rfl, fun w hSw => by go_simp; rfl⟩) ?_
        simp only [Act.put, List.setIfInBounds_toArray, List.set_cons_zero, List.set_cons_succ]
        refine takeD (i := 2) rfl (by kernel_rfl) (by kernel_rfl) (by kernel_rfl) (fun _ _ _ h => h) hS (Or.inl ⟨by rfl, fun w hSw => by go_simp; rfl⟩) ?_
        simp only [Act.put, List.setIfInBounds_toArray, List.set_cons_zero, List.set_cons_succ]
        refine takeD (i := 3) rfl (by kernel_rfl) (by kernel_rfl) (by kernel_rfl) (fun _ _ _ h => h) hS (yieldsIf_load_mid (by rfl) 37 (.tmp 18) rfl g (k * 3) rfl cx _ (fun w hSw => by exact range_below HX.out.2.2.2.2.2.1 hSw.below (by exact HX.out.2.2.2.2.2.2.2)) Try.underlying37 rfl (by rw [HX.out.2.2.1]; exact infoTup0)) ?_
        simp only [Act.put, List.setIfInBounds_toArray, List.set_cons_zero, List.set_cons_succ]
        refine takeD (i := 4) rfl (by kernel_rfl) (by kernel_rfl) (by kernel_rfl) (fun _ _ _ h => h) hS (Or.inl ⟨by rfl, fun w hSw => by go_simp; rfl⟩) ?_
        simp only [Act.put, List.setIfInBounds_toArray, List.set_cons_zero, List.set_cons_succ]
        refine takeD (i := 5) rfl (by kernel_rfl) (by kernel_rfl) (by kernel_rfl) (fun _ _ _ h => h) hS (Or.inl ⟨by rfl, fun w hSw => by go_simp; rfl⟩) ?_
        simp only [Act.put, List.setIfInBounds_toArray, List.set_cons_zero, List.set_cons_succ]
        refine takeD (i := 6) rfl (by kernel_rfl) (by kernel_rfl) (by kernel_rfl) (fun _ _ _ h => h) hS (Or.inl ⟨by rfl, fun w hSw => by go_simp; rfl⟩) ?_
        simp only [Act.put, List.setIfInBounds_toArray, List.set_cons_zero, List.set_cons_succ]
        refine takeD (i := 7) rfl (by kernel_rfl) (by kernel_rfl) (by kernel_rfl) (fun _ _ _ h => h) hS (Or.inl ⟨by rfl, fun w hSw => by go_simp; rfl⟩) ?_
        simp only [Act.put, List.setIfInBounds_toArray, List.set_cons_zero, List.set_cons_succ]
        refine takeD (i := 8) rfl (by kernel_rfl) (by kernel_rfl) (by kernel_rfl) (fun _ _ _ h => h) hS (yieldsIf_load_mid (by rfl) 37 (.tmp 23) rfl g (j * 3) rfl cy _ (fun w hSw => by exact range_below HX.out.2.2.2.2.2.2.1 hSw.below (by exact HX.out.2.2.2.2.2.2.2)) Try.underlying37 rfl (by rw [HX.out.2.2.2.1]; exact infoTup0)) ?_
        simp only [Act.put, List.setIfInBounds_toArray, List.set_cons_zero, List.set_cons_succ]
        refine takeD (i := 9) rfl (by kernel_rfl) (by kernel_rfl) (by kernel_rfl) (fun _ _ _ h => h) hS (yields_eqS (by rfl) 37 (.tmp 19) (.tmp 24) _ rfl cx.toArray cy.toArray rfl rfl (by kernel_rfl) bb HQ.out) ?_
        simp only [Act.put, List.setIfInBounds_toArray, List.set_cons_zero, List.set_cons_succ]
        refine wpAnyH_done (by kernel_rfl) ?_ _
        have HS := Lib.hid hS
        clear hS
        cases bb with
        | false =>
          go_wp2
          go_roundg (gk - 1)
          case measure => have h1 := HI.out; have h2 := HE.out; omega
          case rel =>
            obtain ⟨i1, i2, i3, i4⟩ := HI.out
            obtain ⟨e1, e2, e3, e4⟩ := HE.out
            have hne : ¬ x = y := of_decide_eq_false HBB.out
            refine ⟨k + 1, by omega, by go_num, by omega, ?_, (i4.drew).trans' HS.out.mod⟩
            rw [compactL_succ e1 (y := y) (by rw [e3]; exact e2) i2, i3, if_neg (fun e => hne e.symm), List.take_add_one, e1]
            rfl
        | true =>
          have hkcap : ¬ cap = k := by have := HH.out; have := HE.out; omega
          have hkn2 : (k : Int) ≤ (n : Int) := by omega
          go_wp2_with fail
          obtain ⟨nk, hnk⟩ : ∃ nk, n - k = nk := ⟨_, rfl⟩
          rw [hnk]
          have HNK := Lib.hid hnk
          clear hnk
          go_loopg [3, 5] (nk - 1) (fun gg vm vq wx => ∃ (q m : Nat) (D : List Tup), vq = .int .i64 (q : Int) ∧ vm = .int .i64 (m : Int) ∧ 1 ≤ q ∧ k + q + gg = n ∧ m + 1 ≤ k + q ∧ (compactL (l.take (k + q))).length = m ∧ D.length = n ∧ D.take m = compactL (l.take (k + q)) ∧ (∀ p, k + q ≤ p + 1 → D[p]? = l[p]?) ∧ OwnS tupC 3 wx 37 (.slice (some ⟨g, 0, none⟩) n cap) D ∧ Mod (fun x => x = g) w wx)
          case atStart =>
            obtain ⟨i1, i2, i3, i4⟩ := HI.out
            obtain ⟨e1, e2, e3, e4⟩ := HE.out
            obtain ⟨h, hn, _⟩ := HH.out
            have hxy : x = y := of_decide_eq_true HBB.out
            have e5 : compactL (l.take (k + 1)) = l.take k := by
              rw [compactL_succ e1 (y := y) (by rw [e3]; exact e2) i2, i3, if_pos hxy.symm, List.append_nil]
            have e6 : (l.take k).length = k := by rw [List.length_take]; omega
            exact ⟨1, k, l, rfl, rfl, Nat.le_refl _, by have := HNK.out; omega, by omega, by rw [e5, e6], hn.symm, by rw [e5], fun _ _ => rfl, OwnS.mod h i4.drew (fun _ _ h => h), i4.drew.mono (fun _ _ h => h.elim)⟩
          case round =>
            have hkk := HI.out.2.1
            clear HI HQ HX HBB hkn2 hji hj0 hjn HS k6 k7
            obtain ⟨q, m, D, rfl, rfl, hq1, hqg, hmq, hml, hDn, hDm, hDp, hown, hmod⟩ := hrel
            have HI := Lib.hid (And.intro hq1 (And.intro hqg (And.intro hmq (And.intro hml (And.intro hDn (And.intro hDm (And.intro hDp (And.intro hown hmod))))))))
            have hnk := HNK.out
            have hee := HE.out.2.2.2
            have hcc := HH.out
            have hnki : (nk : Int) ≤ 9223372036854775807 := by omega
            by_cases hc : q < nk
            · have hci : (q : Int) < (nk : Int) := by omega
              obtain ⟨i, hi⟩ : ∃ i, k + q = i := ⟨_, rfl⟩
              obtain ⟨r, hr⟩ : ∃ r, q - 1 = r := ⟨_, rfl⟩
              have hri : (q : Int) - 1 = (r : Int) := by omega
              have hr0 : (0 : Int) ≤ (r : Int) := by omega
              have hrn : (r : Int) < (nk : Int) := by omega
              have hq0 : (0 : Int) ≤ (q : Int) := by omega
              have hqb : (q : Int) < 9223372036854775807 := by omega
              have hm0 : (0 : Int) ≤ (m : Int) := by omega
              have hmn : (m : Int) < (n : Int) := by omega
              have hmb : (m : Int) < 9223372036854775807 := by omega
              have k6 : IntKind.i64.wrap (q : Int) = (q : Int) := by simp [IntKind.wrap, IntKind.bits, IntKind.signed]; omega
              have k7 : IntKind.i64.wrap (r : Int) = (r : Int) := by simp [IntKind.wrap, IntKind.bits, IntKind.signed]; omega
              have k8 : IntKind.i64.wrap (m : Int) = (m : Int) := by simp [IntKind.wrap, IntKind.bits, IntKind.signed]; omega
              obtain ⟨x, hx⟩ : ∃ x, D[i]? = some x := ⟨_, List.getElem?_eq_getElem (by omega)⟩
              obtain ⟨y, hy⟩ : ∃ y, D[i - 1]? = some y := ⟨_, List.getElem?_eq_getElem (by omega)⟩
              have hD : OwnS tupC 3 wr.drew 37 (.slice (some ⟨g, 0, none⟩) n cap) D := OwnS.mod (S := fun _ => False) hown ((Mod.refl _ wr).drew) (fun _ _ h => h)
              have hrx0 := OwnS.range tupC_len hD hx
              have hry0 := OwnS.range tupC_len hD hy
              have hglt : g < wr.drew.heap.size := hD.lt
              have a1 : i * 3 = k * 3 + q * 3 := by rw [← hi, Nat.add_mul]
              have a2 : (i - 1) * 3 = k * 3 + r * 3 := by rw [← Nat.add_mul]; congr 1; omega
              rw [a1] at hrx0
              rw [a2] at hry0
              have lx : l[i]? = some x := by rw [← hDp i (by omega)]; exact hx
              have ly : l[i - 1]? = some y := by rw [← hDp (i - 1) (by omega)]; exact hy
              obtain ⟨cx, hcx⟩ : ∃ cx, tupC x = cx := ⟨_, rfl⟩
              obtain ⟨cy, hcy⟩ : ∃ cy, tupC y = cy := ⟨_, rfl⟩
              have hx5 : cx.length = 3 := by rw [← hcx]; rfl
              have hy5 : cy.length = 3 := by rw [← hcy]; rfl
              have hx1 : cx.toArray.all (·.oneCell') = true := by rw [← hcx]; exact allOneTup x
              obtain ⟨bb, hbb⟩ : ∃ bb, decide (x = y) = bb := ⟨_, rfl⟩
              have hq : ∀ w, (Op.equal 37 (.agg cx.toArray) (.agg cy.toArray)).run Try.prog w = .ok bb w := fun w => by
                rw [← hcx, ← hcy, ← hbb]
                exact eqTup x y w
              have hrx : wr.drew.rangeAt g (k * 3 + q * 3) cx := by rw [← hcx]; exact hrx0
              have hry : wr.drew.rangeAt g (k * 3 + r * 3) cy := by rw [← hcy]; exact hry0
              have HQ := Lib.hid hq
              have HX := Lib.hid (And.intro hcx (And.intro hcy (And.intro hx5 (And.intro hy5 (And.intro hx1 (And.intro hrx (And.intro hry hglt)))))))
              have HBB := Lib.hid hbb
              clear hcx hcy hx5 hy5 hx1 hq hrx hry hrx0 hry0 hbb hglt
              have HF := Lib.hid (And.intro hx (And.intro hy (And.intro hi (And.intro hr (And.intro hc (And.intro hnk (And.intro lx ly)))))))
              have HD := Lib.hid (And.intro hD hmod.drew)
              clear hD hq1 hqg hmq hml hDn hDm hDp hown hmod hx hy hi hr hc hnk hee hcc a1 a2 lx ly hkk
              go_wp2_with fail
              refine wp_region_held_drew (S := fun w' => Gr wr.drew w') (by kernel_rfl) (Gr.refl _) (fun hS => ?_)
              refine takeD (i := 0) rfl (by kernel_rfl) (by kernel_rfl) (by kernel_rfl) (fun _ _ _ h => h) hS (Or.inl ⟨by rfl, fun w hSw => by go_simp; rfl⟩) ?_
              simp only [Act.put, List.setIfInBounds_toArray, List.set_cons_zero, List.set_cons_succ]
              refine takeD (i := 1) rfl (by kernel_rfl) (by kernel_rfl) (by kernel_rfl) (fun _ _ _ h => h) hS (Or.inl ⟨by rfl, fun w hSw => by go_simp; rfl⟩) ?_
              simp only [Act.put, List.setIfInBounds_toArray, List.set_cons_zero, List.set_cons_succ]
              refine takeD (i := 2) rfl (by kernel_rfl) (by kernel_rfl) (by kernel_rfl) (fun _ _ _ h => h) hS (Or.inl ⟨by rfl, fun w hSw => by go_simp; rfl⟩) ?_
              simp only [Act.put, List.setIfInBounds_toArray, List.set_cons_zero, List.set_cons_succ]
              refine takeD (i := 3) rfl (by kernel_rfl) (by kernel_rfl) (by kernel_rfl) (fun _ _ _ h => h) hS (yieldsIf_load_mid (by rfl) 37 (.tmp 37) rfl g (k * 3 + q * 3) rfl cx _ (fun w hSw => by exact range_below HX.out.2.2.2.2.2.1 hSw.below (by exact HX.out.2.2.2.2.2.2.2)) Try.underlying37 rfl (by rw [HX.out.2.2.1]; exact infoTup0)) ?_
              simp only [Act.put, List.setIfInBounds_toArray, List.set_cons_zero, List.set_cons_succ]
              refine takeD (i := 4) rfl (by kernel_rfl) (by kernel_rfl) (by kernel_rfl) (fun _ _ _ h => h) hS (Or.inl ⟨by rfl, fun w hSw => by go_simp; rfl⟩) ?_
              simp only [Act.put, List.setIfInBounds_toArray, List.set_cons_zero, List.set_cons_succ]
              refine takeD (i := 5) rfl (by kernel_rfl) (by kernel_rfl) (by kernel_rfl) (fun _ _ _ h => h) hS (Or.inl ⟨by rfl, fun w hSw => by go_simp; rfl⟩) ?_
              simp only [Act.put, List.setIfInBounds_toArray, List.set_cons_zero, List.set_cons_succ]
              refine takeD (i := 6) rfl (by kernel_rfl) (by kernel_rfl) (by kernel_rfl) (fun _ _ _ h => h) hS (Or.inl ⟨by rfl, fun w hSw => by go_simp; rfl⟩) ?_
              simp only [Act.put, List.setIfInBounds_toArray, List.set_cons_zero, List.set_cons_succ]
              refine takeD (i := 7) rfl (by kernel_rfl) (by kernel_rfl) (by kernel_rfl) (fun _ _ _ h => h) hS (Or.inl ⟨by rfl, fun w hSw => by go_simp; rfl⟩) ?_
              simp only [Act.put, List.setIfInBounds_toArray, List.set_cons_zero, List.set_cons_succ]
              refine takeD (i := 8) rfl (by kernel_rfl) (by kernel_rfl) (by kernel_rfl) (fun _ _ _ h => h) hS (yieldsIf_load_mid (by rfl) 37 (.tmp 42) rfl g (k * 3 + r * 3) rfl cy _ (fun w hSw => by exact range_below HX.out.2.2.2.2.2.2.1 hSw.below (by exact HX.out.2.2.2.2.2.2.2)) Try.underlying37 rfl (by rw [HX.out.2.2.2.1]; exact infoTup0)) ?_
              simp only [Act.put, List.setIfInBounds_toArray, List.set_cons_zero, List.set_cons_succ]
              refine takeD (i := 9) rfl (by kernel_rfl) (by kernel_rfl) (by kernel_rfl) (fun _ _ _ h => h) hS (yields_neS (by rfl) 37 (.tmp 38) (.tmp 43) _ rfl cx.toArray cy.toArray rfl rfl (by kernel_rfl) bb HQ.out) ?_
              simp only [Act.put, List.setIfInBounds_toArray, List.set_cons_zero, List.set_cons_succ]
              refine wpAnyH_done (by kernel_rfl) ?_ _
              clear hS
              cases bb with
              | true =>
                simp only [Bool.not_true]
                go_wp2
                go_roundg (gk - 1)
                case measure => have h1 := HI.out; have h2 := HF.out; omega
                case rel =>
                  obtain ⟨i1, i2, i3, i4, i5, i6, i7, i8, i9⟩ := HI.out
                  obtain ⟨f1, f2, f3, f4, f5, f6, f7, f8⟩ := HF.out
                  have hxy : x = y := of_decide_eq_true HBB.out
                  have e5 : compactL (l.take (k + (q + 1))) = compactL (l.take (k + q)) := by
                    rw [← Nat.add_assoc, f3, compactL_succ f7 f8 (by omega), if_pos hxy.symm, List.append_nil]
                  exact ⟨q + 1, m, D, by go_num, rfl, by omega, by omega, by omega, by rw [e5]; exact i4, i5, by rw [e5]; exact i6, fun p hp => i7 p (by omega), HD.out.1, HD.out.2⟩
              | false =>
                simp only [Bool.not_false]
                go_wp2_with (first
                  | (refine wpList_load_mid rfl 37 (.tmp 49) rfl g (k * 3 + q * 3) rfl cx _ HX.out.2.2.2.2.2.1 Try.underlying37 rfl (by rw [HX.out.2.2.1]; exact infoTup0) ?_)
                  | (refine wpList_store_mid rfl 37 (.tmp 51) (.tmp 50) rfl g (m * 3) cx.toArray rfl rfl (by rw [List.size_toArray, HX.out.2.2.1]; exact OwnS.there HD.out.1 (by have h1 := HI.out; have h2 := HF.out; omega)) (by rw [List.size_toArray, HX.out.2.2.1]; exact infoTup0) HX.out.2.2.2.2.1 ?_))
                go_roundg (gk - 1)
                case measure => have h1 := HI.out; have h2 := HF.out; omega
                case rel =>
                  obtain ⟨i1, i2, i3, i4, i5, i6, i7, i8, i9⟩ := HI.out
                  obtain ⟨f1, f2, f3, f4, f5, f6, f7, f8⟩ := HF.out
                  have hxy : ¬ x = y := of_decide_eq_false HBB.out
                  have e5 : compactL (l.take (k + (q + 1))) = compactL (l.take (k + q)) ++ [x] := by
                    rw [← Nat.add_assoc, f3, compactL_succ f7 f8 (by omega), if_neg (fun e => hxy e.symm)]
                  have hs := OwnS.store tupC_len HD.out.1 (i := m) (by omega) x
                  rw [HX.out.1] at hs
                  refine ⟨q + 1, m + 1, D.set m x, by go_num, by go_num, by omega, by omega, by omega, by rw [e5, List.length_append, i4]; rfl, by rw [List.length_set]; exact i5, ?_, fun p hp => ?_, hs, HD.out.2.trans' (Mod.setCells (S := fun x => x = g) (.inl rfl) cx (m * 3) (Mod.refl _ _))⟩
                  · rw [e5, ← i6, List.take_add_one, List.getElem?_set_self (by omega), List.take_set_of_le (Nat.le_refl _)]
                    rfl
                  · rw [List.getElem?_set_ne (by omega)]
                    exact i7 p (by omega)
            · have hci : ¬ (q : Int) < (nk : Int) := by omega
              obtain ⟨r, hr⟩ : ∃ r, n - m = r := ⟨_, rfl⟩
              have hmn : (m : Int) ≤ (n : Int) := by omega
              have hm0 : (0 : Int) ≤ (m : Int) := by omega
              have hmc : ¬ cap = m := by omega
              have hmcap : m ≤ cap := by omega
              have hmi : (m : Int) < 9223372036854775807 := by omega
              obtain ⟨w2, hr2, hown2, hm2⟩ := OwnS.wipeN (P := Try.prog) (t := 30) (ty := 0) tupC_len Try.underlying30 (zeroTup wr) rfl zoneTup hown (k := m) (r := r) (by omega) (by omega) (cap - m)
              have e5 : l.take (k + q) = l := List.take_of_length_le (by omega)
              rw [e5] at hml hDm
              rw [hDm] at hown2
              have HF := Lib.hid (And.intro hown2 (And.intro (hmod.trans' hm2) hml))
              clear hq1 hqg hmq hml hDn hDm hDp hown hmod hc hnk hee hcc hkk e5 hm2 HI
              go_wp2
              go_ret
              obtain ⟨f1, f2, f3⟩ := HF.out
              rw [f3]
              exact ⟨rfl, f1, f2⟩
      · have hci : ¬ (k : Int) < (n : Int) := by omega
        have HE := Lib.hid hc
        clear hkg hk1 hcl hmod hc
        go_wp2
        go_ret
        obtain ⟨h, hn, _⟩ := HH.out
        obtain ⟨i1, i2, i3, i4⟩ := HI.out
        have e : l.take k = l := List.take_of_length_le (by have := HE.out; omega)
        rw [e] at i3
        rw [i3, ← hn]
        exact ⟨rfl, OwnS.mod h i4 (fun _ _ h => h), i4.mono (fun _ _ h => h.elim)⟩
theorem compactAnyTup {w : World} {v : Value} {l : List Tup} (h : OwnS tupC 3 w 37 v l) :
    Calls Try.prog 32 #[v] w fun e w' => ∃ v', e = .returned v' ∧ OwnS tupC 3 w' 37 v' (compactL l) ∧ v'.ownBlock = v.ownBlock ∧ Mod (fun x => some x = v.ownBlock) w w' := by
  rcases h.form with ⟨rfl, rfl⟩ | ⟨g, cap, rfl, _, _⟩
  · have HH := Lib.hid h
    clear h
    go_enter Try.func32, Try.ntmps32
    go_wp2
    go_ret
    exact ⟨_, rfl, HH.out, rfl, Mod.refl _ _⟩
  · refine (compactTup h).mono ?_
    rintro e w' ⟨he, h1, h2⟩
    exact ⟨_, he, h1, rfl, h2.mono (fun x _ hx => by rw [show x = g from hx]; rfl)⟩
end Go.Proofs.Ytobcakjlfdejjaa.Watch
