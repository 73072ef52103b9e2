/- WatchNet, where what came in is of bulk at most 1048576: what leads from some tuples to others does so in a store, and n: part 21 of 32: what it leans on. -/
import Derived.Test.YtojjnfhgldjgbaaGreatDoorNtA
import Derived.Test.YtojjnfhgldjgbaaGreatDoorNtB
import Derived.Test.YtojjnfhgldjgbaaGreatDoorNtC
import Derived.Test.YtojjnfhgldjgbaaGreatDoorNtD
import Derived.Test.YtojjnfhgldjgbaaGreatDoorNtE
import Derived.Test.YtojjnfhgldjgbaaGreatDoorNtL
import Derived.Test.YtojjnfhgldjgbaaGreatDoorNtM
import Derived.Test.YtojjnfhgldjgbaaGreatDoorNtN
import Derived.Test.YtojjnfhgldjgbaaGreatDoorNtO
import Derived.Test.YtojjnfhgldjgbaaGreatDoorNtP
import Derived.Test.YtojjnfhgldjgbaaGreatDoorNtQ
import Derived.Test.YtojjnfhgldjgbaaGreatDoorNtR
import Derived.Test.YtojjnfhgldjgbaaGreatDoorNtS
import Derived.Test.YtojjnfhgldjgbaaGreatDoorNtT
section
set_option linter.unusedVariables false
set_option linter.unusedSimpArgs false
namespace Go.Proofs.YtojjnfhgldjgbaaGreatDoor.Watch
open Go.RowKit Go.Por Go.Sort

theorem allOneTup (x : Tup) : (tupC x).toArray.all (·.oneCell') = true := by simp [tupC, Value.oneCell']
theorem zeroTup (w : World) : (zeroValue 41).run Tryz.prog w = .ok (.agg #[.string ByteArray.empty, .string ByteArray.empty, .string ByteArray.empty]) w := by
  have h1 : Tryz.t41.zero = some (.agg #[.string ByteArray.empty, .string ByteArray.empty, .string ByteArray.empty]) := by kernel_rfl
  simp [zeroValue, h1]
theorem zoneTup (r : Nat) : ∀ u ∈ (Builtin.zeroCells (.agg #[.string ByteArray.empty, .string ByteArray.empty, .string ByteArray.empty] : Value).cells r).toList, u.oneCell' = true :=
  zeroCells_one _ (by decide) (by intro u hu; simp [Value.cells] at hu; rcases hu with rfl | rfl | rfl <;> rfl) r

set_option maxRecDepth 100000 in
set_option maxHeartbeats 3200000 in
theorem compactTup {w : World} {g cap n : Nat} {l : List Tup} (h : OwnS tupC 3 w 41 (.slice (some ⟨g, 0, none⟩) n cap) l) :
    Calls Tryz.prog 47 #[.slice (some ⟨g, 0, none⟩) n cap] w fun e w' =>
      e = .returned (.slice (some ⟨g, 0, none⟩) (compactL l).length cap) ∧ OwnS tupC 3 w' 41 (.slice (some ⟨g, 0, none⟩) (compactL l).length cap) (compactL l) ∧ Mod (fun x => x = g) w w' := by
  have hn : n = l.length := by obtain ⟨cur, _, _, _, e, _⟩ := h.block; exact e
  have hcap : n ≤ cap ∧ cap ≤ 9223372036854775807 := by obtain ⟨cur, _, _, _, e, h4, h5⟩ := h.block; unfold maxLen at h5; omega
  have HH := Lib.hid (And.intro h (And.intro hn hcap))
  have hni : (n : Int) ≤ 9223372036854775807 := by omega
  clear h hn hcap
  go_enter Tryz.func47, Tryz.ntmps47
  by_cases h2 : n < 2
  · have h2i : (n : Int) < 2 := by omega
    have HC := Lib.hid h2
    clear h2
    go_wp2
    go_ret
    obtain ⟨h, hn, _⟩ := HH.out
    have e : compactL l = l := compactL_short l (by have := HC.out; omega)
    rw [e, ← hn]
    exact ⟨rfl, h, Mod.refl _ _⟩
  · have h2i : ¬ (n : Int) < 2 := by omega
    have HC := Lib.hid h2
    clear h2
    go_wp2
    go_loopg [3] (n - 1) (fun gg vk wx => ∃ k : Nat, k + gg = n ∧ vk = .int .i64 (k : Int) ∧ 1 ≤ k ∧ compactL (l.take k) = l.take k ∧ Mod (fun _ => False) w wx)
    case atStart => exact ⟨1, by have := HC.out; omega, rfl, Nat.le_refl _, compactL_short _ (by rw [List.length_take]; omega), Mod.refl _ _⟩
    case round =>
      obtain ⟨k, hkg, rfl, hk1, hcl, hmod⟩ := hrel
      have HI := Lib.hid (And.intro hkg (And.intro hk1 (And.intro hcl hmod)))
      by_cases hc : k < n
      · have hci : (k : Int) < (n : Int) := by omega
        obtain ⟨j, hj⟩ : ∃ j, k - 1 = j := ⟨_, rfl⟩
        have hji : (k : Int) - 1 = (j : Int) := by omega
        have hj0 : (0 : Int) ≤ (j : Int) := by omega
        have hjn : (j : Int) < (n : Int) := by omega
        have hk0 : (0 : Int) ≤ (k : Int) := by omega
        have hkb : (k : Int) < 9223372036854775807 := by omega
        have k6 : IntKind.i64.wrap (k : Int) = (k : Int) := by simp [IntKind.wrap, IntKind.bits, IntKind.signed]; omega
        have k7 : IntKind.i64.wrap (j : Int) = (j : Int) := by simp [IntKind.wrap, IntKind.bits, IntKind.signed]; omega
        obtain ⟨h, hn, hcap⟩ := HH.out
        obtain ⟨x, hx⟩ : ∃ x, l[k]? = some x := ⟨_, List.getElem?_eq_getElem (by omega)⟩
        obtain ⟨y, hy⟩ : ∃ y, l[j]? = some y := ⟨_, List.getElem?_eq_getElem (by omega)⟩
        have hD : OwnS tupC 3 wr.drew 41 (.slice (some ⟨g, 0, none⟩) n cap) l := OwnS.mod h hmod.drew (fun _ _ h => h)
        have hrx0 := OwnS.range tupC_len hD hx
        have hry0 := OwnS.range tupC_len hD hy
        have hglt : g < wr.drew.heap.size := hD.lt
        obtain ⟨cx, hcx⟩ : ∃ cx, tupC x = cx := ⟨_, rfl⟩
        obtain ⟨cy, hcy⟩ : ∃ cy, tupC y = cy := ⟨_, rfl⟩
        have hx5 : cx.length = 3 := by rw [← hcx]; rfl
        have hy5 : cy.length = 3 := by rw [← hcy]; rfl
        have hx1 : cx.toArray.all (·.oneCell') = true := by rw [← hcx]; exact allOneTup x
        obtain ⟨bb, hbb⟩ : ∃ bb, decide (x = y) = bb := ⟨_, rfl⟩
        have hq : ∀ w, (Op.equal 41 (.agg cx.toArray) (.agg cy.toArray)).run Tryz.prog w = .ok bb w := fun w => by
          rw [← hcx, ← hcy, ← hbb]
          exact eqTup x y w
        have hrx : wr.drew.rangeAt g (k * 3) cx := by rw [← hcx]; exact hrx0
        have hry : wr.drew.rangeAt g (j * 3) cy := by rw [← hcy]; exact hry0
        have HQ := Lib.hid hq
        have HX := Lib.hid (And.intro hcx (And.intro hcy (And.intro hx5 (And.intro hy5 (And.intro hx1 (And.intro hrx (And.intro hry hglt)))))))
        have HBB := Lib.hid hbb
        clear hcx hcy hx5 hy5 hx1 hq hrx hry hrx0 hry0 hbb hglt
        have HE := Lib.hid (And.intro hx (And.intro hy (And.intro hj hc)))
        clear h hn hcap hD hkg hk1 hcl hmod hx hy hj hc
        go_wp2_with fail
        refine wp_region_held_drew (S := fun w' => Gr wr.drew w') (by kernel_rfl) (Gr.refl _) (fun hS => ?_)
        refine takeD (i := 0) rfl (by kernel_rfl) (by kernel_rfl) (by kernel_rfl) (fun _ _ _ h => h) hS (Or.inl ⟨by rfl, fun w hSw => by go_simp; rfl⟩) ?_
        simp only [Act.put, List.setIfInBounds_toArray, List.set_cons_zero, List.set_cons_succ]
        refine takeD (i := 1) rfl (by kernel_rfl) (by kernel_rfl) (by kernel_rfl) (fun _ _ _ h => h) hS (Or.inl ⟨by rfl, fun w hSw => by go_simp; rfl⟩) ?_
        simp only [Act.put, List.setIfInBounds_toArray, List.set_cons_zero, List.set_cons_succ]
        refine takeD (i := 2) rfl (by kernel_rfl) (by kernel_rfl) (by kernel_rfl) (fun _ _ _ h => h) hS (Or.inl ⟨by rfl, fun w hSw => by go_simp; rfl⟩) ?_
        simp only [Act.put, List.setIfInBounds_toArray, List.set_cons_zero, List.set_cons_succ]
        refine takeD (i := 3) rfl (by kernel_rfl) (by kernel_rfl) (by kernel_rfl) (fun _ _ _ h => h) hS (yieldsIf_load_mid (by rfl) 41 (.tmp 18) rfl g (k * 3) rfl cx _ (fun w hSw => by exact range_below HX.out.2.2.2.2.2.1 hSw.below (by exact HX.out.2.2.2.2.2.2.2)) Tryz.underlying41 rfl (by rw [HX.out.2.2.1]; exact infoTup0)) ?_
        simp only [Act.put, List.setIfInBounds_toArray, List.set_cons_zero, List.set_cons_succ]
        refine takeD (i := 4) rfl (by kernel_rfl) (by kernel_rfl) (by kernel_rfl) (fun _ _ _ h => h) hS (Or.inl ⟨by rfl, fun w hSw => by go_simp; rfl⟩) ?_
        simp only [Act.put, List.setIfInBounds_toArray, List.set_cons_zero, List.set_cons_succ]
        refine takeD (i := 5) rfl (by kernel_rfl) (by kernel_rfl) (by kernel_rfl) (fun _ _ _ h => h) hS (Or.inl ⟨by rfl, fun w hSw => by go_simp; rfl⟩) ?_
        simp only [Act.put, List.setIfInBounds_toArray, List.set_cons_zero, List.set_cons_succ]
        refine takeD (i := 6) rfl (by kernel_rfl) (by kernel_rfl) (by kernel_rfl) (fun _ _ _ h => h) hS (Or.inl ⟨by rfl, fun w hSw => by go_simp; rfl⟩) ?_
        simp only [Act.put, List.setIfInBounds_toArray, List.set_cons_zero, List.set_cons_succ]
        refine takeD (i := 7) rfl (by kernel_rfl) (by kernel_rfl) (by kernel_rfl) (fun _ _ _ h => h) hS (Or.inl ⟨by rfl, fun w hSw => by go_simp; rfl⟩) ?_
        simp only [Act.put, List.setIfInBounds_toArray, List.set_cons_zero, List.set_cons_succ]
        refine takeD (i := 8) rfl (by kernel_rfl) (by kernel_rfl) (by kernel_rfl) (fun _ _ _ h => h) hS (yieldsIf_load_mid (by rfl) 41 (.tmp 23) rfl g (j * 3) rfl cy _ (fun w hSw => by exact range_below HX.out.2.2.2.2.2.2.1 hSw.below (by exact HX.out.2.2.2.2.2.2.2)) Tryz.underlying41 rfl (by rw [HX.out.2.2.2.1]; exact infoTup0)) ?_
        simp only [Act.put, List.setIfInBounds_toArray, List.set_cons_zero, List.set_cons_succ]
        refine takeD (i := 9) rfl (by kernel_rfl) (by kernel_rfl) (by kernel_rfl) (fun _ _ _ h => h) hS (yields_eqS (by rfl) 41 (.tmp 19) (.tmp 24) _ rfl cx.toArray cy.toArray rfl rfl (by kernel_rfl) bb HQ.out) ?_
        simp only [Act.put, List.setIfInBounds_toArray, List.set_cons_zero, List.set_cons_succ]
        refine wpAnyH_done (by kernel_rfl) ?_ _
        have HS := Lib.hid hS
        clear hS
        cases bb with
        | false =>
          go_wp2
          go_roundg (gk - 1)
          case measure => have h1 := HI.out; have h2 := HE.out; omega
          case rel =>
            obtain ⟨i1, i2, i3, i4⟩ := HI.out
            obtain ⟨e1, e2, e3, e4⟩ := HE.out
            have hne : ¬ x = y := of_decide_eq_false HBB.out
            refine ⟨k + 1, by omega, by go_num, by omega, ?_, (i4.drew).trans' HS.out.mod⟩
            rw [compactL_succ e1 (y := y) (by rw [e3]; exact e2) i2, i3, if_neg (fun e => hne e.symm), List.take_add_one, e1]
            rfl
        | true =>
          have hkcap : ¬ cap = k := by have := HH.out; have := HE.out; omega
          have hkn2 : (k : Int) ≤ (n : Int) := by omega
          go_wp2_with fail
          obtain ⟨nk, hnk⟩ : ∃ nk, n - k = nk := ⟨_, rfl⟩
          rw [hnk]
          have HNK := Lib.hid hnk
          clear hnk
          go_loopg [3, 5] (nk - 1) (fun gg vm vq wx => ∃ (q m : Nat) (D : List Tup), vq = .int .i64 (q : Int) ∧ vm = .int .i64 (m : Int) ∧ 1 ≤ q ∧ k + q + gg = n ∧ m + 1 ≤ k + q ∧ (compactL (l.take (k + q))).length = m ∧ D.length = n ∧ D.take m = compactL (l.take (k + q)) ∧ (∀ p, k + q ≤ p + 1 → D[p]? = l[p]?) ∧ OwnS tupC 3 wx 41 (.slice (some ⟨g, 0, none⟩) n cap) D ∧ Mod (fun x => x = g) w wx)
          case atStart =>
            obtain ⟨i1, i2, i3, i4⟩ := HI.out
            obtain ⟨e1, e2, e3, e4⟩ := HE.out
            obtain ⟨h, hn, _⟩ := HH.out
            have hxy : x = y := of_decide_eq_true HBB.out
            have e5 : compactL (l.take (k + 1)) = l.take k := by
              rw [compactL_succ e1 (y := y) (by rw [e3]; exact e2) i2, i3, if_pos hxy.symm, List.append_nil]
            have e6 : (l.take k).length = k := by rw [List.length_take]; omega
            exact ⟨1, k, l, rfl, rfl, Nat.le_refl _, by have := HNK.out; omega, by omega, by rw [e5, e6], hn.symm, by rw [e5], fun _ _ => rfl, OwnS.mod h i4.drew (fun _ _ h => h), i4.drew.mono (fun _ _ h => h.elim)⟩
          case round =>
            have hkk := HI.out.2.1
            clear HI HQ HX HBB hkn2 hji hj0 hjn HS k6 k7
            obtain ⟨q, m, D, rfl, rfl, hq1, hqg, hmq, hml, hDn, hDm, hDp, hown, hmod⟩ := hrel
            have HI := Lib.hid (And.intro hq1 (And.intro hqg (And.intro hmq (And.intro hml (And.intro hDn (And.intro hDm (And.intro hDp (And.intro hown hmod))))))))
            have hnk := HNK.out
            have hee := HE.out.2.2.2
            have hcc := HH.out
            have hnki : (nk : Int) ≤ 9223372036854775807 := by omega
            by_cases hc : q < nk
            · have hci : (q : Int) < (nk : Int) := by omega
              obtain ⟨i, hi⟩ : ∃ i, k + q = i := ⟨_, rfl⟩
              obtain ⟨r, hr⟩ : ∃ r, q - 1 = r := ⟨_, rfl⟩
              have hri : (q : Int) - 1 = (r : Int) := by omega
              have hr0 : (0 : Int) ≤ (r : Int) := by omega
              have hrn : (r : Int) < (nk : Int) := by omega
              have hq0 : (0 : Int) ≤ (q : Int) := by omega
              have hqb : (q : Int) < 9223372036854775807 := by omega
              have hm0 : (0 : Int) ≤ (m : Int) := by omega
              have hmn : (m : Int) < (n : Int) := by omega
              have hmb : (m : Int) < 9223372036854775807 := by omega
              have k6 : IntKind.i64.wrap (q : Int) = (q : Int) := by simp [IntKind.wrap, IntKind.bits, IntKind.signed]; omega
              have k7 : IntKind.i64.wrap (r : Int) = (r : Int) := by simp [IntKind.wrap, IntKind.bits, IntKind.signed]; omega
              have k8 : IntKind.i64.wrap (m : Int) = (m : Int) := by simp [IntKind.wrap, IntKind.bits, IntKind.signed]; omega
              obtain ⟨x, hx⟩ : ∃ x, D[i]? = some x := ⟨_, List.getElem?_eq_getElem (by omega)⟩
              obtain ⟨y, hy⟩ : ∃ y, D[i - 1]? = some y := ⟨_, List.getElem?_eq_getElem (by omega)⟩
              have hD : OwnS tupC 3 wr.drew 41 (.slice (some ⟨g, 0, none⟩) n cap) D := OwnS.mod (S := fun _ => False) hown ((Mod.refl _ wr).drew) (fun _ _ h => h)
              have hrx0 := OwnS.range tupC_len hD hx
              have hry0 := OwnS.range tupC_len hD hy
              have hglt : g < wr.drew.heap.size := hD.lt
              have a1 : i * 3 = k * 3 + q * 3 := by rw [← hi, Nat.add_mul]
              have a2 : (i - 1) * 3 = k * 3 + r * 3 := by rw [← Nat.add_mul]; congr 1; omega
              rw [a1] at hrx0
              rw [a2] at hry0
              have lx : l[i]? = some x := by rw [← hDp i (by omega)]; exact hx
              have ly : l[i - 1]? = some y := by rw [← hDp (i - 1) (by omega)]; exact hy
              obtain ⟨cx, hcx⟩ : ∃ cx, tupC x = cx := ⟨_, rfl⟩
              obtain ⟨cy, hcy⟩ : ∃ cy, tupC y = cy := ⟨_, rfl⟩
              have hx5 : cx.length = 3 := by rw [← hcx]; rfl
              have hy5 : cy.length = 3 := by rw [← hcy]; rfl
              have hx1 : cx.toArray.all (·.oneCell') = true := by rw [← hcx]; exact allOneTup x
              obtain ⟨bb, hbb⟩ : ∃ bb, decide (x = y) = bb := ⟨_, rfl⟩
              have hq : ∀ w, (Op.equal 41 (.agg cx.toArray) (.agg cy.toArray)).run Tryz.prog w = .ok bb w := fun w => by
                rw [← hcx, ← hcy, ← hbb]
                exact eqTup x y w
              have hrx : wr.drew.rangeAt g (k * 3 + q * 3) cx := by rw [← hcx]; exact hrx0
              have hry : wr.drew.rangeAt g (k * 3 + r * 3) cy := by rw [← hcy]; exact hry0
              have HQ := Lib.hid hq
              have HX := Lib.hid (And.intro hcx (And.intro hcy (And.intro hx5 (And.intro hy5 (And.intro hx1 (And.intro hrx (And.intro hry hglt)))))))
              have HBB := Lib.hid hbb
              clear hcx hcy hx5 hy5 hx1 hq hrx hry hrx0 hry0 hbb hglt
              have HF := Lib.hid (And.intro hx (And.intro hy (And.intro hi (And.intro hr (And.intro hc (And.intro hnk (And.intro lx ly)))))))
              have HD := Lib.hid (And.intro hD hmod.drew)
              clear hD hq1 hqg hmq hml hDn hDm hDp hown hmod hx hy hi hr hc hnk hee hcc a1 a2 lx ly hkk
              go_wp2_with fail
              refine wp_region_held_drew (S := fun w' => Gr wr.drew w') (by kernel_rfl) (Gr.refl _) (fun hS => ?_)
              refine takeD (i := 0) rfl (by kernel_rfl) (by kernel_rfl) (by kernel_rfl) (fun _ _ _ h => h) hS (Or.inl ⟨by rfl, fun w hSw => by go_simp; rfl⟩) ?_
              simp only [Act.put, List.setIfInBounds_toArray, List.set_cons_zero, List.set_cons_succ]
              refine takeD (i := 1) rfl (by kernel_rfl) (by kernel_rfl) (by kernel_rfl) (fun _ _ _ h => h) hS (Or.inl ⟨by rfl, fun w hSw => by go_simp; rfl⟩) ?_
              simp only [Act.put, List.setIfInBounds_toArray, List.set_cons_zero, List.set_cons_succ]
              refine takeD (i := 2) rfl (by kernel_rfl) (by kernel_rfl) (by kernel_rfl) (fun _ _ _ h => h) hS (Or.inl ⟨by rfl, fun w hSw => by go_simp; rfl⟩) ?_
              simp only [Act.put, List.setIfInBounds_toArray, List.set_cons_zero, List.set_cons_succ]
              refine takeD (i := 3) rfl (by kernel_rfl) (by kernel_rfl) (by kernel_rfl) (fun _ _ _ h => h) hS (yieldsIf_load_mid (by rfl) 41 (.tmp 37) rfl g (k * 3 + q * 3) rfl cx _ (fun w hSw => by exact range_below HX.out.2.2.2.2.2.1 hSw.below (by exact HX.out.2.2.2.2.2.2.2)) Tryz.underlying41 rfl (by rw [HX.out.2.2.1]; exact infoTup0)) ?_
              simp only [Act.put, List.setIfInBounds_toArray, List.set_cons_zero, List.set_cons_succ]
              refine takeD (i := 4) rfl (by kernel_rfl) (by kernel_rfl) (by kernel_rfl) (fun _ _ _ h => h) hS (Or.inl ⟨by rfl, fun w hSw => by go_simp; rfl⟩) ?_
              simp only [Act.put, List.setIfInBounds_toArray, List.set_cons_zero, List.set_cons_succ]
              refine takeD (i := 5) rfl (by kernel_rfl) (by kernel_rfl) (by kernel_rfl) (fun _ _ _ h => h) hS (Or.inl ⟨by rfl, fun w hSw => by go_simp; rfl⟩) ?_
              simp only [Act.put, List.setIfInBounds_toArray, List.set_cons_zero, List.set_cons_succ]
              refine takeD (i := 6) rfl (by kernel_rfl) (by kernel_rfl) (by kernel_rfl) (fun _ _ _ h => h) hS (Or.inl ⟨by rfl, fun w hSw => by go_simp; rfl⟩) ?_
              simp only [Act.put, List.setIfInBounds_toArray, List.set_cons_zero, List.set_cons_succ]
              refine takeD (i := 7) rfl (by kernel_rfl) (by kernel_rfl) (by kernel_rfl) (fun _ _ _ h => h) hS (Or.inl ⟨by rfl, fun w hSw => by go_simp; rfl⟩) ?_
              simp only [Act.put, List.setIfInBounds_toArray, List.set_cons_zero, List.set_cons_succ]
              refine takeD (i := 8) rfl (by kernel_rfl) (by kernel_rfl) (by kernel_rfl) (fun _ _ _ h => h) hS (yieldsIf_load_mid (by rfl) 41 (.tmp 42) rfl g (k * 3 + r * 3) rfl cy _ (fun w hSw => by exact range_below HX.out.2.2.2.2.2.2.1 hSw.below (by exact HX.out.2.2.2.2.2.2.2)) Tryz.underlying41 rfl (by rw [HX.out.2.2.2.1]; exact infoTup0)) ?_
              simp only [Act.put, List.setIfInBounds_toArray, List.set_cons_zero, List.set_cons_succ]
              refine takeD (i := 9) rfl (by kernel_rfl) (by kernel_rfl) (by kernel_rfl) (fun _ _ _ h => h) hS (yields_neS (by rfl) 41 (.tmp 38) (.tmp 43) _ rfl cx.toArray cy.toArray rfl rfl (by kernel_rfl) bb HQ.out) ?_
              simp only [Act.put, List.setIfInBounds_toArray, List.set_cons_zero, List.set_cons_succ]
              refine wpAnyH_done (by kernel_rfl) ?_ _
              clear hS
              cases bb with
              | true =>
                simp only [Bool.not_true]
                go_wp2
                go_roundg (gk - 1)
                case measure => have h1 := HI.out; have h2 := HF.out; omega
                case rel =>
                  obtain ⟨i1, i2, i3, i4, i5, i6, i7, i8, i9⟩ := HI.out
                  obtain ⟨f1, f2, f3, f4, f5, f6, f7, f8⟩ := HF.out
                  have hxy : x = y := of_decide_eq_true HBB.out
                  have e5 : compactL (l.take (k + (q + 1))) = compactL (l.take (k + q)) := by
                    rw [← Nat.add_assoc, f3, compactL_succ f7 f8 (by omega), if_pos hxy.symm, List.append_nil]
                  exact ⟨q + 1, m, D, by go_num, rfl, by omega, by omega, by omega, by rw [e5]; exact i4, i5, by rw [e5]; exact i6, fun p hp => i7 p (by omega), HD.out.1, HD.out.2⟩
              | false =>
                simp only [Bool.not_false]
                go_wp2_with (first
                  | (refine wpList_load_mid rfl 41 (.tmp 49) rfl g (k * 3 + q * 3) rfl cx _ HX.out.2.2.2.2.2.1 Tryz.underlying41 rfl (by rw [HX.out.2.2.1]; exact infoTup0) ?_)
                  | (refine wpList_store_mid rfl 41 (.tmp 51) (.tmp 50) rfl g (m * 3) cx.toArray rfl rfl (by rw [List.size_toArray, HX.out.2.2.1]; exact OwnS.there HD.out.1 (by have h1 := HI.out; have h2 := HF.out; omega)) (by rw [List.size_toArray, HX.out.2.2.1]; exact infoTup0) HX.out.2.2.2.2.1 ?_))
                go_roundg (gk - 1)
                case measure => have h1 := HI.out; have h2 := HF.out; omega
                case rel =>
                  obtain ⟨i1, i2, i3, i4, i5, i6, i7, i8, i9⟩ := HI.out
                  obtain ⟨f1, f2, f3, f4, f5, f6, f7, f8⟩ := HF.out
                  have hxy : ¬ x = y := of_decide_eq_false HBB.out
                  have e5 : compactL (l.take (k + (q + 1))) = compactL (l.take (k + q)) ++ [x] := by
                    rw [← Nat.add_assoc, f3, compactL_succ f7 f8 (by omega), if_neg (fun e => hxy e.symm)]
                  have hs := OwnS.store tupC_len HD.out.1 (i := m) (by omega) x
                  rw [HX.out.1] at hs
                  refine ⟨q + 1, m + 1, D.set m x, by go_num, by go_num, by omega, by omega, by omega, by rw [e5, List.length_append, i4]; rfl, by rw [List.length_set]; exact i5, ?_, fun p hp => ?_, hs, HD.out.2.trans' (Mod.setCells (S := fun x => x = g) (.inl rfl) cx (m * 3) (Mod.refl _ _))⟩
                  · rw [e5, ← i6, List.take_add_one, List.getElem?_set_self (by omega), List.take_set_of_le (Nat.le_refl _)]
                    rfl
                  · rw [List.getElem?_set_ne (by omega)]
                    exact i7 p (by omega)
            · have hci : ¬ (q : Int) < (nk : Int) := by omega
              obtain ⟨r, hr⟩ : ∃ r, n - m = r := ⟨_, rfl⟩
              have hmn : (m : Int) ≤ (n : Int) := by omega
              have hm0 : (0 : Int) ≤ (m : Int) := by omega
              have hmc : ¬ cap = m := by omega
              have hmcap : m ≤ cap := by omega
              have hmi : (m : Int) < 9223372036854775807 := by omega
              obtain ⟨w2, hr2, hown2, hm2⟩ := OwnS.wipeN (P := Tryz.prog) (t := 34) (ty := 0) tupC_len Tryz.underlying34 (zeroTup wr) rfl zoneTup hown (k := m) (r := r) (by omega) (by omega) (cap - m)
              have e5 : l.take (k + q) = l := List.take_of_length_le (by omega)
              rw [e5] at hml hDm
              rw [hDm] at hown2
              have HF := Lib.hid (And.intro hown2 (And.intro (hmod.trans' hm2) hml))
              clear hq1 hqg hmq hml hDn hDm hDp hown hmod hc hnk hee hcc hkk e5 hm2 HI
              go_wp2
              go_ret
              obtain ⟨f1, f2, f3⟩ := HF.out
              rw [f3]
              exact ⟨rfl, f1, f2⟩
      · have hci : ¬ (k : Int) < (n : Int) := by omega
        have HE := Lib.hid hc
        clear hkg hk1 hcl hmod hc
        go_wp2
        go_ret
        obtain ⟨h, hn, _⟩ := HH.out
        obtain ⟨i1, i2, i3, i4⟩ := HI.out
        have e : l.take k = l := List.take_of_length_le (by have := HE.out; omega)
        rw [e] at i3
        rw [i3, ← hn]
        exact ⟨rfl, OwnS.mod h i4 (fun _ _ h => h), i4.mono (fun _ _ h => h.elim)⟩
theorem compactAnyTup {w : World} {v : Value} {l : List Tup} (h : OwnS tupC 3 w 41 v l) :
    Calls Tryz.prog 47 #[v] w fun e w' => ∃ v', e = .returned v' ∧ OwnS tupC 3 w' 41 v' (compactL l) ∧ v'.ownBlock = v.ownBlock ∧ Mod (fun x => some x = v.ownBlock) w w' := by
  rcases h.form with ⟨rfl, rfl⟩ | ⟨g, cap, rfl, _, _⟩
  · have HH := Lib.hid h
    clear h
    go_enter Tryz.func47, Tryz.ntmps47
    go_wp2
    go_ret
    exact ⟨_, rfl, HH.out, rfl, Mod.refl _ _⟩
  · refine (compactTup h).mono ?_
    rintro e w' ⟨he, h1, h2⟩
    exact ⟨_, he, h1, rfl, h2.mono (fun x _ hx => by rw [show x = g from hx]; rfl)⟩
end Go.Proofs.YtojjnfhgldjgbaaGreatDoor.Watch
end
section
set_option linter.unusedVariables false
set_option linter.unusedSimpArgs false
namespace Go.Proofs.YtojjnfhgldjgbaaGreatDoor.Watch
open Go.RowKit Go.Por Go.Sort

/-- Is a row there at a revision? -/
def isAt (rev : Int) (r : RowT) : Bool := decide (r.2.1 ≤ rev) && (decide (r.2.2 = 0) || decide (rev < r.2.2))
def thereL (rows : List RowT) (rev : Int) : List Tup := (rows.filter (isAt rev)).map (·.1)
def atL (rows : List RowT) (rev : Int) : List Tup := compactL ((thereL rows rev).mergeSort tle)
theorem thereL_succ (rows : List RowT) (rev : Int) (t : Nat) (r : RowT) (h : rows[t]? = some r) : thereL (rows.take (t + 1)) rev = thereL (rows.take t) rev ++ (if isAt rev r then [r.1] else []) := by
  unfold thereL
  rw [List.take_add_one, h, Option.toList_some, List.filter_append, List.map_append]
  congr 1
  by_cases h : isAt rev r = true <;> simp [h]
theorem thereL_le (rows : List RowT) (rev : Int) (t : Nat) : (thereL (rows.take t) rev).length ≤ rows.length := by
  unfold thereL
  rw [List.length_map]
  refine Nat.le_trans (List.length_filter_le _ _) ?_
  rw [List.length_take]
  omega
theorem room48 {a n : Nat} (h : a ≤ n) (h2 : (n + 1) * 48 ≤ 140737488355328) : (a + 1) * 48 ≤ 140737488355328 := Nat.le_trans (Nat.mul_le_mul_right 48 (by omega)) h2
theorem room48' {a n : Nat} (h : a ≤ n) (h2 : (n + 1) * 48 ≤ 140737488355328) : a + 1 ≤ maxLen ∧ a < 4611686018427387904 := by
  have : n + 1 ≤ (n + 1) * 48 := Nat.le_mul_of_pos_right _ (by decide)
  unfold maxLen
  omega

set_option maxRecDepth 100000 in
set_option maxHeartbeats 3200000 in
theorem at_any {w : World} {v : Value} {rows : List RowT} (hr : ReadS rowC 5 w v rows) (rev : Int) (hb : (rows.length + 1) * 48 ≤ 140737488355328) :
    Calls Tryz.prog 19 #[v, .int .i64 rev] w fun e w' =>
      ∃ v', e = .returned v' ∧ OwnS tupC 3 w' 41 v' (atL rows rev) ∧ Below w.heap.size w w' ∧ ∀ k, v'.ownBlock = some k → w.heap.size ≤ k := by
  obtain ⟨ao, cap, rfl, hlen⟩ := hr.form
  obtain ⟨B, hB⟩ : ∃ B, w.heap.size = B := ⟨_, rfl⟩
  obtain ⟨n, hn⟩ : ∃ n, rows.length = n := ⟨_, rfl⟩
  rw [hn] at hr hlen hb ⊢
  have HH := Lib.hid (And.intro hr (And.intro hb (And.intro hlen (And.intro hB hn))))
  clear hr hb
  rw [hB]
  go_enter Tryz.func19, Tryz.ntmps19
  go_wp2
  go_loopg [5, 10] n (fun gg v1 vi wx => ∃ (t : Nat), t + gg = n ∧ vi = .int .i64 (t : Int) ∧ OwnS tupC 3 wx 41 v1 (thereL (rows.take t) rev) ∧ Below B w wx ∧ B ≤ wx.heap.size ∧ ∀ k, v1.ownBlock = some k → B ≤ k)
  case atStart => exact ⟨0, by omega, rfl, OwnS.nil _ _ _ _, Below.refl _ _, by omega, fun k h => by simp [Value.ownBlock] at h⟩
  case round =>
    obtain ⟨t, htg, rfl, hown, hbel, hsz, hwh⟩ := hrel
    have HI := Lib.hid (And.intro hown (And.intro hbel (And.intro hsz (And.intro hwh htg))))
    by_cases hc : t < n
    · obtain ⟨r, hx⟩ : ∃ r, rows[t]? = some r := ⟨_, List.getElem?_eq_getElem (by omega)⟩
      obtain ⟨b, o, rfl, hrange, hbl⟩ := HH.out.1.lt (by decide) rowC_len' hx
      have hrange2 : wr.rangeAt b (o + t * 5) (rowC r) := range_below hrange hbel (by omega)
      obtain ⟨⟨x0, x1, x2⟩, since, til⟩ := r
      have hci : (t : Int) < (n : Int) := by omega
      have hti : (t : Int) < 9223372036854775807 := by omega
      have HC := Lib.hid (And.intro hx (And.intro hrange2 (And.intro hc hbl)))
      clear hown hbel hsz hwh htg hx hrange hrange2 hbl hc
      go_upto_region 5 with (first
        | (refine wpList_load_mid rfl 63 (.tmp 12) rfl b (o + t * 5) rfl (rowC ((x0, x1, x2), since, til)) _ HC.out.2.1 Tryz.underlying63 rfl infoR ?_; unfold rowC))
      obtain ⟨R, hR⟩ : ∃ R, wr.heap.size = R := ⟨_, rfl⟩
      have hRb := block_new wr (.cells #[.string x0, .string x1, .string x2, .int .i64 since, .int .i64 til] 63)
      rw [hR] at hRb ⊢
      obtain ⟨i1, i2, i3, i4, i5⟩ := HI.out
      have j1 : OwnS tupC 3 (wr.alloc (.cells #[.string x0, .string x1, .string x2, .int .i64 since, .int .i64 til] 63)) 41 u5 (thereL (rows.take t) rev) := i1.mod (S := fun _ => False) ((Mod.refl _ wr).alloc _) (fun _ _ h => h)
      have j4 := i2.alloc (by omega) (.cells #[.string x0, .string x1, .string x2, .int .i64 since, .int .i64 til] 63)
      have j5 : R + 1 = (wr.alloc (.cells #[.string x0, .string x1, .string x2, .int .i64 since, .int .i64 til] 63)).heap.size := by simp [hR]
      generalize hW4 : wr.alloc (.cells #[.string x0, .string x1, .string x2, .int .i64 since, .int .i64 til] 63) = W4 at *
      have c0 : W4.cell? ⟨R, 0, none⟩ = some (.string x0) := cell_of hRb rfl
      have c1 : W4.cell? ⟨R, 1, none⟩ = some (.string x1) := cell_of hRb rfl
      have c2 : W4.cell? ⟨R, 2, none⟩ = some (.string x2) := cell_of hRb rfl
      have c3 : W4.cell? ⟨R, 3, none⟩ = some (.int .i64 since) := cell_of hRb rfl
      have c4 : W4.cell? ⟨R, 4, none⟩ = some (.int .i64 til) := cell_of hRb rfl
      have hout := thereL_succ rows rev t _ HC.out.1
      have hle := thereL_le rows rev t
      have hroom := room48 hle (by rw [HH.out.2.2.2.2]; exact HH.out.2.1)
      have hroom' := room48' hle (by rw [HH.out.2.2.2.2]; exact HH.out.2.1)
      have HJ := Lib.hid (And.intro j1 (And.intro j4 (And.intro (show B ≤ R by omega) (And.intro i4 (And.intro i5 (And.intro j5 (And.intro hroom hroom')))))))
      clear i1 i2 i3 i4 i5 j1 j4 j5 hW4 hR hRb hle hroom hroom' HI
      by_cases h1 : since ≤ rev
      · by_cases h2 : til = 0
        · have q : (til == 0) = true := by simp [h2]
          have ha : isAt rev ((x0, x1, x2), since, til) = true := by simp [isAt, h1, h2]
          have HO := Lib.hid (show thereL (rows.take (t + 1)) rev = thereL (rows.take t) rev ++ [(x0, x1, x2)] by rw [hout, ha]; rfl)
          clear ha h2 hout
          go_wp2_with (first
            | (at_builtin; refine wpList_push elemTup rfl _ _ rfl rfl (OwnS.mod HJ.out.1 ((Mod.refl (fun _ => False) W4).alloc _) (fun _ _ h => h)) W4.heap.size (x0, x1, x2) rfl (block_new _ _) HJ.out.2.2.2.2.2.2.1 HJ.out.2.2.2.2.2.2.2.1 ?_))
          intro v' w' hown' hm' hb'
          have HK := Lib.hid (And.intro hown' (And.intro hm' hb'))
          clear hown' hm' hb'
          go_wp2
          go_roundg (gk - 1)
          case measure => have h1 := HJ.out; have h2 := HC.out; omega
          case rel =>
            obtain ⟨j1, j2, j3, j4, j5, j6, j7, j8⟩ := HJ.out
            obtain ⟨k1, k2, k3⟩ := HK.out
            have hlt := HC.out.2.2.1
            have hsz := k2.size
            simp only [World.size_alloc] at hsz
            exact ⟨t + 1, by omega, by go_num, by rw [HO.out]; exact k1, (j2.alloc (by omega) _).trans (k2.to_below (by simp only [World.size_alloc]; omega) (fun k hk => j4 k hk.symm)), by omega, fun k hk => by
              rcases k3 k hk with h | h
              · exact j4 k h
              · omega⟩
        · have q : (til == 0) = false := by simp [h2]
          by_cases h3 : rev < til
          · have ha : isAt rev ((x0, x1, x2), since, til) = true := by simp [isAt, h1, h3]
            have HO := Lib.hid (show thereL (rows.take (t + 1)) rev = thereL (rows.take t) rev ++ [(x0, x1, x2)] by rw [hout, ha]; rfl)
            clear ha h2 hout
            go_wp2_with (first
              | (at_builtin; refine wpList_push elemTup rfl _ _ rfl rfl (OwnS.mod HJ.out.1 ((Mod.refl (fun _ => False) W4).alloc _) (fun _ _ h => h)) W4.heap.size (x0, x1, x2) rfl (block_new _ _) HJ.out.2.2.2.2.2.2.1 HJ.out.2.2.2.2.2.2.2.1 ?_))
            intro v' w' hown' hm' hb'
            have HK := Lib.hid (And.intro hown' (And.intro hm' hb'))
            clear hown' hm' hb'
            go_wp2
            go_roundg (gk - 1)
            case measure => have h1 := HJ.out; have h2 := HC.out; omega
            case rel =>
              obtain ⟨j1, j2, j3, j4, j5, j6, j7, j8⟩ := HJ.out
              obtain ⟨k1, k2, k3⟩ := HK.out
              have hlt := HC.out.2.2.1
              have hsz := k2.size
              simp only [World.size_alloc] at hsz
              exact ⟨t + 1, by omega, by go_num, by rw [HO.out]; exact k1, (j2.alloc (by omega) _).trans (k2.to_below (by simp only [World.size_alloc]; omega) (fun k hk => j4 k hk.symm)), by omega, fun k hk => by
                rcases k3 k hk with h | h
                · exact j4 k h
                · omega⟩
          · have ha : isAt rev ((x0, x1, x2), since, til) = false := by simp [isAt, h2, h3]
            have HO := Lib.hid (show thereL (rows.take (t + 1)) rev = thereL (rows.take t) rev by rw [hout, ha]; simp)
            clear ha h2 hout
            go_wp2
            go_roundg (gk - 1)
            case measure => have h1 := HJ.out; have h2 := HC.out; omega
            case rel =>
              obtain ⟨j1, j2, j3, j4, j5, j6, j7, j8⟩ := HJ.out
              have hlt := HC.out.2.2.1
              exact ⟨t + 1, by omega, by go_num, by rw [HO.out]; exact j1, j2, by omega, j4⟩
      · have ha : isAt rev ((x0, x1, x2), since, til) = false := by simp [isAt, h1]
        have HO := Lib.hid (show thereL (rows.take (t + 1)) rev = thereL (rows.take t) rev by rw [hout, ha]; simp)
        clear ha hout
        go_wp2
        go_roundg (gk - 1)
        case measure => have h1 := HJ.out; have h2 := HC.out; omega
        case rel =>
          obtain ⟨j1, j2, j3, j4, j5, j6, j7, j8⟩ := HJ.out
          have hlt := HC.out.2.2.1
          exact ⟨t + 1, by omega, by go_num, by rw [HO.out]; exact j1, j2, by omega, j4⟩
    · have hci : ¬ (t : Int) < (n : Int) := by omega
      have HC := Lib.hid hc
      clear hown hbel hsz hwh htg hc
      go_wp2_with fail
      obtain ⟨i1, i2, i3, i4, i5⟩ := HI.out
      have hcc := HC.out
      have ht : rows.take t = rows := List.take_of_length_le (by omega)
      have hle := thereL_le rows rev t
      have hroom' := room48' hle (by rw [HH.out.2.2.2.2]; exact HH.out.2.1)
      refine (sort_tup i1 hroom'.2).mono ?_
      rintro e w5 ⟨rfl, hown5, hm5⟩
      have k3 : Below B w w5 := i2.trans (hm5.to_below (by omega) (fun k hk => i4 k hk.symm))
      have HK := Lib.hid (And.intro hown5 (And.intro k3 (And.intro i4 (And.intro ht (show B ≤ w5.heap.size by have := hm5.size; omega)))))
      clear hown5 hm5 k3 i1 i2 i3 i4 i5 hcc ht hle hroom'
      go_wp2_with fail
      refine (compactAnyTup HK.out.1).mono ?_
      rintro e w6 ⟨v6, rfl, hown6, hv6, hm6⟩
      have HL := Lib.hid (And.intro hown6 (And.intro hv6 hm6))
      clear hown6 hv6 hm6
      go_wp2
      go_ret
      obtain ⟨h1, h2, h3, h4, h5⟩ := HK.out
      obtain ⟨k1, k2, k3⟩ := HL.out
      refine ⟨v6, rfl, ?_, h2.trans (k3.to_below h5 (fun k hk => h3 k hk.symm)), fun k hk => h3 k (by rw [← k2]; exact hk)⟩
      unfold atL
      rw [← h4]
      exact k1
end Go.Proofs.YtojjnfhgldjgbaaGreatDoor.Watch
end
section
set_option linter.unusedVariables false
set_option linter.unusedSimpArgs false
namespace Go.Proofs.YtojjnfhgldjgbaaGreatDoor.Watch
open Go.RowKit Go.Por Go.Sort

def isOpen (t : Tup) (r : RowT) : Bool := decide (r.1 = t) && decide (r.2.2 = 0)
/-- Row i ends at a revision. -/
def shutAt (out : List RowT) (i : Nat) (rev : Int) : List RowT := match out[i]? with
  | some r => out.set i (r.1, r.2.1, rev)
  | none => out
theorem shutAt_length (out : List RowT) (i : Nat) (rev : Int) : (shutAt out i rev).length = out.length := by
  unfold shutAt
  split <;> simp
theorem shutAt_some {out : List RowT} {i : Nat} {r : RowT} (h : out[i]? = some r) (rev : Int) : shutAt out i rev = out.set i (r.1, r.2.1, rev) := by
  unfold shutAt
  rw [h]
/-- One change. -/
def stepR (out : List RowT) (c : Chg) : List RowT :=
  match out.findIdx? (isOpen c.2.2), c.2.1 with
  | some i, true => shutAt out i c.1
  | some _, false => out
  | none, true => out
  | none, false => out ++ [(c.2.2, c.1, 0)]
def rowsF (cs : List Chg) : List RowT := cs.foldl stepR []
theorem rowsF_succ (cs : List Chg) (t : Nat) (c : Chg) (h : cs[t]? = some c) : rowsF (cs.take (t + 1)) = stepR (rowsF (cs.take t)) c := by
  unfold rowsF
  rw [List.take_add_one, h, List.foldl_append]
  rfl
theorem stepR_le (out : List RowT) (c : Chg) : (stepR out c).length ≤ out.length + 1 := by
  unfold stepR
  split <;> simp [shutAt_length]
theorem rowsF_le (cs : List Chg) : (rowsF cs).length ≤ cs.length := by
  have : ∀ (cs : List Chg) (o : List RowT), (cs.foldl stepR o).length ≤ o.length + cs.length := by
    intro cs
    induction cs with
    | nil => intro o; simp
    | cons c cs ih =>
      intro o
      have h1 := ih (stepR o c)
      have h2 := stepR_le o c
      rw [List.foldl_cons, List.length_cons]
      omega
  have h := this cs []
  rw [List.length_nil, Nat.zero_add] at h
  exact h
/-- The map tells just the open rows. -/
def Told (out : List RowT) (lm : List (Tup × Nat)) : Prop := ∀ t i, (t, i) ∈ lm ↔ ∃ r, out[i]? = some r ∧ r.1 = t ∧ r.2.2 = 0
def mv (lm : List (Tup × Nat)) : List (Tup × Value) := lm.map (fun p => (p.1, Value.int .i64 (p.2 : Int)))
theorem mv_fst (lm : List (Tup × Nat)) : (mv lm).map Prod.fst = lm.map Prod.fst := by
  unfold mv
  rw [List.map_map]
  rfl
theorem mem_mv {lm : List (Tup × Nat)} {t : Tup} {i : Nat} (h : (t, i) ∈ lm) : (t, Value.int .i64 (i : Int)) ∈ mv lm := List.mem_map.2 ⟨(t, i), h, rfl⟩
theorem nodup_snd {lm : List (Tup × Nat)} (hn : (lm.map Prod.fst).Nodup) {t : Tup} {i j : Nat} (h1 : (t, i) ∈ lm) (h2 : (t, j) ∈ lm) : i = j := by
  induction lm with
  | nil => cases h1
  | cons x r ih =>
    simp only [List.map_cons, List.nodup_cons] at hn
    rcases List.mem_cons.1 h1 with e1 | e1
    · rcases List.mem_cons.1 h2 with e2 | e2
      · rw [← e1] at e2; cases e2; rfl
      · exact absurd (List.mem_map.2 ⟨_, e2, by rw [← e1]⟩) hn.1
    · rcases List.mem_cons.1 h2 with e2 | e2
      · exact absurd (List.mem_map.2 ⟨_, e1, by rw [← e2]⟩) hn.1
      · exact ih hn.2 e1 e2
theorem Told.hit {out : List RowT} {lm : List (Tup × Nat)} (H : Told out lm) (hn : (lm.map Prod.fst).Nodup) {t : Tup} {i : Nat} (h : (t, i) ∈ lm) : out.findIdx? (isOpen t) = some i := by
  obtain ⟨r, hr, h1, h2⟩ := (H t i).1 h
  cases hf : out.findIdx? (isOpen t) with
  | none =>
    rw [List.findIdx?_eq_none_iff] at hf
    have := hf r (List.mem_of_getElem? hr)
    simp [isOpen, h1, h2] at this
  | some j =>
    obtain ⟨hj, h3, _⟩ := List.findIdx?_eq_some_iff_getElem.1 hf
    simp only [isOpen, Bool.and_eq_true, decide_eq_true_eq] at h3
    rw [nodup_snd hn h ((H t j).2 ⟨_, List.getElem?_eq_getElem hj, h3.1, h3.2⟩)]
theorem Told.miss {out : List RowT} {lm : List (Tup × Nat)} (H : Told out lm) {t : Tup} (h : t ∉ lm.map Prod.fst) : out.findIdx? (isOpen t) = none := by
  rw [List.findIdx?_eq_none_iff]
  intro r hr
  cases ho : isOpen t r with
  | false => rfl
  | true =>
    obtain ⟨i, hi⟩ := List.getElem?_of_mem hr
    simp only [isOpen, Bool.and_eq_true, decide_eq_true_eq] at ho
    exact absurd (List.mem_map.2 ⟨(t, i), (H t i).2 ⟨r, hi, ho.1, ho.2⟩, rfl⟩) h
theorem Told.new {out : List RowT} {lm : List (Tup × Nat)} (H : Told out lm) {t : Tup} (h : t ∉ lm.map Prod.fst) (rev : Int) : Told (out ++ [(t, rev, 0)]) (lm ++ [(t, out.length)]) := by
  intro t' i
  rw [List.mem_append, List.mem_singleton, H t' i]
  constructor
  · rintro (⟨r, hr, h1, h2⟩ | h)
    · exact ⟨r, by rw [List.getElem?_append_left (List.getElem?_eq_some_iff.1 hr).1]; exact hr, h1, h2⟩
    · cases h
      exact ⟨_, by rw [List.getElem?_append_right (Nat.le_refl _), Nat.sub_self]; rfl, rfl, rfl⟩
  · rintro ⟨r, hr, h1, h2⟩
    rcases Nat.lt_or_ge i out.length with hi | hi
    · rw [List.getElem?_append_left hi] at hr
      exact .inl ⟨r, hr, h1, h2⟩
    · rw [List.getElem?_append_right hi] at hr
      right
      cases hd : i - out.length with
      | zero =>
        rw [hd] at hr
        simp only [List.getElem?_cons_zero, Option.some.injEq] at hr
        subst hr
        rw [← h1, show i = out.length by omega]
      | succ k =>
        rw [hd] at hr
        simp at hr
theorem Told.shut {out : List RowT} {lm : List (Tup × Nat)} (H : Told out lm) (hn : (lm.map Prod.fst).Nodup) {t : Tup} {i : Nat} (h : (t, i) ∈ lm) {rev : Int} (hr0 : rev ≠ 0) : Told (shutAt out i rev) (lm.filter (fun p => decide (p.1 ≠ t))) := by
  obtain ⟨r0, e0, e1, e2⟩ := (H t i).1 h
  have hi : i < out.length := (List.getElem?_eq_some_iff.1 e0).1
  rw [shutAt_some e0]
  intro t' j
  rw [List.mem_filter, H t' j, List.getElem?_set]
  simp only [ne_eq, decide_not, Bool.not_eq_true', decide_eq_false_iff_not]
  constructor
  · rintro ⟨⟨r, hr, h1, h2⟩, h3⟩
    have hij : i ≠ j := by
      rintro rfl
      rw [hr] at e0
      cases e0
      exact h3 (h1.symm.trans e1)
    exact ⟨r, by rw [if_neg hij]; exact hr, h1, h2⟩
  · rintro ⟨r, hr, h1, h2⟩
    by_cases hij : i = j
    · subst hij
      rw [if_pos rfl, if_pos hi] at hr
      cases hr
      exact absurd h2 hr0
    · rw [if_neg hij] at hr
      refine ⟨⟨r, hr, h1, h2⟩, ?_⟩
      rintro rfl
      exact hij (nodup_snd hn h ((H _ j).2 ⟨r, hr, h1, h2⟩))
theorem Told.zero {out : List RowT} {lm : List (Tup × Nat)} (H : Told out lm) {t : Tup} {i : Nat} (h : (t, i) ∈ lm) : shutAt out i 0 = out := by
  obtain ⟨r, hr, h1, h2⟩ := (H t i).1 h
  rw [shutAt_some hr]
  apply List.ext_getElem?
  intro j
  rw [List.getElem?_set]
  by_cases hij : i = j
  · subst hij
    rw [if_pos rfl, if_pos (List.getElem?_eq_some_iff.1 hr).1, hr]
    obtain ⟨a, b, c⟩ := r
    simp only at h2
    subst h2
    rfl
  · rw [if_neg hij]
end Go.Proofs.YtojjnfhgldjgbaaGreatDoor.Watch
end
section
set_option linter.unusedVariables false
set_option linter.unusedSimpArgs false
namespace Go.Proofs.YtojjnfhgldjgbaaGreatDoor.Watch
open Go.RowKit Go.Por Go.Sort

theorem MapIs.own_ne {κ α : Type} {enc : κ → Value} {w : World} {M : Nat} {lm : List (κ × Value)} (h : MapIs w M enc lm) {f : α → List Value} {c : Nat} {E : TypeId} {v : Value} {l : List α} (ho : OwnS f c w E v l) : v.ownBlock ≠ some M := by
  obtain ⟨es, ck, h1, _⟩ := h
  rcases ho.form with ⟨rfl, _⟩ | ⟨g, cap, rfl, _, _⟩
  · simp [Value.ownBlock]
  · obtain ⟨cur, h2, _⟩ := ho.block
    intro e
    simp only [Value.ownBlock, Option.some.injEq] at e
    subst e
    rw [h1] at h2
    cases h2
theorem mv_filter (lm : List (Tup × Nat)) (t : Tup) : mv (lm.filter (fun p => decide (p.1 ≠ t))) = mdel (mv lm) t := by
  unfold mv mdel
  rw [List.filter_map]
  rfl
theorem mv_snoc (lm : List (Tup × Nat)) (t : Tup) (n : Nat) : mv lm ++ [(t, Value.int .i64 (n : Int))] = mv (lm ++ [(t, n)]) := by
  unfold mv
  rw [List.map_append]
  rfl
theorem zeroInt (w : World) : (zeroValue 3).run Tryz.prog w = .ok (.int .i64 0) w := by
  have h1 : Tryz.t3.zero = some (.int .i64 0) := by kernel_rfl
  simp [zeroValue, h1]
theorem room64 {a n : Nat} (h : a ≤ n) (h2 : (n + 1) * 64 ≤ 140737488355328) : (a + 1) * 64 ≤ 140737488355328 ∧ a + 1 ≤ maxLen ∧ a < 576460752303423488 := by
  have h1 : (a + 1) * 64 ≤ 140737488355328 := Nat.le_trans (Nat.mul_le_mul_right 64 (by omega)) h2
  have : a + 1 ≤ (a + 1) * 64 := Nat.le_mul_of_pos_right _ (by decide)
  unfold maxLen
  exact ⟨h1, by omega, by omega⟩

set_option maxRecDepth 100000 in
set_option maxHeartbeats 3200000 in
theorem rows_any {w : World} {v : Value} {cs : List Chg} (hr : ReadS chgC 5 w v cs) (hb : (cs.length + 1) * 64 ≤ 140737488355328) :
    Calls Tryz.prog 18 #[v] w fun e w' =>
      ∃ v' l, e = .returned v' ∧ Stab.Sorted (ltOf rcmp) l ∧ Stab.Stab (ltOf rcmp) (rowsF cs) l ∧ OwnS rowC 5 w' 63 v' l ∧ Below w.heap.size w w' ∧ ∀ k, v'.ownBlock = some k → w.heap.size ≤ k := by
  obtain ⟨ao, cap, rfl, hlen⟩ := hr.form
  obtain ⟨B, hB⟩ : ∃ B, w.heap.size = B := ⟨_, rfl⟩
  obtain ⟨n, hn⟩ : ∃ n, cs.length = n := ⟨_, rfl⟩
  rw [hn] at hr hlen hb ⊢
  have HH := Lib.hid (And.intro hr (And.intro hb (And.intro hlen (And.intro hB hn))))
  clear hr hb
  go_enter Tryz.func18, Tryz.ntmps18
  have hmm := @run_makeMap Tryz.prog
  go_wp2
  clear hmm
  have hM0 := MapIs.made w encT
  have hbel0 := (Below.refl B w).alloc (by omega) (.map #[] 0)
  have hB0 : (w.alloc (.map #[] 0)).heap.size = B + 1 := by simp [hB]
  rw [hB] at hM0
  generalize hW3 : w.alloc (.map #[] 0) = W3 at *
  have HW := Lib.hid (And.intro hM0 (And.intro hbel0 hB0))
  clear hM0 hbel0 hB0 hW3
  go_loopg [3, 12] n (fun gg sv vi wx => ∃ (t : Nat) (lm : List (Tup × Nat)), t + gg = n ∧ vi = .int .i64 (t : Int) ∧ OwnS rowC 5 wx 63 sv (rowsF (cs.take t)) ∧ MapIs wx B encT (mv lm) ∧ Told (rowsF (cs.take t)) lm ∧ Below B w wx ∧ B + 1 ≤ wx.heap.size ∧ ∀ k, sv.ownBlock = some k → B + 1 ≤ k)
  case atStart => exact ⟨0, [], by omega, rfl, OwnS.nil _ _ _ _, HW.out.1, fun t i => by simp [rowsF], HW.out.2.1, by rw [HW.out.2.2]; exact Nat.le_refl _, fun k h => by simp [Value.ownBlock] at h⟩
  case round =>
    obtain ⟨t, lm, htg, rfl, hown, hmap, htold, hbel, hsz, hwh⟩ := hrel
    have HI := Lib.hid (And.intro hown (And.intro hmap (And.intro htold (And.intro hbel (And.intro hsz (And.intro hwh htg))))))
    by_cases hc : t < n
    · obtain ⟨r, hx⟩ : ∃ r, cs[t]? = some r := ⟨_, List.getElem?_eq_getElem (by omega)⟩
      obtain ⟨b, o, rfl, hrange, hbl⟩ := HH.out.1.lt (by decide) chgC_len hx
      have hrange2 : wr.rangeAt b (o + t * 5) (chgC r) := range_below hrange hbel (by omega)
      obtain ⟨rev, del, x0, x1, x2⟩ := r
      have hci : (t : Int) < (n : Int) := by omega
      have hti : (t : Int) < 9223372036854775807 := by omega
      have HC := Lib.hid (And.intro hx (And.intro hrange2 (And.intro hc hbl)))
      clear hown hmap htold hbel hsz hwh htg hx hrange hrange2 hbl hc
      go_upto_region 6 with (first
        | (refine wpList_load_mid rfl 83 (.tmp 14) rfl b (o + t * 5) rfl (chgC (rev, del, x0, x1, x2)) _ HC.out.2.1 Tryz.underlying83 rfl infoC ?_; unfold chgC))
      obtain ⟨R, hR⟩ : ∃ R, wr.heap.size = R := ⟨_, rfl⟩
      have hRb := block_new wr (.cells #[.int .i64 rev, .bool del, .string x0, .string x1, .string x2] 83)
      rw [hR] at hRb ⊢
      obtain ⟨i1, i2, i3, i4, i5, i6, i7⟩ := HI.out
      have j1 : OwnS rowC 5 (wr.alloc (.cells #[.int .i64 rev, .bool del, .string x0, .string x1, .string x2] 83)) 63 u3 (rowsF (cs.take t)) := i1.mod (S := fun _ => False) ((Mod.refl _ wr).alloc _) (fun _ _ h => h)
      have j2 := i2.alloc (.cells #[.int .i64 rev, .bool del, .string x0, .string x1, .string x2] 83)
      have j4 := i4.alloc (by omega) (.cells #[.int .i64 rev, .bool del, .string x0, .string x1, .string x2] 83)
      have j5 : R + 1 = (wr.alloc (.cells #[.int .i64 rev, .bool del, .string x0, .string x1, .string x2] 83)).heap.size := by simp [hR]
      generalize hW4 : wr.alloc (.cells #[.int .i64 rev, .bool del, .string x0, .string x1, .string x2] 83) = W4 at *
      have c0 : W4.cell? ⟨R, 0, none⟩ = some (.int .i64 rev) := cell_of hRb rfl
      have c1 : W4.cell? ⟨R, 1, none⟩ = some (.bool del) := cell_of hRb rfl
      have c2 : W4.cell? ⟨R, 2, none⟩ = some (.string x0) := cell_of hRb rfl
      have c3 : W4.cell? ⟨R, 3, none⟩ = some (.string x1) := cell_of hRb rfl
      have c4 : W4.cell? ⟨R, 4, none⟩ = some (.string x2) := cell_of hRb rfl
      have hout := rowsF_succ cs t _ HC.out.1
      have hle : (rowsF (cs.take t)).length ≤ n := by
        have h1 := rowsF_le (cs.take t)
        have h2 := HH.out.2.2.2.2
        rw [List.length_take] at h1
        omega
      have hroom := room64 hle HH.out.2.1
      have hMR : B < R := by omega
      obtain ⟨O1, hO1⟩ : ∃ O1, rowsF (cs.take t) = O1 := ⟨_, rfl⟩
      rw [hO1] at i3 j1 hout hle hroom
      have hnd : (lm.map Prod.fst).Nodup := by
        obtain ⟨es, ck, _, _, hnd, _⟩ := j2
        rw [mv_fst] at hnd
        exact hnd
      have HJ := Lib.hid (And.intro j1 (And.intro j2 (And.intro j4 (And.intro (show B + 1 ≤ R by omega) (And.intro i6 (And.intro i7 (And.intro j5 (And.intro hroom (And.intro i3 (And.intro hnd hRb))))))))))
      clear i1 i2 i4 i5 i6 i7 j4 j5 hW4 hR hle hroom hO1 HI
      by_cases hk : (x0, x1, x2) ∈ lm.map Prod.fst
      · obtain ⟨⟨_, i⟩, hm, rfl⟩ := List.mem_map.1 hk
        have hit := i3.hit hnd hm
        have hlook := MapIs.look_hit keyTup Tryz.underlying89 j2 (mem_mv hm) true
        unfold encT tupC at hlook
        simp only [if_true] at hlook
        obtain ⟨rr, hrr, _, hr0⟩ := (i3 _ i).1 hm
        have hiO : i < O1.length := (List.getElem?_eq_some_iff.1 hrr).1
        cases del with
        | true =>
          have ho2 : stepR O1 (rev, true, x0, x1, x2) = shutAt O1 i rev := by unfold stepR; rw [hit]
          have HO := Lib.hid (And.intro (hout.trans ho2) (And.intro hrr (And.intro hm (And.intro hiO hr0))))
          clear hit hrr hr0 hk hout ho2 hnd i3 j2 hm
          rcases j1.form with ⟨_, h0⟩ | ⟨g, cap3, rfl, hc1, hc2⟩
          · rw [h0] at hiO; simp at hiO
          obtain ⟨n3, hn3⟩ : ∃ n3, O1.length = n3 := ⟨_, rfl⟩
          have hi0 : (0 : Int) ≤ (i : Int) := by omega
          have hin : (i : Int) < (n3 : Int) := by omega
          have hiw : IntKind.i64.wrap (i : Int) = (i : Int) := by
            have := HJ.out.2.2.2.2.2.2.2.1.2.2
            simp [IntKind.wrap, IntKind.bits, IntKind.signed]; omega
          rw [hn3] at j1
          rw [hn3]
          have hcell4 := OwnS.cell (f := rowC) rowC_len' j1 HO.out.2.1 (j := 4) (u := .int .i64 rr.2.2) (by decide) rfl
          have hfree := OwnS.free j1 (i * 5 + 4)
          have HL := Lib.hid (And.intro j1 hn3)
          have hRb2 := hRb
          clear hiO hn3 hc1 hc2 j1 hRb
          have hrel0 := HJ.out.2.1
          have hgne : g ≠ B := fun e => by
            subst e
            exact (MapIs.own_ne HJ.out.2.1 HJ.out.1) rfl
          by_cases hz : rev = 0
          · have q : (rev != 0) = false := by simp [hz]
            have HZ := Lib.hid (And.intro hz hgne)
            clear hz hgne hrel0
            go_wp2
            go_roundg (gk - 1)
            case measure => have h1 := HJ.out; have h2 := HC.out; omega
            case rel =>
              obtain ⟨j1, j2, j3, j4, j5, j6, j7, j8, j9, j10, j11⟩ := HJ.out
              obtain ⟨o1, o2, o3, o4, o5⟩ := HO.out
              obtain ⟨l1, l2⟩ := HL.out
              have h2 := HC.out
              have hz := HZ.out.1
              have hO2 : shutAt O1 i rev = O1 := by rw [hz]; exact j9.zero o3
              have hsame : OwnS rowC 5 (W4.setCell ⟨g, i * 5 + 4, none⟩ (.int .i64 rev)) 63 (.slice (some ⟨g, 0, none⟩) n3 cap3) (O1.set i (rr.1, rr.2.1, rev)) := OwnS.set rowC_len' l1 o2 (j := 4) (by decide) rfl
              rw [← shutAt_some o2, hO2] at hsame
              exact ⟨t + 1, lm, by omega, by go_num, by rw [o1, hO2]; exact hsame, j2.setCell _ HZ.out.2, by rw [o1, hO2]; exact j9, j3.trans (((Mod.refl (fun x => x = g) W4).setCell (p := ⟨g, i * 5 + 4, none⟩) (.inl rfl) (.int .i64 rev)).to_below (by omega) (fun k hk => by have := j5 g rfl; rw [hk]; omega)), by simp only [World.size_setCell]; omega, j5⟩
          · have q : (rev != 0) = true := by rw [bne_iff_ne]; exact hz
            have hm5 : MapIs (W4.setCell ⟨g, i * 5 + 4, none⟩ (.int .i64 rev)) B encT (mv lm) := hrel0.setCell (a := ⟨g, i * 5 + 4, none⟩) (.int .i64 rev) hgne
            obtain ⟨od, hdel, hmd⟩ := hm5.delete (ty := 0) (t2 := 41) keyTup Tryz.underlying89 (x0, x1, x2)
            unfold encT tupC at hdel
            have hgR : ¬ g = R := fun e => by
              subst e
              exact own_ne HL.out.1 hRb2 (by decide) rfl
            have hRg : ¬ R = g := fun e => hgR e.symm
            have HZ := Lib.hid (And.intro hz (And.intro hgne hmd))
            clear hz hgne hm5 hmd hrel0 hRb2
            go_upto_region 10 with fail
            clear hlook
            go_wp2
            go_roundg (gk - 1)
            case measure => have h1 := HJ.out; have h2 := HC.out; omega
            case rel =>
              obtain ⟨j1, j2, j3, j4, j5, j6, j7, j8, j9, j10, j11⟩ := HJ.out
              obtain ⟨o1, o2, o3, o4, o5⟩ := HO.out
              obtain ⟨l1, l2⟩ := HL.out
              have h2 := HC.out
              obtain ⟨hz, hgne, hmd⟩ := HZ.out
              have hs := OwnS.set rowC_len' l1 o2 (j := 4) (u := .int .i64 rev) (y := (rr.1, rr.2.1, rev)) (by decide) rfl
              rw [← shutAt_some o2] at hs
              have hs2 := hs.mod (setB_mod (W4.setCell ⟨g, i * 5 + 4, none⟩ (.int .i64 rev)) B od) (fun k hk e => by
                simp only [Value.ownBlock, Option.some.injEq] at hk
                exact hgne (hk.trans e))
              have hb1 := ((Mod.refl (fun x => x = g) W4).setCell (p := ⟨g, i * 5 + 4, none⟩) (.inl rfl) (.int .i64 rev)).to_below (B := B) (by omega) (fun k hk => by have := j5 g rfl; rw [hk]; omega)
              have hb2 := (setB_mod (W4.setCell ⟨g, i * 5 + 4, none⟩ (.int .i64 rev)) B od).to_below (B := B) (by simp only [World.size_setCell]; omega) (fun k hk => by rw [hk]; exact Nat.le_refl _)
              have hsz := (setB_mod (W4.setCell ⟨g, i * 5 + 4, none⟩ (.int .i64 rev)) B od).size
              simp only [World.size_setCell] at hsz
              refine ⟨t + 1, lm.filter (fun p => decide (p.1 ≠ (x0, x1, x2))), by omega, by go_num, by rw [o1]; exact hs2, ?_, by rw [o1]; exact j9.shut j10 o3 hz, (j3.trans hb1).trans hb2, by omega, j5⟩
              rw [mv_filter]
              exact hmd
        | false =>
          have ho2 : stepR O1 (rev, false, x0, x1, x2) = O1 := by unfold stepR; rw [hit]
          have HO := Lib.hid (hout.trans ho2)
          clear hit hrr hr0 hk hout ho2 hnd i3 j2 hm hiO j1 hRb
          go_wp2
          go_roundg (gk - 1)
          case measure => have h1 := HJ.out; have h2 := HC.out; omega
          case rel =>
            obtain ⟨j1, j2, j3, j4, j5, j6, j7, j8, j9, j10, j11⟩ := HJ.out
            have h2 := HC.out
            exact ⟨t + 1, lm, by omega, by go_num, by rw [HO.out]; exact j1, j2, by rw [HO.out]; exact j9, j3, by omega, j5⟩
      · have hmiss := i3.miss hk
        have hlook := MapIs.look_miss keyTup Tryz.underlying89 j2 (k := (x0, x1, x2)) (by rw [mv_fst]; exact hk) (zeroInt W4) true
        unfold encT tupC at hlook
        simp only [if_true] at hlook
        cases del with
        | true =>
          have ho2 : stepR O1 (rev, true, x0, x1, x2) = O1 := by unfold stepR; rw [hmiss]
          have HO := Lib.hid (hout.trans ho2)
          clear hmiss hk hout ho2 hnd i3 j2 j1 hRb
          go_wp2
          go_roundg (gk - 1)
          case measure => have h1 := HJ.out; have h2 := HC.out; omega
          case rel =>
            obtain ⟨j1, j2, j3, j4, j5, j6, j7, j8, j9, j10, j11⟩ := HJ.out
            have h2 := HC.out
            exact ⟨t + 1, lm, by omega, by go_num, by rw [HO.out]; exact j1, j2, by rw [HO.out]; exact j9, j3, by omega, j5⟩
        | false =>
          have ho2 : stepR O1 (rev, false, x0, x1, x2) = O1 ++ [((x0, x1, x2), rev, 0)] := by unfold stepR; rw [hmiss]
          have HO := Lib.hid (And.intro (hout.trans ho2) hk)
          obtain ⟨ao3, n3, cap3, rfl, hn3⟩ := j1.sl
          have hn3b : (n3 : Int) < 9223372036854775807 := by have := HJ.out.2.2.2.2.2.2.2.1.2.2; omega
          obtain ⟨W5, hst, hmap5, hm5⟩ : ∃ W5, (Instr.mapUpdate 89 (.map (some B)) (encT (x0, x1, x2)) (.int .i64 (n3 : Int))).run Tryz.prog W4 = .ok () W5 ∧ MapIs W5 B encT (mput (mv lm) (x0, x1, x2) (.int .i64 (n3 : Int))) ∧ Mod (fun x => x = B) W4 W5 := by
            obtain ⟨od, h1, h2⟩ := j2.store keyTup Tryz.underlying89 (x0, x1, x2) (.int .i64 (n3 : Int))
            exact ⟨_, h1, h2, setB_mod _ _ _⟩
          unfold encT tupC at hst
          have hown5 : OwnS rowC 5 W5 63 (.slice ao3 n3 cap3) O1 := j1.mod hm5 (fun k hk e => MapIs.own_ne j2 j1 (by rw [hk, show k = B from e]))
          have hR5 := hm5.old hRb (fun e => by omega)
          have d0 : W5.cell? ⟨R, 0, none⟩ = some (.int .i64 rev) := cell_of hR5 rfl
          have d2 : W5.cell? ⟨R, 2, none⟩ = some (.string x0) := cell_of hR5 rfl
          have d3 : W5.cell? ⟨R, 3, none⟩ = some (.string x1) := cell_of hR5 rfl
          have d4 : W5.cell? ⟨R, 4, none⟩ = some (.string x2) := cell_of hR5 rfl
          have HL := Lib.hid (And.intro hown5 (And.intro hmap5 (And.intro hm5 hn3)))
          clear hmiss hk hout ho2 hnd i3 j2 j1 hRb hown5 hmap5 hm5 hR5 hn3
          go_wp2_with (first
            | (at_builtin; refine wpList_push elemRow rfl _ _ rfl rfl (OwnS.mod HL.out.1 ((Mod.refl (fun _ => False) W5).alloc _) (fun _ _ h => h)) W5.heap.size ((x0, x1, x2), rev, 0) rfl (block_new _ _) HJ.out.2.2.2.2.2.2.2.1.1 HJ.out.2.2.2.2.2.2.2.1.2.1 ?_))
          intro v' w' hown' hm' hb'
          have HK := Lib.hid (And.intro hown' (And.intro hm' hb'))
          clear hown' hm' hb'
          go_wp2
          go_roundg (gk - 1)
          case measure => have h1 := HJ.out; have h2 := HC.out; omega
          case rel =>
            obtain ⟨j1, j2, j3, j4, j5, j6, j7, j8, j9, j10, j11⟩ := HJ.out
            obtain ⟨o1, o2⟩ := HO.out
            obtain ⟨l1, l2, l3, l4⟩ := HL.out
            obtain ⟨k1, k2, k3⟩ := HK.out
            have h2 := HC.out
            have hs1 := l3.size
            have hs2 := k2.size
            simp only [World.size_alloc] at hs2
            have hb1 : Below B W4 W5 := l3.to_below (by omega) (fun k hk => by rw [show k = B from hk]; exact Nat.le_refl _)
            have hmB : MapIs w' B encT (mput (mv lm) (x0, x1, x2) (.int .i64 (n3 : Int))) := (l2.alloc _).mod k2 (fun e => MapIs.own_ne l2 l1 e.symm)
            rw [mput, if_neg (by rw [mv_fst]; exact o2), mv_snoc, ← l4] at hmB
            have ht := j9.new o2 rev
            refine ⟨t + 1, _, by omega, by go_num, by rw [o1]; exact k1, hmB, by rw [o1]; exact ht, ((j3.trans hb1).alloc (by omega) _).trans (k2.to_below (by simp only [World.size_alloc]; omega) (fun k hk => by have := j5 k hk.symm; omega)), by omega, fun k hk => by
              rcases k3 k hk with h | h
              · exact j5 k h
              · omega⟩
    · have hci : ¬ (t : Int) < (n : Int) := by omega
      have HC := Lib.hid hc
      clear hown hmap htold hbel hsz hwh htg hc
      go_wp2_with fail
      obtain ⟨i1, i2, i3, i4, i5, i6, i7⟩ := HI.out
      have hcc := HC.out
      have ht : cs.take t = cs := List.take_of_length_le (by omega)
      rw [ht] at i1
      have hle : (rowsF cs).length ≤ n := by have h1 := rowsF_le cs; omega
      refine (sortStable_row i1 (room64 hle HH.out.2.1).2.2).mono ?_
      rintro e w5 ⟨rfl, l, hs, hst, hown5, hm5⟩
      have k3 : Below B wr w5 := hm5.to_below (by omega) (fun k hk => by have := i6 k hk.symm; omega)
      have HK := Lib.hid (And.intro hs (And.intro hst (And.intro hown5 (And.intro (i4.trans k3) i6))))
      clear hs hst hown5 hm5 k3 i1 i2 i3 i4 i5 i6 i7 hcc ht hle
      go_wp2
      go_ret
      obtain ⟨h1, h2, h3, h4, h5⟩ := HK.out
      exact ⟨u3, l, rfl, h1, h2, h3, by rw [hB]; exact h4, fun k hk => by have := h5 k hk; omega⟩
end Go.Proofs.YtojjnfhgldjgbaaGreatDoor.Watch
end
