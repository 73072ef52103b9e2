/- porterlaw07.StoreKeeps: the walk. -/
import Derived.Test.YtojjnfhgldjgbaaDoorAwakeS
import Derived.Test.YtojjnfhgldjgbaaDoorApartL
import Derived.Test.YtojjnfhgldjgbaaDoorKeepM
set_option linter.unusedVariables false
set_option linter.unusedSimpArgs false
namespace Go.Proofs.YtojjnfhgldjgbaaDoor.Store
open Go.RowKit Go.Por Go.Sort Go.Proofs.YtojjnfhgldjgbaaDoor.Watch Go.Por.Tupl
def xS : ByteArray := ⟨#[120, 58, 120]⟩
def zM : Mut := (false, docA, viewerS, xS)
theorem mutC_ones (x : Mut) : ∀ u ∈ mutC x, u.oneCell' = true := fun v hv => by
  simp only [mutC, List.mem_cons, List.not_mem_nil, or_false] at hv
  rcases hv with rfl | rfl | rfl | rfl <;> rfl
theorem nil_form {α : Type} {f : α → List Value} {c : Nat} {w : World} {E : TypeId} {v : Value} {l : List α} (h : OwnS f c w E v l) : NilOk v := by
  rcases h.form with ⟨rfl, _⟩ | ⟨g, cap, rfl, _, _⟩
  · exact .inl rfl
  · exact .inr ⟨_, _, _, rfl⟩
theorem own_cap {α : Type} {f : α → List Value} {c : Nat} {w : World} {E : TypeId} {v : Value} {l : List α} (h : OwnS f c w E v l) : ∃ ao n cap, v = .slice ao n cap ∧ l.length = n ∧ n ≤ cap ∧ (0 < n → ∃ g, ao = some ⟨g, 0, none⟩) := by
  rcases h.form with ⟨rfl, rfl⟩ | ⟨g, cap, rfl, h1, _⟩
  · exact ⟨none, 0, 0, rfl, rfl, Nat.le_refl _, fun h => absurd h (Nat.lt_irrefl _)⟩
  · exact ⟨_, _, cap, rfl, rfl, h1, fun _ => ⟨g, rfl⟩⟩
theorem elemMut : Elem Tryd.prog 22 30 mutC 4 56 :=
  Elem.mk' (z := .agg #[.bool false, .string ByteArray.empty, .string ByteArray.empty, .string ByteArray.empty]) Tryd.underlying22 (by kernel_rfl) rfl mutC_len mutC_ones (by decide)
theorem own_lit0 {α : Type} (f : α → List Value) (c : Nat) (w : World) (E : TypeId) : OwnS f c (w.alloc (.cells #[] E)) E (.slice (some ⟨w.heap.size, 0, none⟩) 0 0) [] :=
  World.ownsRow_lit (base := 0) w #[] 0 (Nat.zero_le _) (Nat.zero_le _) (by simp)
theorem room_b {n : Nat} (h : n ≤ 1048576) : (n + 1) * 56 ≤ 140737488355328 ∧ n + 1 ≤ maxLen := by unfold maxLen; omega
def z0R : RowT := ((ByteArray.empty, ByteArray.empty, ByteArray.empty), 0, 0)
theorem flat_small {rev : Int} {muts : List Mut} (h : checkA [] 0 rev muts = 0) : (flatA (applyA rev [] muts)).length ≤ muts.length := by
  classical
  have h1 := nodup_length (flat_nodup (good_of_check h)) (flat_fresh h)
  rwa [List.length_map] at h1
theorem own_blk_lt {α : Type} {f : α → List Value} {c : Nat} {w : World} {E : TypeId} {v : Value} {l : List α} (h : OwnS f c w E v l) {k : Nat} (hk : v.ownBlock = some k) : k < w.heap.size := by
  rcases h.form with ⟨rfl, _⟩ | ⟨g, cap, rfl, _, _⟩
  · simp [Value.ownBlock] at hk
  · simp only [Value.ownBlock, Option.some.injEq] at hk
    rw [← hk]
    exact h.lt
def z0M : Mut := (false, ByteArray.empty, ByteArray.empty, ByteArray.empty)
set_option maxRecDepth 100000 in
set_option maxHeartbeats 1600000 in
theorem keeps_any {w : World} {v : Value} {muts : List Mut} (hr : ReadS mutC 4 w v muts) (hvb : muts ≠ [] → ∀ k, v.ownBlock = some k → k < w.heap.size) (hnil : NilOk v) (hok : ∀ m ∈ muts, TupOk m.2) (hlen : muts.length ≤ 1048576) :
    Calls Tryd.prog 3 #[v] w fun e w' => e = .returned (.bool true) ∧ Below w.heap.size w w' := by
  obtain ⟨ao, ca, rfl, _⟩ := hr.form
  obtain ⟨n, hn⟩ : ∃ n, muts.length = n := ⟨_, rfl⟩
  obtain ⟨B, hB⟩ : ∃ B, w.heap.size = B := ⟨_, rfl⟩
  rw [hn] at hr hvb hnil hlen ⊢
  rw [hB] at hvb ⊢
  have hv0 : Value.slice ao n ca = .slice ao n ca := rfl
  have HH := Lib.hid (And.intro hr (And.intro hvb (And.intro hnil (And.intro hok (And.intro hlen (And.intro hn hB))))))
  have hn1 : (n : Int) ≤ 1048576 := by omega
  have hn2 : (0 : Int) ≤ (n : Int) := by omega
  clear hr hvb hnil hok hlen hn
  go_enter Tryd.func3, Tryd.ntmps3
  go_wp2_with fail
  refine (awake_any _).mono ?_
  rintro e w1 ⟨rfl, b1⟩
  rw [hB] at b1
  have B1 := Lib.hid b1
  clear b1
  go_wp2_with fail
  refine (new_any _).mono ?_
  rintro e w2 ⟨s, rfl, ⟨O, U, M, MO, MU, lm, lo, lu, h2, e1, e2, e3⟩, b2⟩
  have hsh : Short 0 lm lo lu := ⟨fun k => by rw [e1]; exact Nat.le_refl _, fun k => by rw [e2]; exact Nat.le_refl _, fun k => by rw [e3]; exact Nat.le_refl _⟩
  have hB1 : B ≤ w1.heap.size := by have := B1.out.size; omega
  have bb2 : Below B w w2 := B1.out.trans (b2.mono hB1)
  have rr2 : ReadS mutC 4 w2 (.slice ao n ca) muts := HH.out.1.mod (by decide) mutC_len (Mod.of_below (show Below w.heap.size w w2 by rw [hB]; exact bb2) (fun _ => False)) (fun _ _ h => h)
  have z2 := b2.size
  have H2 := Lib.hid (And.intro h2 (And.intro (And.intro e1 (And.intro e2 e3)) (And.intro hsh (And.intro bb2 (And.intro rr2 (And.intro hB1 z2))))))
  clear h2 e1 e2 e3 b2 hsh bb2 rr2 hB1 z2 hB
  go_wp2_with (first
    | (at_builtin; refine wpList_pushAll elemMut rfl _ _ rfl rfl (own_lit0 mutC 4 w2 30) rfl (H2.out.2.2.2.2.1.mod (S := fun _ => False) (by decide) mutC_len ((Mod.refl _ w2).alloc _) (fun _ _ h => h)) HH.out.2.2.1 ?c1 ?c2 ?_))
  case c1 =>
    have h1 := HH.out.2.2.2.2.1
    have h2 := HH.out.2.2.2.2.2.1
    simp only [List.length_nil]
    omega
  case c2 =>
    have h1 := HH.out.2.2.2.2.1
    have h2 := HH.out.2.2.2.2.2.1
    unfold maxLen
    simp only [List.length_nil]
    omega
  intro v3 w3 ho3 hk3 hb3
  have b3 : Below w2.heap.size w2 w3 := ((Below.refl _ w2).alloc (Nat.le_refl _) _).trans (hk3.to_below (by simp) (fun k hk => by simp only [Value.ownBlock, Option.some.injEq] at hk; omega))
  have o3 : ∀ k, v3.ownBlock = some k → w2.heap.size ≤ k := fun k hk => by
    rcases hb3 k hk with h | h
    · simp only [Value.ownBlock, Option.some.injEq] at h; omega
    · omega
  have H3 := Lib.hid (And.intro (show OwnS mutC 4 w3 30 v3 muts from ho3) (And.intro b3 o3))
  clear ho3 hk3 hb3 b3 o3
  go_wp2_with fail
  refine (viewer_any _ _).mono ?_
  rintro e w4 ⟨rfl, b4⟩
  have hz2 : w2.heap.size ≤ w3.heap.size := H3.out.2.1.size
  have m34 := Mod.of_below b4 (fun _ => False)
  have H4 := Lib.hid (And.intro (OwnS.mod (S := fun _ => False) H3.out.1 m34 (fun _ _ h => h)) (And.intro (H3.out.2.1.trans (b4.mono hz2)) (show w2.heap.size ≤ w4.heap.size by have := b4.size; omega)))
  clear b4 hz2 m34
  go_wp2_with (first
    | (at_builtin; refine wpList_push elemMut rfl _ _ rfl rfl (OwnS.mod (S := fun _ => False) H4.out.1 ((Mod.refl _ w4).alloc _) (fun _ _ h => h)) w4.heap.size zM rfl (block_new _ _) (by rw [HH.out.2.2.2.2.2.1]; exact (room_b HH.out.2.2.2.2.1).1) (by rw [HH.out.2.2.2.2.2.1]; exact (room_b HH.out.2.2.2.2.1).2) ?_))
  intro v5 w5 ho5 hk5 hb5
  have b5 : Below w2.heap.size w4 w5 := ((Below.refl _ w4).alloc H4.out.2.2 _).trans (hk5.to_below (by have := H4.out.2.2; simp only [World.size_alloc]; omega) (fun k hk => H3.out.2.2 k hk.symm))
  have o5 : ∀ k, v5.ownBlock = some k → w2.heap.size ≤ k := fun k hk => by
    rcases hb5 k hk with h | h
    · exact H3.out.2.2 k h
    · have := H4.out.2.2; omega
  have e5 : (muts ++ [zM]).length = n + 1 := by rw [List.length_append, HH.out.2.2.2.2.2.1]; rfl
  obtain ⟨g, cap, rfl, hc5, hd5⟩ := OwnS.some_of ho5 (by omega)
  rw [e5] at hc5 ho5
  rw [e5]
  have hg2 := o5 g rfl
  have hg5 := ho5.lt
  have b25 : Below w2.heap.size w2 w5 := H4.out.2.1.trans b5
  have m25 := Mod.of_below b25 (fun _ => False)
  obtain ⟨q1, q2, q3, q4, q5, q6, q7⟩ := H2.out
  have rr5 : ReadS mutC 4 w5 (.slice ao n ca) muts := q5.mod (by decide) mutC_len m25 (fun _ _ h => h)
  have st5 := q1.below b25
  have bb5 : Below B w w5 := q4.trans (b25.mono (by omega))
  have mm5 : ReadS mutC 4 w5 (.slice (some ⟨g, 0, none⟩) n cap) muts := by
    have := OwnS.front mutC_len ho5
    rw [HH.out.2.2.2.2.2.1] at this
    exact this
  have H5 := Lib.hid (And.intro ho5 (And.intro rr5 (And.intro st5 (And.intro bb5 (And.intro mm5 (And.intro hg2 hg5))))))
  have hcI : (n : Int) + 1 ≤ (cap : Int) := by omega
  clear ho5 hk5 hb5 b5 o5 e5 hc5 hd5 hg2 hg5 b25 m25 q1 q2 q3 q4 q5 q6 q7 rr5 st5 bb5 mm5
  go_wp2_with fail
  refine (apply_mem H5.out.2.2.1 H2.out.2.2.1 H5.out.2.2.2.2.1 (fun _ k hk hF => by simp only [Value.ownBlock, Option.some.injEq] at hk; have h1 := H5.out.2.2.2.2.2.1; omega) HH.out.2.2.2.1 (by have := HH.out.2.2.2.2.1; have := HH.out.2.2.2.2.2.1; omega) 1).mono ?_
  rintro e w6 ⟨rfl, lm6, lo6, lu6, h6, p6, s6, m6⟩
  rw [H2.out.2.1.1, H2.out.2.1.2.1, H2.out.2.1.2.2] at p6
  have own6 := H5.out.1.mod m6 (fun k hk hF => by simp only [Value.ownBlock, Option.some.injEq] at hk; have h1 := H5.out.2.2.2.2.2.1; omega)
  have rr6 : ReadS mutC 4 w6 (.slice ao n ca) muts := by
    by_cases hne : muts = []
    · have : n = 0 := by rw [← HH.out.2.2.2.2.2.1, hne]; rfl
      subst this
      rw [hne]
      exact ⟨ao, ca, rfl, Nat.zero_le _, by simp⟩
    · exact H5.out.2.1.mod (by decide) mutC_len m6 (fun k hk hF => by have h1 := HH.out.2.1 hne k hk; have h2 := H2.out.2.2.2.2.2.1; omega)
  have b6 : Below B w w6 := H5.out.2.2.2.1.trans (m6.to_below (by have h1 := H2.out.2.2.2.2.2.1; have h2 := H2.out.2.2.2.2.2.2; have h3 := H5.out.2.2.2.2.2.1; have h4 := H5.out.2.2.2.2.2.2; omega) (fun k hk => by have h1 := H2.out.2.2.2.2.2.1; omega))
  have ek : (smc lm6 = applyA 1 [] muts ∧ checkA [] 0 1 muts = 0) ∨ smc lm6 = [] := by
    by_cases hq : checkA [] 0 1 muts = 0
    · rw [if_pos hq] at p6
      exact .inl ⟨by rw [show smc lm6 = (apply3 1 ([], [], []) muts).1 from congrArg (fun x : St3 => x.1) p6, apply3_fst], hq⟩
    · rw [if_neg hq] at p6
      exact .inr (congrArg (fun x : St3 => x.1) p6)
  have H6 := Lib.hid (And.intro h6 (And.intro ek (And.intro own6 (And.intro rr6 (And.intro b6 (show B ≤ w6.heap.size ∧ w5.heap.size ≤ w6.heap.size by have h1 := H2.out.2.2.2.2.2.1; have h2 := H2.out.2.2.2.2.2.2; have h3 := H5.out.2.2.2.2.2.1; have h4 := H5.out.2.2.2.2.2.2; have h5 := m6.size; omega))))))
  clear h6 p6 s6 m6 ek own6 rr6 b6
  obtain ⟨qq, hqq⟩ : ∃ q, checkA (smc lm) 0 1 muts = q := ⟨_, rfl⟩
  rw [hqq]
  clear hqq
  go_wp2
  go_loopg [5, 27] n (fun gg v5 vi wx => ∃ (t : Nat) (L : List Mut), t + gg = n ∧ vi = .int .i64 (t : Int) ∧ L.length = n + 1 ∧ (∀ j, t ≤ j → L[j]? = (muts ++ [zM])[j]?) ∧ OwnS mutC 4 wx 30 (.slice (some ⟨g, 0, none⟩) (n + 1) cap) L ∧ Mod (fun k => k = g) w6 wx)
  case atStart => exact ⟨0, muts ++ [zM], by omega, rfl, by rw [List.length_append, HH.out.2.2.2.2.2.1]; rfl, fun j _ => rfl, H6.out.2.2.1, Mod.refl _ _⟩
  case round =>
    obtain ⟨t, L, htg, rfl, hL, hLj, hown, hmod⟩ := hrel
    by_cases hc : t < n
    · have hci : (t : Int) < (n : Int) := by omega
      have ht0 : (0 : Int) ≤ (t : Int) := by omega
      have htb : (t : Int) < 9223372036854775807 := by omega
      obtain ⟨x, hx⟩ : ∃ x, muts[t]? = some x := ⟨_, List.getElem?_eq_getElem (by rw [HH.out.2.2.2.2.2.1]; exact hc)⟩
      have hne : muts ≠ [] := List.ne_nil_of_mem (List.mem_of_getElem? hx)
      have hxL : L[t]? = some x := by rw [hLj t (Nat.le_refl _), List.getElem?_append_left (by rw [HH.out.2.2.2.2.2.1]; exact hc)]; exact hx
      have r1 := OwnS.range mutC_len hown hxL
      have hrr := H6.out.2.2.2.1.mod (by decide) mutC_len hmod (fun k hk e => by have h1 := HH.out.2.1 hne k hk; have h2 := H5.out.2.2.2.2.2.1; have h3 := H2.out.2.2.2.2.2.1; have h4 := H2.out.2.2.2.2.2.2; omega)
      obtain ⟨b2, o2, rfl, r2, lt2⟩ := hrr.lt (by decide) mutC_len hx
      have lt1 := hown.lt
      obtain ⟨cx, hcx⟩ : ∃ cx, mutC x = cx := ⟨_, rfl⟩
      have hx4 : cx.length = 4 := by rw [← hcx]; rfl
      have hq : ∀ w, (Op.equal 30 (.agg cx.toArray) (.agg cx.toArray)).run Tryd.prog w = .ok true w := fun w => by
        rw [← hcx]
        have := eqMut x x w
        rwa [decide_eq_true rfl] at this
      rw [hcx] at r1 r2
      have hs := fun wr' (h : OwnS mutC 4 wr' 30 (.slice (some ⟨g, 0, none⟩) (n + 1) cap) L) => OwnS.store mutC_len h (i := t) (by omega) z0M
      have hth := fun wr' (h : OwnS mutC 4 wr' 30 (.slice (some ⟨g, 0, none⟩) (n + 1) cap) L) => OwnS.there h (i := t) (by omega)
      have HQ := Lib.hid hq
      have HX := Lib.hid (And.intro hx4 (And.intro r1 (And.intro lt1 (And.intro r2 lt2))))
      have HE := Lib.hid (And.intro htg (And.intro hL (And.intro hLj (And.intro hown (And.intro hmod (And.intro hc (And.intro hs hth)))))))
      clear htg hL hLj hown hmod hc hx hne hxL r1 hrr r2 lt1 lt2 hcx hx4 hq hs hth
      go_wp2_with fail
      refine wp_region_held_drew (S := fun w' => Below wr.heap.size wr w') (by kernel_rfl) ((Below.refl _ wr).drew) (fun hS => ?_)
      refine takeD (i := 0) rfl (by kernel_rfl) (by kernel_rfl) (by kernel_rfl) (fun _ _ _ h => h) hS (Or.inl ⟨by rfl, fun w hSw => by go_simp; rfl⟩) ?_
      simp only [Act.put, List.setIfInBounds_toArray, List.set_cons_zero, List.set_cons_succ]
      refine takeD (i := 1) rfl (by kernel_rfl) (by kernel_rfl) (by kernel_rfl) (fun _ _ _ h => h) hS (Or.inl ⟨by rfl, fun w hSw => by go_simp; rfl⟩) ?_
      simp only [Act.put, List.setIfInBounds_toArray, List.set_cons_zero, List.set_cons_succ]
      refine takeD (i := 2) (v := .pointer (some ⟨g, t * 4, none⟩)) rfl (by kernel_rfl) (by kernel_rfl) (by kernel_rfl) (fun _ _ _ h => h) hS (Or.inl ⟨by rfl, fun w hSw => by go_simp⟩) ?_
      simp only [Act.put, List.setIfInBounds_toArray, List.set_cons_zero, List.set_cons_succ]
      refine takeD (i := 3) rfl (by kernel_rfl) (by kernel_rfl) (by kernel_rfl) (fun _ _ _ h => h) hS (yieldsIf_load_mid (by rfl) 30 (.tmp 32) rfl g (t * 4) rfl cx _ (fun w hSw => range_below HX.out.2.1 hSw HX.out.2.2.1) Tryd.underlying30 rfl (by rw [HX.out.1]; exact infoMut0)) ?_
      simp only [Act.put, List.setIfInBounds_toArray, List.set_cons_zero, List.set_cons_succ]
      refine takeD (i := 4) rfl (by kernel_rfl) (by kernel_rfl) (by kernel_rfl) (fun _ _ _ h => h) hS (Or.inl ⟨by rfl, fun w hSw => by go_simp; rfl⟩) ?_
      simp only [Act.put, List.setIfInBounds_toArray, List.set_cons_zero, List.set_cons_succ]
      refine takeD (i := 5) rfl (by kernel_rfl) (by kernel_rfl) (by kernel_rfl) (fun _ _ _ h => h) hS (Or.inl ⟨by rfl, fun w hSw => by go_simp; rfl⟩) ?_
      simp only [Act.put, List.setIfInBounds_toArray, List.set_cons_zero, List.set_cons_succ]
      refine takeD (i := 6) rfl (by kernel_rfl) (by kernel_rfl) (by kernel_rfl) (fun _ _ _ h => h) hS (Or.inl ⟨by rfl, fun w hSw => by go_simp; rfl⟩) ?_
      simp only [Act.put, List.setIfInBounds_toArray, List.set_cons_zero, List.set_cons_succ]
      refine takeD (i := 7) rfl (by kernel_rfl) (by kernel_rfl) (by kernel_rfl) (fun _ _ _ h => h) hS (yieldsIf_load_mid (by rfl) 30 (.tmp 36) rfl b2 (o2 + t * 4) rfl cx _ (fun w hSw => range_below HX.out.2.2.2.1 hSw HX.out.2.2.2.2) Tryd.underlying30 rfl (by rw [HX.out.1]; exact infoMut0)) ?_
      simp only [Act.put, List.setIfInBounds_toArray, List.set_cons_zero, List.set_cons_succ]
      refine takeD (i := 8) rfl (by kernel_rfl) (by kernel_rfl) (by kernel_rfl) (fun _ _ _ h => h) hS (yields_neS (by rfl) 30 (.tmp 33) (.tmp 37) _ rfl cx.toArray cx.toArray rfl rfl (by kernel_rfl) true HQ.out) ?_
      simp only [Act.put, List.setIfInBounds_toArray, List.set_cons_zero, List.set_cons_succ]
      refine wpAnyH_done (by kernel_rfl) ?_ _
      clear hS
      simp only [Bool.not_true]
      obtain ⟨wd, hwd⟩ : ∃ wd, wr.drew = wd := ⟨_, rfl⟩
      have hmw : Mod (fun _ => False) wr wd := by rw [← hwd]; exact (Mod.refl _ wr).drew
      rw [hwd]
      have hownd := HE.out.2.2.2.1.mod hmw (fun _ _ h => h)
      obtain ⟨cz, hcz⟩ : ∃ cz, mutC z0M = cz := ⟨_, rfl⟩
      have hs := HE.out.2.2.2.2.2.2.1 wd hownd
      have hth := HE.out.2.2.2.2.2.2.2 wd hownd
      have hz1 : cz.toArray.all (·.oneCell') = true := by rw [← hcz]; exact all_oneCell_toArray (mutC_ones z0M)
      have hz4 : cz.length = 4 := by rw [← hcz]; rfl
      have hzv : (Value.agg #[.bool false, .string ByteArray.empty, .string ByteArray.empty, .string ByteArray.empty]) = .agg cz.toArray := by rw [← hcz]; rfl
      rw [hcz] at hs
      have HC := Lib.hid (And.intro hs (And.intro hth (And.intro hz1 (And.intro hz4 (And.intro hzv hmw)))))
      clear hs hth hz1 hz4 hzv hcz hwd hmw hownd
      go_wp2_with (first
        | (refine wpList_store_mid rfl 30 (.tmp 42) (.tmp 41) rfl g (t * 4) cz.toArray rfl HC.out.2.2.2.2.1 (by rw [List.size_toArray, HC.out.2.2.2.1]; exact HC.out.2.1) (by rw [List.size_toArray, HC.out.2.2.2.1]; exact infoMut0) HC.out.2.2.1 ?_))
      go_roundg (gk - 1)
      case measure => have h1 := HE.out.1; have h2 := HE.out.2.2.2.2.2.1; omega
      case rel =>
        obtain ⟨k1, k2, k3, k4, k5, k6, _, _⟩ := HE.out
        obtain ⟨c1, c2, c3, c4, c5, c6⟩ := HC.out
        refine ⟨t + 1, L.set t z0M, by omega, by go_num, by rw [List.length_set]; exact k2, fun j hj => ?_, c1, ?_⟩
        · rw [List.getElem?_set_ne (by omega)]
          exact k3 j (by omega)
        · exact (k5.trans' (c6.mono (fun _ _ h => h.elim))).trans' (Mod.setCells (S := fun x => x = g) (.inl rfl) cz (t * 4) (Mod.refl _ _))
    · have hci : ¬ (t : Int) < (n : Int) := by omega
      have htn : t = n := by omega
      subst htn
      have hxL : L[t]? = some zM := by rw [hLj t (Nat.le_refl _), List.getElem?_append_right (by rw [HH.out.2.2.2.2.2.1]; exact Nat.le_refl _), HH.out.2.2.2.2.2.1, Nat.sub_self]; rfl
      have r1 := OwnS.range mutC_len hown hxL
      have r1' : wr.rangeAt g (t * 4 + 1) [.string docA, .string viewerS, .string xS] := fun j u hu => by
        have := r1 (j + 1) u hu
        rwa [show t * 4 + (j + 1) = t * 4 + 1 + j by omega] at this
      have lt1 := hown.lt
      have hS6 := H6.out.1.mod hmod (fun b hb e => by
        have h1 := H5.out.2.2.2.2.2.1
        have h2 := H5.out.2.2.2.2.2.2
        have h3 := H2.out.2.2.2.2.2.2
        rcases hb with hb | hb
        · omega
        · omega)
      have bw : Below B w wr := H6.out.2.2.2.2.1.trans (hmod.to_below H6.out.2.2.2.2.2.1 (fun k hk => by have h1 := H5.out.2.2.2.2.2.1; have h3 := H2.out.2.2.2.2.2.2; have h4 := H2.out.2.2.2.2.2.1; omega))
      have HM := Lib.hid (And.intro r1' (And.intro lt1 (And.intro hS6 (And.intro bw (Nat.le_trans H6.out.2.2.2.2.2.1 hmod.size)))))
      clear htg hL hLj hown hmod hc hxL r1 r1' lt1 hS6 bw
      go_wp2_with fail
      refine wp_region_held_drew (S := fun w' => Below wr.heap.size wr w') (by kernel_rfl) ((Below.refl _ wr).drew) (fun hS => ?_)
      refine takeD (i := 0) rfl (by kernel_rfl) (by kernel_rfl) (by kernel_rfl) (fun _ _ _ h => h) hS (Or.inl ⟨by rfl, fun w hSw => by go_simp; rfl⟩) ?_
      simp only [Act.put, List.setIfInBounds_toArray, List.set_cons_zero, List.set_cons_succ]
      refine takeD (i := 1) rfl (by kernel_rfl) (by kernel_rfl) (by kernel_rfl) (fun _ _ _ h => h) hS (Or.inl ⟨by rfl, fun w hSw => by go_simp; rfl⟩) ?_
      simp only [Act.put, List.setIfInBounds_toArray, List.set_cons_zero, List.set_cons_succ]
      refine takeD (i := 2) rfl (by kernel_rfl) (by kernel_rfl) (by kernel_rfl) (fun _ _ _ h => h) hS (Or.inl ⟨by rfl, fun w hSw => by go_simp; rfl⟩) ?_
      simp only [Act.put, List.setIfInBounds_toArray, List.set_cons_zero, List.set_cons_succ]
      refine takeD (i := 3) (v := .int .i64 ((t : Int) + 1)) rfl (by kernel_rfl) (by kernel_rfl) (by kernel_rfl) (fun _ _ _ h => h) hS (Or.inl ⟨by rfl, fun w hSw => by go_simp; rw [IntKind.wrap_i64]; omega⟩) ?_
      simp only [Act.put, List.setIfInBounds_toArray, List.set_cons_zero, List.set_cons_succ]
      refine takeD (i := 4) (v := .slice (some ⟨g, 0, none⟩) (t + 1) cap) rfl (by kernel_rfl) (by kernel_rfl) (by kernel_rfl) (fun _ _ _ h => h) hS (Or.inl ⟨by rfl, fun w hSw => by have h1 : ((t : Int) + 1).toNat = t + 1 := (by omega); go_simp; exact fun hh => absurd hh (by omega)⟩) ?_
      simp only [Act.put, List.setIfInBounds_toArray, List.set_cons_zero, List.set_cons_succ]
      refine takeD (i := 5) rfl (by kernel_rfl) (by kernel_rfl) (by kernel_rfl) (fun _ _ _ h => h) hS (Or.inl ⟨by rfl, fun w hSw => by go_simp; rfl⟩) ?_
      simp only [Act.put, List.setIfInBounds_toArray, List.set_cons_zero, List.set_cons_succ]
      refine takeD (i := 6) rfl (by kernel_rfl) (by kernel_rfl) (by kernel_rfl) (fun _ _ _ h => h) hS (Or.inl ⟨by rfl, fun w hSw => by go_simp; rfl⟩) ?_
      simp only [Act.put, List.setIfInBounds_toArray, List.set_cons_zero, List.set_cons_succ]
      refine takeD (i := 7) (v := .pointer (some ⟨g, t * 4, none⟩)) rfl (by kernel_rfl) (by kernel_rfl) (by kernel_rfl) (fun _ _ _ h => h) hS (Or.inl ⟨by rfl, fun w hSw => by go_simp; exact fun hh => absurd hh (by omega)⟩) ?_
      simp only [Act.put, List.setIfInBounds_toArray, List.set_cons_zero, List.set_cons_succ]
      refine takeD (i := 8) (v := .pointer (some ⟨g, t * 4 + 1, none⟩)) rfl (by kernel_rfl) (by kernel_rfl) (by kernel_rfl) (fun _ _ _ h => h) hS (Or.inl ⟨by rfl, fun w hSw => by go_simp⟩) ?_
      simp only [Act.put, List.setIfInBounds_toArray, List.set_cons_zero, List.set_cons_succ]
      refine takeD (i := 9) rfl (by kernel_rfl) (by kernel_rfl) (by kernel_rfl) (fun _ _ _ h => h) hS (yieldsIf_load_mid (by rfl) 27 (.tmp 52) rfl g (t * 4 + 1) rfl [.string docA, .string viewerS, .string xS] _ (fun w hSw => range_below HM.out.1 hSw HM.out.2.1) Tryd.underlying27 rfl infoTup0) ?_
      simp only [Act.put, List.setIfInBounds_toArray, List.set_cons_zero, List.set_cons_succ]
      refine wpAnyH_ready (rs := [10]) (by kernel_rfl) (by simp) ?_
      refine consD (i := 10) rfl (fun K hK => ?_) AllReadyH.nil
      rw [if_pos (by rfl)]
      go_simp
      refine (viewer_any _ _).mono ?_
      rintro e w7 ⟨rfl, b7⟩
      have hS7 : Below wr.heap.size wr w7 := ((Below.refl _ wr).drew).trans b7
      dsimp only
      refine hK.out _ _ hS7 (fun hS => ?_)
      clear hK K
      refine takeD (i := 11) rfl (by kernel_rfl) (by kernel_rfl) (by kernel_rfl) (fun _ _ _ h => h) hS (yields_neS (by rfl) 27 (.tmp 53) (.tmp 54) _ rfl (tupC (docA, viewerS, xS)).toArray (tupC (docA, viewerS, xS)).toArray rfl rfl (by kernel_rfl) true (fun w => by have := eqTup (docA, viewerS, xS) (docA, viewerS, xS) w; rwa [decide_eq_true rfl] at this)) ?_
      simp only [Act.put, List.setIfInBounds_toArray, List.set_cons_zero, List.set_cons_succ]
      refine wpAnyH_done (by kernel_rfl) ?_ _
      simp only [Bool.not_true]
      have st7 := HM.out.2.2.1.below hS7
      have bw7 : Below B w w7 := HM.out.2.2.2.1.trans (hS7.mono HM.out.2.2.2.2)
      have H7 := Lib.hid (And.intro st7 (And.intro bw7 (show B ≤ w7.heap.size by have h1 := HM.out.2.2.2.2; have h2 := hS7.size; omega)))
      clear hS hS7 b7 st7 bw7
      have hroom : ((flatA (smc lm6)).length + 1) * 64 ≤ 140737488355328 ∧ (∀ r ∈ flatA (smc lm6), 0 ≤ r.2.1 ∧ r.2.1 ≤ maxRev) ∧ Good (smc lm6) ∧ (flatA (smc lm6)).length ≤ 1048576 := by
        rcases H6.out.2.1 with ⟨e, hq⟩ | e
        · rw [e]
          have hl : muts.length ≤ 1048576 := by have := HH.out.2.2.2.2.1; have := HH.out.2.2.2.2.2.1; omega
          exact ⟨flat_room hq hl, flat_revs hq, good_of_check hq, Nat.le_trans (flat_small hq) hl⟩
        · rw [e]
          exact ⟨by decide, fun r hr => (by cases hr), Good.nil, by decide⟩
      have HR := Lib.hid hroom
      clear hroom
      go_wp2_with fail
      refine (rows_mem H7.out.1 HR.out.1 HR.out.2.1).mono ?_
      rintro e w8 ⟨v8, rfl, l8, p8, s8, o8, b8, n8⟩
      have st8 := H7.out.1.below b8
      have bw8 : Below B w w8 := H7.out.2.1.trans (b8.mono H7.out.2.2)
      have hl8 : l8.length ≤ 1048576 := by rw [p8.length_eq]; exact HR.out.2.2.2
      have H8 := Lib.hid (And.intro p8 (And.intro s8 (And.intro o8 (And.intro st8 (And.intro bw8 (And.intro (show B ≤ w8.heap.size ∧ w7.heap.size ≤ w8.heap.size by have h1 := H7.out.2.2; have h2 := b8.size; omega) (And.intro n8 hl8)))))))
      clear p8 s8 o8 st8 bw8 n8 hl8 b8
      go_wp2_with (first
        | (at_builtin; refine wpList_pushAll elemRow rfl _ _ rfl rfl (own_lit0 rowC 5 w8 36) rfl ((H8.out.2.2.1.read rowC_len').mod (S := fun _ => False) (by decide) rowC_len' ((Mod.refl _ w8).alloc _) (fun _ _ h => h)) (nil_form H8.out.2.2.1) ?c1 ?c2 ?_))
      case c1 =>
        have h1 := H8.out.2.2.2.2.2.2.2
        simp only [List.length_nil]
        omega
      case c2 =>
        have h1 := H8.out.2.2.2.2.2.2.2
        unfold maxLen
        simp only [List.length_nil]
        omega
      intro v9 w9 ho9 hk9 hb9
      have b9 : Below w8.heap.size w8 w9 := ((Below.refl _ w8).alloc (Nat.le_refl _) _).trans (hk9.to_below (by simp) (fun k hk => by simp only [Value.ownBlock, Option.some.injEq] at hk; omega))
      have o9 : ∀ k, v9.ownBlock = some k → w8.heap.size ≤ k := fun k hk => by
        rcases hb9 k hk with h | h
        · simp only [Value.ownBlock, Option.some.injEq] at h; omega
        · omega
      have m9 := Mod.of_below b9 (fun _ => False)
      have H9 := Lib.hid (And.intro (show OwnS rowC 5 w9 36 v9 l8 from ho9) (And.intro o9 (And.intro (H8.out.2.2.1.mod (S := fun _ => False) m9 (fun _ _ h => h)) (And.intro (H8.out.2.2.2.1.below b9) (And.intro (H8.out.2.2.2.2.1.trans (b9.mono H8.out.2.2.2.2.2.1.1)) (show w8.heap.size ≤ w9.heap.size from b9.size))))))
      clear ho9 hk9 hb9 b9 o9 m9
      obtain ⟨ao8, n8, cap8, rfl, hn8, hc8, hg8⟩ := own_cap H8.out.2.2.1
      have hn8' : n8 ≤ 1048576 := by have := H8.out.2.2.2.2.2.2.2; omega
      have hn8a : (0 : Int) ≤ (n8 : Int) := by omega
      have HN := Lib.hid (And.intro hn8 (And.intro hg8 hn8'))
      clear hn8 hg8 hn8'
      go_wp2_with fail
      go_loopg [8, 63] n8 (fun gg v5 vi wx => ∃ (t : Nat) (L : List RowT), t + gg = n8 ∧ vi = .int .i64 (t : Int) ∧ L.length = n8 ∧ OwnS rowC 5 wx 36 (.slice ao8 n8 cap8) L ∧ Mod (fun k => some k = (Value.slice ao8 n8 cap8).ownBlock) w9 wx)
      case atStart => exact ⟨0, l8, by omega, rfl, HN.out.1, H9.out.2.2.1, Mod.refl _ _⟩
      case round =>
        obtain ⟨t2, L2, htg, rfl, hL, hown, hmod⟩ := hrel
        by_cases hc : t2 < n8
        · obtain ⟨g8, rfl⟩ := HN.out.2.1 (by omega)
          have hci2 : (t2 : Int) < (n8 : Int) := by omega
          have ht0 : (0 : Int) ≤ (t2 : Int) := by omega
          have htb : (t2 : Int) < 9223372036854775807 := by have := HN.out.2.2; omega
          have hs := OwnS.store rowC_len' hown (i := t2) (by omega) z0R
          have hth := OwnS.there hown (i := t2) (by omega)
          obtain ⟨cz, hcz⟩ : ∃ cz, rowC z0R = cz := ⟨_, rfl⟩
          have hz1 : cz.toArray.all (·.oneCell') = true := by rw [← hcz]; exact all_oneCell_toArray (rowC_ones z0R)
          have hz5 : cz.length = 5 := by rw [← hcz]; rfl
          have hzv : (Value.agg #[.string ByteArray.empty, .string ByteArray.empty, .string ByteArray.empty, .int .i64 0, .int .i64 0]) = .agg cz.toArray := by rw [← hcz]; rfl
          rw [hcz] at hs
          have HC := Lib.hid (And.intro hc (And.intro htg (And.intro hL (And.intro hs (And.intro hmod (And.intro hth (And.intro hz1 (And.intro hz5 hzv))))))))
          clear hc htg hL hs hmod hth hown hz1 hz5 hzv hcz hci
          go_wp2_with (first
            | (refine wpList_store_mid rfl 36 (.tmp 69) (.tmp 68) rfl g8 (t2 * 5) cz.toArray rfl HC.out.2.2.2.2.2.2.2.2 (by rw [List.size_toArray, HC.out.2.2.2.2.2.2.2.1]; exact HC.out.2.2.2.2.2.1) (by rw [List.size_toArray, HC.out.2.2.2.2.2.2.2.1]; exact infoRow0) HC.out.2.2.2.2.2.2.1 ?_))
          go_roundg (gk - 1)
          case measure => have h1 := HC.out.1; have h2 := HC.out.2.1; omega
          case rel =>
            obtain ⟨k1, k2, k3, k4, k5, k6, k7⟩ := HC.out
            exact ⟨t2 + 1, L2.set t2 z0R, by omega, by go_num, by rw [List.length_set]; exact k3, k4, k5.trans' (Mod.setCells (S := fun x => some x = (Value.slice (some ⟨g8, 0, none⟩) n8 cap8).ownBlock) (.inl rfl) cz (t2 * 5) (Mod.refl _ _))⟩
        · have hci2 : ¬ (t2 : Int) < (n8 : Int) := by omega
          have f1 : ∀ k, some k = (Value.slice ao8 n8 cap8).ownBlock → w7.heap.size ≤ k := fun k hk => H8.out.2.2.2.2.2.2.1 k hk.symm
          have hst := H9.out.2.2.2.1.mod hmod (fun b hb e => by have h1 := f1 b e; have h2 := H7.out.1.lt b hb; omega)
          have ho9 := H9.out.1.mod hmod (fun k hk e => by
            have h1 := H9.out.2.1 k hk
            have h2 : k < w8.heap.size := own_blk_lt H8.out.2.2.1 e.symm
            omega)
          have bw : Below B w wr := H9.out.2.2.2.2.1.trans (hmod.to_below (by have h1 := H8.out.2.2.2.2.2.1.1; have h2 := H9.out.2.2.2.2.2; omega) (fun k hk => by have h1 := f1 k hk; have h2 := H7.out.2.2; omega))
          have hBw : B ≤ wr.heap.size := by have h1 := H8.out.2.2.2.2.2.1.1; have h2 := H9.out.2.2.2.2.2; have h3 := hmod.size; omega
          have HW := Lib.hid (And.intro hst (And.intro ho9 (And.intro bw hBw)))
          clear htg hL hown hmod hc f1 hst ho9 bw hBw hci
          go_wp2_with fail
          refine (rows_mem HW.out.1 HR.out.1 HR.out.2.1).mono ?_
          rintro e w10 ⟨v10, rfl, l10, p10, s10, o10, b10, n10⟩
          have el : l10 = l8 := rows_uniq HR.out.2.2.1 p10 s10 H8.out.1 H8.out.2.1
          have H10 := Lib.hid (And.intro el (And.intro o10 (And.intro (HW.out.2.1.mod (S := fun _ => False) (Mod.of_below b10 (fun _ => False)) (fun _ _ h => h)) (And.intro (HW.out.2.2.1.trans (b10.mono HW.out.2.2.2)) (show B ≤ w10.heap.size by have h1 := HW.out.2.2.2; have h2 := b10.size; omega)))))
          clear el p10 s10 o10 b10 n10
          go_wp2_with fail
          refine (same07_any (H10.out.2.1.read rowC_len') (H10.out.2.2.1.read rowC_len')).mono ?_
          rintro e w11 ⟨rfl, m11⟩
          rw [decide_eq_true H10.out.1]
          have HK := Lib.hid (H10.out.2.2.2.1.trans (m11.to_below H10.out.2.2.2.2 (fun _ h => h.elim)))
          clear m11
          go_wp2
          go_ret
          exact ⟨rfl, HK.out⟩
end Go.Proofs.YtojjnfhgldjgbaaDoor.Store
