/- The store's rows, sorted: the comparator, SortFunc at rows. -/
import Derived.Test.YtojjnfhgldjgbaaDoorStoreP
import Derived.Test.YtojjnfhgldjgbaaDoorShelfS
import Derived.Test.YtojjnfhgldjgbaaDoorStabW
set_option linter.unusedVariables false
set_option linter.unusedSimpArgs false
namespace Go.Proofs.YtojjnfhgldjgbaaDoor.Store
open Go.RowKit Go.Por Go.Sort Go.Proofs.YtojjnfhgldjgbaaDoor.Watch
/-- The order of the store's rows. -/
def rcm (a b : RowT) : Int := if tcmp a.1 b.1 ≠ 0 then tcmp a.1 b.1 else min (max (a.2.1 - b.2.1) (-1)) 1
theorem rcm_neg {a b : RowT} : rcm a b < 0 ↔ rlt a b := by
  unfold rcm rlt
  by_cases h : a.1 = b.1
  · rw [if_neg (by simp [tcmp_zero.2 h])]
    constructor
    · intro k; exact .inr ⟨h, by omega⟩
    · rintro (k | ⟨_, k⟩)
      · rw [h] at k; exact absurd k (tlt_irrefl _)
      · omega
  · rw [if_pos (fun e => h (tcmp_zero.1 e)), tcmp_neg]
    exact ⟨.inl, fun k => k.elim id (fun k => absurd k.1 h)⟩
theorem rlt_cases (a b : RowT) : rlt a b ∨ (a.1 = b.1 ∧ a.2.1 = b.2.1) ∨ rlt b a := by
  unfold rlt
  rcases tlt_total a.1 b.1 with h | h | h
  · exact .inl (.inl h)
  · rcases Int.lt_trichotomy a.2.1 b.2.1 with k | k | k
    · exact .inl (.inr ⟨h, k⟩)
    · exact .inr (.inl ⟨h, k⟩)
    · exact .inr (.inr (.inr ⟨h.symm, k⟩))
  · exact .inr (.inr (.inl h))
theorem rlt_same {a b c : RowT} (h : a.1 = b.1 ∧ a.2.1 = b.2.1) : rlt a c ↔ rlt b c := by unfold rlt; rw [h.1, h.2]
/-- Rows whose revision is in bounds. -/
abbrev RB := { r : RowT // 0 ≤ r.2.1 ∧ r.2.1 ≤ maxRev }
instance : Inhabited RB := ⟨⟨((⟨#[]⟩, ⟨#[]⟩, ⟨#[]⟩), 0, 0), by decide⟩⟩
theorem rbSwo : SWO (ltOf (fun a b : RB => rcm a.1 b.1)) := by
  have e : ∀ x y : RB, ltOf (fun a b : RB => rcm a.1 b.1) x y = true ↔ rlt x.1 y.1 := fun x y => by
    unfold ltOf
    rw [decide_eq_true_iff]
    exact rcm_neg
  refine ⟨fun x => ?_, fun x y z h k => ?_, fun x y z h k => ?_⟩
  · cases hh : ltOf (fun a b : RB => rcm a.1 b.1) x x with
    | false => rfl
    | true => exact absurd ((e x x).1 hh) (rlt_irrefl _)
  · exact (e x z).2 (rlt_trans ((e x y).1 h) ((e y z).1 k))
  · cases hh : ltOf (fun a b : RB => rcm a.1 b.1) x z with
    | false => rfl
    | true =>
      have h1 := (e x z).1 hh
      have n1 : ¬ rlt x.1 y.1 := fun q => by rw [(e x y).2 q] at h; cases h
      have n2 : ¬ rlt y.1 z.1 := fun q => by rw [(e y z).2 q] at k; cases k
      rcases rlt_cases x.1 y.1 with q | q | q
      · exact absurd q n1
      · exact absurd ((rlt_same q).1 h1) n2
      · exact absurd (rlt_trans q h1) n2
set_option maxRecDepth 100000 in
set_option maxHeartbeats 800000 in
theorem rowcmp_any (a b : RB) (w : World) : Calls Tryd.prog 19 #[.agg (rowC a.1).toArray, .agg (rowC b.1).toArray] w fun e w' => e = .returned (.int .i64 (rcm a.1 b.1)) ∧ Gr w w' := by
  obtain ⟨⟨⟨a0, a1, a2⟩, ar, au⟩, ha1, ha2⟩ := a
  obtain ⟨⟨⟨b0, b1, b2⟩, br, bu⟩, hb1, hb2⟩ := b
  simp only at ha1 ha2 hb1 hb2
  unfold maxRev at ha2 hb2
  unfold rowC rcm
  have hc := fun w => compare_any (a0, a1, a2) (b0, b1, b2) w
  unfold tupC at hc
  obtain ⟨n, hn⟩ : ∃ n, tcmp (a0, a1, a2) (b0, b1, b2) = n := ⟨_, rfl⟩
  rw [hn] at hc
  simp only
  rw [hn]
  have HC := Lib.hid hc
  clear hc hn
  obtain ⟨B, hB⟩ : ∃ B, w.heap.size = B := ⟨_, rfl⟩
  obtain ⟨W2, hW2⟩ : ∃ W2, (w.alloc (.cells #[.string a0, .string a1, .string a2, .int .i64 ar, .int .i64 au] 36)).alloc (.cells #[.string b0, .string b1, .string b2, .int .i64 br, .int .i64 bu] 36) = W2 := ⟨_, rfl⟩
  have hg : Gr w W2 := by rw [← hW2]; exact ((Gr.refl w).alloc _).alloc _
  have p0 : W2.heap[B]? = some (.cells #[.string a0, .string a1, .string a2, .int .i64 ar, .int .i64 au] 36 (0, 0)) := by rw [← hW2, ← hB]; exact block_alloc (block_new w _) _
  have p1 : W2.heap[B + 1]? = some (.cells #[.string b0, .string b1, .string b2, .int .i64 br, .int .i64 bu] 36 (0, 0)) := by
    rw [← hW2, ← hB]
    have := block_new (w.alloc (.cells #[.string a0, .string a1, .string a2, .int .i64 ar, .int .i64 au] 36)) (.cells #[.string b0, .string b1, .string b2, .int .i64 br, .int .i64 bu] 36)
    rw [World.size_alloc] at this
    exact this
  have HW := Lib.hid (And.intro p0 (And.intro p1 hg))
  clear p0 p1 hg
  go_enter Tryd.func19, Tryd.ntmps19
  go_upto_region 1 with fail
  clear hW2 hB
  have x0 : W2.cell? ⟨B, 0, none⟩ = some (.string a0) := cell_of HW.out.1 rfl
  have x1 : W2.cell? ⟨B, 1, none⟩ = some (.string a1) := cell_of HW.out.1 rfl
  have x2 : W2.cell? ⟨B, 2, none⟩ = some (.string a2) := cell_of HW.out.1 rfl
  have y0 : W2.cell? ⟨B + 1, 0, none⟩ = some (.string b0) := cell_of HW.out.2.1 rfl
  have y1 : W2.cell? ⟨B + 1, 1, none⟩ = some (.string b1) := cell_of HW.out.2.1 rfl
  have y2 : W2.cell? ⟨B + 1, 2, none⟩ = some (.string b2) := cell_of HW.out.2.1 rfl
  go_wp2_with fail
  clear x0 x1 x2 y0 y1 y2
  ((with_reducible refine (HC.out _).mono ?_); rintro e w1 ⟨rfl, hg⟩)
  have m1 : Mod (fun _ => False) W2 w1 := Mod.of_below hg.below _
  have c0 := cell_of (i := 3) (m1.old HW.out.1 id) rfl
  have c1 := cell_of (i := 3) (m1.old HW.out.2.1 id) rfl
  have HG := Lib.hid (HW.out.2.2.trans hg)
  clear hg m1
  by_cases hn : n = 0
  · subst hn
    have hd : -1125899906842624 ≤ ar - br ∧ ar - br ≤ 1125899906842624 := by omega
    have hw : wrap64 (ar - br) = ar - br := by unfold wrap64; omega
    go_wp2
    go_ret
    exact ⟨by simp, HG.out⟩
  · have hn' : (n == 0) = false := by simp [hn]
    go_wp2
    go_ret
    exact ⟨by simp [hn], HG.out⟩
theorem aggRow : ∀ w, (isAgg 36).run Tryd.prog w = .ok true w := fun w => by kernel_rfl
theorem sizeRow : ∀ w, (Go.sizeOf 36).run Tryd.prog w = .ok 5 w := fun w => by kernel_rfl
theorem sort_rows {w : World} {v : Value} {l : List RowT} (h : OwnS rowC 5 w 36 v l) (hl : l.length < 4611686018427387904) (hb : ∀ r ∈ l, 0 ≤ r.2.1 ∧ r.2.1 ≤ maxRev) :
    Calls Tryd.prog 18 #[v, .func (.func 19) #[] #[]] w fun e w' =>
      e = .returned (.tuple #[]) ∧ ∃ l' : List RowT, l'.Perm l ∧ l'.Pairwise (fun x y => ¬ rlt y x) ∧ OwnS rowC 5 w' 36 v l' ∧ Mod (fun x => some x = v.ownBlock) w w' := by
  rcases h.form with ⟨rfl, rfl⟩ | ⟨g, cap, rfl, hc1, hc2⟩
  · refine (AnyF.slices_SortFunc_none Tryd.laysSortRow none 0 _ w).mono ?_
    rintro e w' ⟨he, rfl⟩
    exact ⟨he, [], .refl _, List.Pairwise.nil, h, Mod.refl _ _⟩
  · obtain ⟨m, hm⟩ : ∃ m : List RB, m.map Subtype.val = l := ⟨l.attachWith _ hb, List.attachWith_map_subtype_val hb⟩
    have hml : m.length = l.length := by rw [← hm, List.length_map]
    have hf : ∀ x : RB, ((fun x : RB => rowC x.1) x).length = 5 := fun x => rowC_len' x.1
    have hone : ∀ x : RB, ∀ u ∈ (fun x : RB => rowC x.1) x, u.oneCell' = true := fun x => rowC_ones x.1
    have tr : ∀ (W : World) (m : List RB) (l : List RowT) (v : Value), m.map Subtype.val = l → (OwnS (fun x : RB => rowC x.1) 5 W 36 v m ↔ OwnS rowC 5 W 36 v l) := fun W m l v e => by
      subst e
      unfold OwnS
      rw [List.length_map, List.flatMap_map]
    have h' := (tr w m l _ hm).2 h
    rw [← hml] at h' hl ⊢
    have eg : ∀ args w, (callFunc 19 args).run Tryd.prog w = .ok (.enter 19 args) w := enters_of Tryd.func19 (by kernel_rfl) rfl
    have hcon := AnyQ.slices_SortFunc Tryd.laysSortRow 5 aggRow sizeRow (fun x : RB => rowC x.1) hf hone (fun a b : RB => rcm a.1 b.1) rbSwo 19 #[] g 0 cap m.toArray w eg (fun _ _ _ _ x y => rowcmp_any x y _) (h'.holds hf) h'.lt (by simpa using hl)
    refine hcon.mono ?_
    rintro e w' ⟨he, d', n, os, hp, hs, rfl⟩
    have hperm := hp.2.2
    have hlen : d'.toList.length = m.length := by have := hp.1; simpa using this
    have e1 : (d'.extract 0 m.toArray.size).toList = d'.toList := by
      have := hp.1
      simp only [List.size_toArray] at this ⊢
      rw [← this]
      simp
    have e2 : (m.toArray.extract 0 m.toArray.size).toList = m := by simp
    rw [e1, e2] at hperm
    have hso := h'.sorted hf (l' := d'.toList) hlen n os
    rw [Array.toArray_toList] at hso
    refine ⟨he, d'.toList.map Subtype.val, by rw [← hm]; exact hperm.map _, ?_, (tr _ _ _ _ rfl).1 hso.1, hso.2.mono (fun x _ hx => by rw [show x = g from hx]; rfl)⟩
    rw [List.pairwise_map]
    refine List.pairwise_iff_getElem.2 (fun i j hi hj hij => ?_)
    have hsz : d'.size = m.toArray.size := hp.1
    have h1 := hs i j (Nat.zero_le _) hij (by rw [← hsz, ← Array.length_toList]; exact hj)
    intro hlt
    rw [getElem!_pos d' i (by rw [← Array.length_toList]; exact hi), getElem!_pos d' j (by rw [← Array.length_toList]; exact hj)] at h1
    unfold ltOf at h1
    have h2 := of_decide_eq_false h1
    exact h2 (rcm_neg.2 (by simpa using hlt))
end Go.Proofs.YtojjnfhgldjgbaaDoor.Store
