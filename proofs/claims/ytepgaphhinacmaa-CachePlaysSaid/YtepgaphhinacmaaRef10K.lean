/- porterref10: Cut, over the printed kinds. -/
import Derived.Test.YtepgaphhinacmaaPCachePlaysx3
import Derived.Test.YtepgaphhinacmaaKd
import Derived.Test.YtepgaphhinacmaaRows2
import Derived.Deep.LoopGhost
import Derived.Deep.DeepCutAuto
namespace Go.Proofs.Ytepgaphhinacmaa.Ref10K
open Go.RowKit Go.Por Go.Proofs.YtepgaphhinacmaaW.PrintWords Go.Proofs.Ytepgaphhinacmaa.PCachePlays

abbrev Pr := S59
abbrev kP := k59
def pcells (x : Pr) : List Value := [.string x.f0, .int .i64 x.f1]
theorem pcells2 (x : Pr) : (pcells x).length = 2 := rfl
theorem pcells1 (x : Pr) : ∀ u ∈ pcells x, u.oneCell' = true := by
  intro u hu
  simp only [pcells, List.mem_cons, List.not_mem_nil, or_false] at hu
  rcases hu with rfl | rfl <;> rfl
theorem kP_flat {w : World} {base : Nat} {ok : Nat → Prop} {v : Value} {xs : List Pr} :
    Kd.R kP 59 w base ok v xs ↔ (∀ k, v.ownBlock = some k → ok k) ∧ w.ownsRow base 59 2 v xs.length (xs.flatMap pcells) :=
  kd_flat rfl (fun _ _ _ _ _ => ⟨k59_openM, fun h => h ▸ k59_mkM _ _ _ _⟩) pcells2
abbrev PairsIs (w : World) (v : Value) (ps : List Pr) : Prop := OwnS pcells 2 w 59 v ps

/-- Does a text begin with another? -/
def pre (s p : ByteArray) : Bool := decide (p.size ≤ s.size ∧ s.extract 0 p.size = p)
def kept (p : ByteArray) (l : List Pr) : List Pr := l.filter fun x => !pre x.f0 p

theorem pairs_form {w : World} {v : Value} {ps : List Pr} (H : PairsIs w v ps) : ∃ a cap, v = .slice a ps.length cap ∧ (0 < ps.length → ∃ g, a = some ⟨g, 0, none⟩ ∧ g < w.heap.size) := by
  rcases H.form with ⟨rfl, rfl⟩ | ⟨g, cap, rfl, h, _⟩
  · exact ⟨none, 0, rfl, fun h => by simp at h⟩
  · exact ⟨_, cap, rfl, fun _ => ⟨g, rfl, H.lt⟩⟩
theorem kept_snoc_yes {p : ByteArray} {l : List Pr} {t : Nat} {x : Pr} (hx : l[t]? = some x) (h : pre x.f0 p = true) : kept p (l.take (t + 1)) = kept p (l.take t) := by
  rw [List.take_add_one, hx, Option.toList_some, kept, kept, List.filter_append, List.filter_cons_of_neg (by simp [h])]
  simp
theorem kept_snoc_no {p : ByteArray} {l : List Pr} {t : Nat} {x : Pr} (hx : l[t]? = some x) (h : pre x.f0 p = false) : kept p (l.take (t + 1)) = kept p (l.take t) ++ [x] := by
  rw [List.take_add_one, hx, Option.toList_some, kept, kept, List.filter_append, List.filter_cons_of_pos (by simp [h])]
  simp
theorem kept_le (p : ByteArray) (l : List Pr) (t : Nat) : (kept p (l.take t)).length ≤ t := by
  have h1 : (kept p (l.take t)).length ≤ (l.take t).length := List.length_filter_le _ _
  rw [List.length_take] at h1
  omega
theorem cells_new (w : World) (cs : List Value) (t : TypeId) : ∀ j u, cs[j]? = some u → (w.alloc (.cells cs.toArray t)).cell? ((⟨w.heap.size, 0, none⟩ : Addr).add j) = some u := by
  intro j u hu
  have e : (⟨w.heap.size, 0, none⟩ : Addr).add j = ⟨w.heap.size, j, none⟩ := by
    unfold Addr.add; split
    · rename_i e; subst e; rfl
    · simp
  rw [e]
  exact cell_of (block_new w _) (by simpa using hu)
theorem cells_two_new (w : World) (a b : Value) (t : TypeId) : ∀ j u, [a, b][j]? = some u → (w.alloc (.cells #[a, b] t)).cell? ((⟨w.heap.size, 0, none⟩ : Addr).add j) = some u := cells_new w [a, b] t
theorem infoP : (Try.prog.info? 59).map (fun i => (i.zero, i.size, i.bytes)) = some (some (.agg #[Value.string ByteArray.empty, .int .i64 0]), 2, 24) := by kernel_rfl

section
variable {w : World} {v : Value} {ps : List Pr}
set_option maxRecDepth 100000 in
set_option maxHeartbeats 1600000 in
theorem cut_any (H : PairsIs w v ps) (hlen : ps.length ≤ 4096) (s h m : Int) (k : ByteArray) :
    Calls Try.prog 28 #[.agg #[v, .int .i64 s, .int .i64 h, .int .i64 m], .string k] w fun e w' => ∃ v', e = .returned (.tuple #[.agg #[v', .int .i64 s, .int .i64 h, .int .i64 m], .int .i64 ((ps.length : Int) - (kept k ps).length)]) ∧
      w'.ownsRow w.heap.size 59 2 v' (kept k ps).length ((kept k ps).flatMap pcells) ∧ Below w.heap.size w w' := by
  obtain ⟨a, cap, rfl, hav⟩ := pairs_form H
  obtain ⟨i0, hi, hz0, hz1, hz2⟩ := info_parts infoP
  have HH := Lib.hid (And.intro H hav)
  clear H hav
  go_enter Try.func28, Try.ntmps28
  go_wp2
  obtain ⟨B, hB⟩ : ∃ B, w.heap.size = B := ⟨_, rfl⟩
  generalize hW2 : (w.alloc (.cells #[.slice a ps.length cap, .int .i64 s, .int .i64 h, .int .i64 m] 50)).alloc (.cells #[Value.slice none 0 0, .int .i64 0, .int .i64 0, .int .i64 0] 50) = W2 at *
  rw [hB]
  have hr0 : W2.heap[B]? = some (.cells #[.slice a ps.length cap, .int .i64 s, .int .i64 h, .int .i64 m] 50 (0, 0)) := by
    rw [← hW2, ← hB]; exact block_alloc (block_new w _) _
  have hr1 : W2.heap[B + 1]? = some (.cells #[.slice none 0 0, .int .i64 0, .int .i64 0, .int .i64 0] 50 (0, 0)) := by
    rw [← hW2, ← hB]
    have := block_new (w.alloc (.cells #[.slice a ps.length cap, .int .i64 s, .int .i64 h, .int .i64 m] 50)) (.cells #[Value.slice none 0 0, .int .i64 0, .int .i64 0, .int .i64 0] 50)
    rw [World.size_alloc] at this
    exact this
  have hb2 : Below B w W2 := by rw [← hW2, ← hB]; exact ((Below.refl _ w).alloc (Nat.le_refl _) _).alloc (by simp) _
  have hH2 : PairsIs W2 (.slice a ps.length cap) ps := by rw [← hW2]; exact (HH.out.1.alloc _).alloc _
  have HW := Lib.hid (And.intro hr0 (And.intro hr1 (And.intro hb2 (And.intro hH2 hB))))
  clear hr0 hr1 hb2 hH2 hW2 hB
  go_loopg [6, 7] (ps.length) (fun g vo i wx => ∃ t : Nat, t + g = ps.length ∧ i = .int .i64 (t : Int) ∧
      wx.ownsRow (B + 1 + 1) 59 2 vo (kept k (ps.take t)).length ((kept k (ps.take t)).flatMap pcells) ∧ Mod (fun x => B + 1 + 1 ≤ x) W2 wx)
  case atStart => exact ⟨0, by omega, rfl, World.ownsRow_nil _ _ _ _, Mod.refl _ _⟩
  case round =>
    obtain ⟨t, htg, rfl, hown, hmod⟩ := hrel
    obtain ⟨hr0, hr1, hb2, hH2, hB⟩ := HW.out
    have hr0' := hmod.old hr0 (by omega)
    have hr1' := hmod.old hr1 (by omega)
    have c0 : wr.cell? ⟨B, 0, none⟩ = some (.slice a ps.length cap) := cell_of hr0' rfl
    have hkl := kept_le k ps t
    by_cases hg : gk = 0
    · have hk0 : ¬ ((t : Int) < (ps.length : Int)) := by omega
      have htl : t = ps.length := by omega
      rw [htl, List.take_length] at hown hkl
      have hkl2 : (kept k ps).length ≤ 4096 := by omega
      have e1 : wr.cell? ⟨B, 1, none⟩ = some (.int .i64 s) := cell_of hr0' rfl
      have e2 : wr.cell? ⟨B, 2, none⟩ = some (.int .i64 h) := cell_of hr0' rfl
      have e3 : wr.cell? ⟨B, 3, none⟩ = some (.int .i64 m) := cell_of hr0' rfl
      have q0 : wr.cell? ⟨B + 1, 0, none⟩ = some (.slice none 0 0) := cell_of hr1' rfl
      have q1 : wr.cell? ⟨B + 1, 1, none⟩ = some (.int .i64 0) := cell_of hr1' rfl
      have q2 : wr.cell? ⟨B + 1, 2, none⟩ = some (.int .i64 0) := cell_of hr1' rfl
      have q3 : wr.cell? ⟨B + 1, 3, none⟩ = some (.int .i64 0) := cell_of hr1' rfl
      have qf0 := fun i => free_of (i := i) hr0'
      have qf1 := fun i => free_of (i := i) hr1'
      obtain ⟨ao, co, rfl⟩ : ∃ ao co, u6 = .slice ao (kept k ps).length co := by
        obtain ⟨_, ⟨rfl, h⟩ | ⟨g, cap', cur, rfl, _⟩⟩ := hown
        · rw [h]
          exact ⟨_, _, rfl⟩
        · exact ⟨_, _, rfl⟩
      have HE := Lib.hid (And.intro hown hmod)
      clear hown hmod htg hg hr0 hr1 hb2 hH2 hB hr0' hr1' htl hkl
      go_wp2
      obtain ⟨hr0, hr1, hb2, hH2, hB⟩ := HW.out
      obtain ⟨hown, hmod⟩ := HE.out
      subst hB
      refine bodyPost_ret (v := .tuple #[.agg #[.slice ao (kept k ps).length co, .int .i64 s, .int .i64 h, .int .i64 m], .int .i64 ((ps.length : Int) - (kept k ps).length)]) (by simp [results, Try.results28, go_sem, q0, q1, q2, q3]) rfl ⟨_, rfl, ?_⟩
      have hn := hown.lt
      have hbw := hb2.trans (hmod.to_below hb2.size (fun x hx => by omega))
      have hbf := ((((hbw.setCell (Nat.le_refl _) (p := ⟨w.heap.size, 0, none⟩) (.slice ao (kept k ps).length co)).setCell (Nat.le_succ _) (p := ⟨w.heap.size + 1, 0, none⟩) (.slice ao (kept k ps).length co)).setCell (Nat.le_succ _) (p := ⟨w.heap.size + 1, 1, none⟩) (.int .i64 s)).setCell (Nat.le_succ _) (p := ⟨w.heap.size + 1, 2, none⟩) (.int .i64 h)).setCell (Nat.le_succ _) (p := ⟨w.heap.size + 1, 3, none⟩) (.int .i64 m)
      have hmf := (((((Mod.refl (fun x => x = w.heap.size ∨ x = w.heap.size + 1) wr).setCell (.inl (.inl rfl)) (p := ⟨w.heap.size, 0, none⟩) (.slice ao (kept k ps).length co)).setCell (.inl (.inr rfl)) (p := ⟨w.heap.size + 1, 0, none⟩) (.slice ao (kept k ps).length co)).setCell (.inl (.inr rfl)) (p := ⟨w.heap.size + 1, 1, none⟩) (.int .i64 s)).setCell (.inl (.inr rfl)) (p := ⟨w.heap.size + 1, 2, none⟩) (.int .i64 h)).setCell (.inl (.inr rfl)) (p := ⟨w.heap.size + 1, 3, none⟩) (.int .i64 m)
      have hR : wr.ownsRow w.heap.size 59 2 (.slice ao (kept k ps).length co) (kept k ps).length ((kept k ps).flatMap pcells) := by
        obtain ⟨g1, g2⟩ := hown
        refine ⟨g1, ?_⟩
        rcases g2 with g2 | ⟨g, c, cur, g3, g5, g4⟩
        · exact .inl g2
        · exact .inr ⟨g, c, cur, g3, by omega, g4⟩
      exact ⟨hmf.row hR (fun x hx h => by have := (hn x hx).1; omega), hbf⟩
    · have ht : t < ps.length := by omega
      obtain ⟨x, hx⟩ : ∃ x, ps[t]? = some x := ⟨_, List.getElem?_eq_getElem ht⟩
      obtain ⟨g, rfl, hgB⟩ := HH.out.2 (by omega)
      have hHr := hH2.mod hmod (fun x hx h => by
        simp only [Value.ownBlock, Option.some.injEq] at hx
        omega)
      have y0 : wr.cell? ⟨g, t * 2, none⟩ = some (.string x.f0) := OwnS.cell pcells2 hHr hx (j := 0) (by omega) rfl
      have y1 : wr.cell? ⟨g, t * 2 + 1, none⟩ = some (.int .i64 x.f1) := OwnS.cell pcells2 hHr hx (j := 1) (by omega) rfl
      have hsz := hmod.size
      have HE := Lib.hid (And.intro hown (And.intro hmod (And.intro htg hx)))
      clear hown hmod htg hg hr0 hr1 hb2 hH2 hB hr0' hr1' hx hHr
      have HOD := Lib.hid HE.out.1
      by_cases hsz1 : x.f0.size < k.size
      · have hp : pre x.f0 k = false := by unfold pre; simp; omega
        have HP := Lib.hid hp
        clear hp
        go_wp2_with (first
            | (at_builtin; refine wpList_append_own _ rfl _ _ 48 rfl (B + 1 + 1) 59 i0 (.agg #[Value.string ByteArray.empty, .int .i64 0]) 2 24 Try.underlying48 hi hz0 hz1 hz2 rfl (by decide) _ _ _ rfl (HOD.out.alloc _) ⟨wr.heap.size, 0, none⟩ 1 1 [.string x.f0, .int .i64 x.f1] rfl rfl ?c1 ?c2 ?c3 ?c4 ?c5 ?_))
        case c1 => exact cells_two_new _ _ _ _
        case c2 => exact pcells1 x
        case c3 => unfold maxLen; omega
        case c4 => omega
        case c5 => exact Nat.le_trans (by have := (lt_block HW.out.2.1); omega) (Nat.le_trans hsz (by simp))
        · intro v' w1 hown' hgrow _
          have HS := Lib.hid (And.intro hown' hgrow)
          clear hown' hgrow
          go_wp2
          go_roundg (gk - 1)
          case measure => have := HE.out.2.2.1; omega
          case rel =>
            obtain ⟨hown, hmod, htg, hx⟩ := HE.out
            refine ⟨t + 1, by omega, by go_num, ?_, (hmod.alloc (.cells #[.string x.f0, .int .i64 x.f1] 59)).trans (Mod.of_grown HS.out.2) (fun y hy => .inl ((hown.lt y hy.symm).1))⟩
            rw [kept_snoc_no hx HP.out, List.length_append, List.flatMap_append]
            exact HS.out.1
      · have hsz2 : (k.size : Int) ≤ (x.f0.size : Int) := by omega
        by_cases hq : x.f0.extract 0 k.size = k
        · have hp : pre x.f0 k = true := by unfold pre; simp [hq]; omega
          have hk1 : (!(x.f0.extract 0 k.size).toList == k.toList) = false := by rw [hq]; simp
          have HP := Lib.hid (And.intro hp hq)
          clear hp hq
          go_wp2
          go_roundg (gk - 1)
          case measure => have := HE.out.2.2.1; omega
          case rel =>
            obtain ⟨hown, hmod, htg, hx⟩ := HE.out
            refine ⟨t + 1, by omega, by go_num, ?_, hmod⟩
            rw [kept_snoc_yes hx HP.out.1]
            exact hown
        · have hp : pre x.f0 k = false := by unfold pre; simp [hq]
          have hk1 : (!(x.f0.extract 0 k.size).toList == k.toList) = true := by
            rw [beq_no hq]; rfl
          have HP := Lib.hid (And.intro hp hq)
          clear hp hq
          go_wp2_with (first
            | (at_builtin; refine wpList_append_own _ rfl _ _ 48 rfl (B + 1 + 1) 59 i0 (.agg #[Value.string ByteArray.empty, .int .i64 0]) 2 24 Try.underlying48 hi hz0 hz1 hz2 rfl (by decide) _ _ _ rfl (HOD.out.alloc _) ⟨wr.heap.size, 0, none⟩ 1 1 [.string x.f0, .int .i64 x.f1] rfl rfl ?d1 ?d2 ?d3 ?d4 ?d5 ?_))
          case d1 => exact cells_two_new _ _ _ _
          case d2 => exact pcells1 x
          case d3 => unfold maxLen; omega
          case d4 => omega
          case d5 => exact Nat.le_trans (by have := (lt_block HW.out.2.1); omega) (Nat.le_trans hsz (by simp))
          · intro v' w1 hown' hgrow _
            have HS := Lib.hid (And.intro hown' hgrow)
            clear hown' hgrow
            go_wp2
            go_roundg (gk - 1)
            case measure => have := HE.out.2.2.1; omega
            case rel =>
              obtain ⟨hown, hmod, htg, hx⟩ := HE.out
              refine ⟨t + 1, by omega, by go_num, ?_, (hmod.alloc (.cells #[.string x.f0, .int .i64 x.f1] 59)).trans (Mod.of_grown HS.out.2) (fun y hy => .inl ((hown.lt y hy.symm).1))⟩
              rw [kept_snoc_no hx HP.out.1, List.length_append, List.flatMap_append]
              exact HS.out.1
end
end Go.Proofs.Ytepgaphhinacmaa.Ref10K
