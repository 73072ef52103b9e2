/- porterref13: what the document says of the outbox: Ack. -/
import Derived.Test.YtepgaphhinacmaaRef13A
namespace Go.Proofs.Ytepgaphhinacmaa.Ref13
open Go.RowKit Go.Por Go.Proofs.Ytepgaphhinacmaa.OutOI

def rack (items : List It) (k : ByteArray) : List It := items.filter (fun x => decide (x.1 ≠ k))

section
variable {w : World} {v : Value} {items : List It}
set_option maxRecDepth 100000 in
set_option maxHeartbeats 1600000 in
theorem ack_any (H : RefIs w v items) (hlen : items.length ≤ 4096) (now p s : Int) (k : ByteArray) :
    Calls Try.prog 45 #[refVal v now p s, .string k] w fun e w' => ∃ v', e = .returned (.tuple #[refVal v' now p s, .bool (decide ((rack items k).length < items.length))]) ∧
      RefIs w' v' (rack items k) ∧ (∀ x, v'.ownBlock = some x → w.heap.size ≤ x) ∧ Below w.heap.size w w' := by
  obtain ⟨i0, hi, hz0, hz1, hz2⟩ := info_parts infoR
  obtain ⟨a, cap, hv, hav⟩ : ∃ a cap, v = .slice a items.length cap ∧ (0 < items.length → ∃ g, a = some ⟨g, 0, none⟩ ∧ g < w.heap.size) := by
    rcases H.form with ⟨rfl, rfl⟩ | ⟨g, cap, rfl, h, _⟩
    · exact ⟨none, 0, rfl, fun h => by simp at h⟩
    · exact ⟨_, cap, rfl, fun _ => ⟨g, rfl, H.lt⟩⟩
  subst hv
  have HH := Lib.hid (And.intro H hav)
  clear H hav
  unfold refVal
  go_enter Try.func45, Try.ntmps45
  go_upto_region 1 with fail
  generalize hB : w.heap.size = B at *
  generalize hW2 : ((w.alloc _).alloc (.cells #[Value.slice none 0 0, .int .i64 0, .int .i64 0, .int .i64 0] 84)) = W2 at *
  have hs2 : W2.heap.size = B + 1 + 1 := by rw [← hW2]; simp [hB]
  have hr0 : W2.heap[B]? = some (.cells #[.slice a items.length cap, .int .i64 now, .int .i64 p, .int .i64 s] 84 (0, 0)) := by
    rw [← hW2, ← hB]; exact block_alloc (block_new w _) _
  have hr1 : W2.heap[B + 1]? = some (.cells #[.slice none 0 0, .int .i64 0, .int .i64 0, .int .i64 0] 84 (0, 0)) := by
    rw [← hW2, ← hB]
    have := block_new (w.alloc (.cells #[.slice a items.length cap, .int .i64 now, .int .i64 p, .int .i64 s] 84)) (.cells #[Value.slice none 0 0, .int .i64 0, .int .i64 0, .int .i64 0] 84)
    rw [World.size_alloc] at this
    exact this
  have hb2 : Below B w W2 := by rw [← hW2, ← hB]; exact ((Below.refl _ w).alloc (Nat.le_refl _) _).alloc (by simp) _
  have hH2 : RefIs W2 (.slice a items.length cap) items := by rw [← hW2]; exact (HH.out.1.alloc _).alloc _
  have HW := Lib.hid (And.intro hr0 (And.intro hr1 (And.intro hb2 (And.intro hH2 hB))))
  clear hr0 hr1 hb2 hH2 hW2 hB
  go_wp2
  go_loopg [6, 7] (items.length) (fun g vo i wx => ∃ t : Nat, t + g = items.length ∧ i = .int .i64 (t : Int) ∧
      wx.ownsRow (B + 1 + 1) 92 3 vo (rack (items.take t) k).length ((rack (items.take t) k).flatMap cells) ∧ Mod (fun x => B + 1 + 1 ≤ x) W2 wx)
  case atStart => exact ⟨0, by omega, rfl, World.ownsRow_nil _ _ _ _, Mod.refl _ _⟩
  case round =>
    obtain ⟨t, htg, rfl, hown, hmod⟩ := hrel
    obtain ⟨hr0, hr1, hb2, hH2, hB⟩ := HW.out
    have hr0' := hmod.old hr0 (by omega)
    have hr1' := hmod.old hr1 (by omega)
    have c0 : wr.cell? ⟨B, 0, none⟩ = some (.slice a items.length cap) := cell_of hr0' rfl
    by_cases hg : gk = 0
    · have hk0 : ¬ ((t : Int) < (items.length : Int)) := by omega
      have htl : t = items.length := by omega
      rw [htl, List.take_length] at hown
      obtain ⟨a', cap', rfl⟩ : ∃ a' cap', u6 = .slice a' (rack items k).length cap' := by
        obtain ⟨_, ⟨rfl, h⟩ | ⟨g, cap', cur, rfl, _⟩⟩ := hown
        · exact ⟨none, 0, by rw [h]⟩
        · exact ⟨some ⟨g, 0, none⟩, cap', rfl⟩
      have e1 : wr.cell? ⟨B, 1, none⟩ = some (.int .i64 now) := cell_of hr0' rfl
      have e2 : wr.cell? ⟨B, 2, none⟩ = some (.int .i64 p) := cell_of hr0' rfl
      have e3 : wr.cell? ⟨B, 3, none⟩ = some (.int .i64 s) := cell_of hr0' rfl
      have q0 : wr.cell? ⟨B + 1, 0, none⟩ = some (.slice none 0 0) := cell_of hr1' rfl
      have q1 : wr.cell? ⟨B + 1, 1, none⟩ = some (.int .i64 0) := cell_of hr1' rfl
      have q2 : wr.cell? ⟨B + 1, 2, none⟩ = some (.int .i64 0) := cell_of hr1' rfl
      have q3 : wr.cell? ⟨B + 1, 3, none⟩ = some (.int .i64 0) := cell_of hr1' rfl
      have qf0 := fun i => free_of (i := i) hr0'
      have qf1 := fun i => free_of (i := i) hr1'
      have HE := Lib.hid (And.intro hown hmod)
      generalize hm : (rack items k).length = m at *
      have HM := Lib.hid hm
      clear hown hmod htg hg hr0 hr1 hb2 hH2 hB hr0' hr1' hm htl
      go_wp2
      obtain ⟨hr0, hr1, hb2, hH2, hB⟩ := HW.out
      obtain ⟨hown, hmod⟩ := HE.out
      subst hB
      have hm := HM.out
      subst hm
      have hn := hown.lt
      refine bodyPost_ret (v := .tuple #[refVal (.slice a' (rack items k).length cap') now p s, .bool (decide ((rack items k).length < items.length))]) (by simp [results, Try.results45, go_sem, refVal, q0, q1, q2, q3]) rfl ⟨.slice a' (rack items k).length cap', rfl, ?_⟩
      have hbw := hb2.trans (hmod.to_below hb2.size (fun x hx => by omega))
      have hbf := ((((hbw.setCell (Nat.le_refl _) (p := ⟨w.heap.size, 0, none⟩) (.slice a' (rack items k).length cap')).setCell (Nat.le_succ _) (p := ⟨w.heap.size + 1, 0, none⟩) (.slice a' (rack items k).length cap')).setCell (Nat.le_succ _) (p := ⟨w.heap.size + 1, 1, none⟩) (.int .i64 now)).setCell (Nat.le_succ _) (p := ⟨w.heap.size + 1, 2, none⟩) (.int .i64 p)).setCell (Nat.le_succ _) (p := ⟨w.heap.size + 1, 3, none⟩) (.int .i64 s)
      have hmf := (((((Mod.refl (fun x => x = w.heap.size ∨ x = w.heap.size + 1) wr).setCell (.inl (.inl rfl)) (p := ⟨w.heap.size, 0, none⟩) (.slice a' (rack items k).length cap')).setCell (.inl (.inr rfl)) (p := ⟨w.heap.size + 1, 0, none⟩) (.slice a' (rack items k).length cap')).setCell (.inl (.inr rfl)) (p := ⟨w.heap.size + 1, 1, none⟩) (.int .i64 now)).setCell (.inl (.inr rfl)) (p := ⟨w.heap.size + 1, 2, none⟩) (.int .i64 p)).setCell (.inl (.inr rfl)) (p := ⟨w.heap.size + 1, 3, none⟩) (.int .i64 s)
      have hR : RefIs wr (.slice a' (rack items k).length cap') (rack items k) := by
        obtain ⟨g1, g2⟩ := hown
        refine ⟨g1, ?_⟩
        rcases g2 with g2 | ⟨g, c, cur, g3, _, g4⟩
        · exact .inl g2
        · exact .inr ⟨g, c, cur, g3, Nat.zero_le _, g4⟩
      exact ⟨hR.mod hmf (fun x hx h => by have := (hn x hx).1; omega), fun x hx => by have := (hn x hx).1; omega, hbf⟩
    · have ht : t < items.length := by omega
      obtain ⟨x, hx⟩ : ∃ x, items[t]? = some x := ⟨_, List.getElem?_eq_getElem ht⟩
      obtain ⟨g, rfl, hgB⟩ := HH.out.2 (by omega)
      have hHr := hH2.mod hmod (fun x hx h => by
        simp only [Value.ownBlock, Option.some.injEq] at hx
        omega)
      have y0 : wr.cell? ⟨g, t * 3, none⟩ = some (.string x.1) := OwnS.cell cells3 hHr hx (j := 0) (by omega) rfl
      have y1 : wr.cell? ⟨g, t * 3 + 1, none⟩ = some (.int .i64 x.2.1) := OwnS.cell cells3 hHr hx (j := 1) (by omega) rfl
      have y2 : wr.cell? ⟨g, t * 3 + 2, none⟩ = some (.int .i64 x.2.2) := OwnS.cell cells3 hHr hx (j := 2) (by omega) rfl
      have hkl : (rack (items.take t) k).length ≤ 4096 := by
        have h1 : (rack (items.take t) k).length ≤ (items.take t).length := List.length_filter_le _ _
        rw [List.length_take] at h1
        omega
      have hsz := hmod.size
      have HE := Lib.hid (And.intro hown (And.intro hmod (And.intro htg hx)))
      clear hown hmod htg hg hr0 hr1 hb2 hH2 hB hr0' hr1' hx hHr
      by_cases hk : x.1 = k
      · have hk1 := beq_yes hk
        rw [hk] at y0
        have HK := Lib.hid hk
        clear hk
        go_wp2
        go_roundg (gk - 1)
        case measure => have := HE.out.2.2.1; omega
        case rel =>
          obtain ⟨hown, hmod, htg, hx⟩ := HE.out
          refine ⟨t + 1, by omega, by go_num, ?_, hmod⟩
          have e : rack (items.take (t + 1)) k = rack (items.take t) k := by
            rw [List.take_add_one, hx, Option.toList_some, rack, rack, List.filter_append, List.filter_cons_of_neg (by simpa using HK.out)]
            simp
          rw [e]
          exact hown
      · have hk1 := beq_no hk
        have HK := Lib.hid hk
        clear hk
        go_wp2_with (first
          | (at_builtin; refine wpList_append_own _ rfl _ _ 82 rfl (B + 1 + 1) 92 i0 (.agg #[Value.string ByteArray.empty, .int .i64 0, Value.int .i64 0]) 3 32 Try.underlying82 hi hz0 hz1 hz2 rfl (by decide) _ _ _ rfl (HE.out.1.alloc _) ⟨wr.heap.size, 0, none⟩ 1 1 [.string x.1, .int .i64 x.2.1, .int .i64 x.2.2] rfl rfl (cells_new wr _ _) ?c2 ?c3 ?c4 ?c5 ?_))
        case c2 => first | exact ⟨rfl, rfl, rfl⟩ | (intro y hy; simp at hy; rcases hy with rfl | rfl | rfl <;> rfl)
        case c3 => unfold maxLen; omega
        case c4 => omega
        case c5 => first | omega | (simp; omega)
        · intro v' w1 hown' hgrow _
          have HS := Lib.hid (And.intro hown' hgrow)
          clear hown' hgrow
          go_wp2
          go_roundg (gk - 1)
          case measure => have := HE.out.2.2.1; omega
          case rel =>
            obtain ⟨hown, hmod, htg, hx⟩ := HE.out
            have e : rack (items.take (t + 1)) k = rack (items.take t) k ++ [x] := by
              rw [List.take_add_one, hx, Option.toList_some, rack, rack, List.filter_append, List.filter_cons_of_pos (by simpa using HK.out)]
              simp
            refine ⟨t + 1, by omega, by go_num, ?_, (hmod.alloc (.cells #[.string x.1, .int .i64 x.2.1, .int .i64 x.2.2] 92)).trans (Mod.of_grown HS.out.2) (fun y hy => .inl ((hown.lt y hy.symm).1))⟩
            rw [e, List.length_append, List.flatMap_append]
            exact HS.out.1
end
end Go.Proofs.Ytepgaphhinacmaa.Ref13
