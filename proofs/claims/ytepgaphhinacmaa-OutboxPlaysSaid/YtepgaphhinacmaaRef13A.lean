/- porterref13: what the document says of the outbox: Wrong, Put. -/
import Derived.Test.YtepgaphhinacmaaOutGOI
import Derived.Deep.DeepCutAuto
namespace Go.Proofs.Ytepgaphhinacmaa.Ref13
open Go.RowKit Go.Por Go.Proofs.Ytepgaphhinacmaa.OutOI

/-- The document's things: key, value, since when. -/
abbrev RefIs (w : World) (v : Value) (items : List It) : Prop := OwnS cells 3 w 92 v items
/-- The document's outbox. -/
def refVal (v : Value) (now p s : Int) : Value := .agg #[v, .int .i64 now, .int .i64 p, .int .i64 s]

theorem infoR : (Try.prog.info? 92).map (fun i => (i.zero, i.size, i.bytes)) = some (some (.agg #[Value.string ByteArray.empty, .int .i64 0, Value.int .i64 0]), 3, 32) := by kernel_rfl

theorem wrong_bad (p s : Int) (w : World) (h : p < 1 ∨ 1000 < p ∨ s < 1 ∨ 4096 < s) :
    Calls Try.prog 43 #[.int .i64 p, .int .i64 s] w fun e w' => e = .returned (.int .i64 1) ∧ w = w' := by
  by_cases h1 : p < 1
  all_goals try by_cases h2 : 1000 < p
  all_goals try by_cases h3 : s < 1
  all_goals try have h4 : 4096 < s := by omega
  all_goals
    clear h
    go_enter Try.func43, Try.ntmps43
    go_wp2
    go_ret
    exact ⟨rfl, rfl⟩
theorem wrong_good (p s : Int) (w : World) (h1 : 1 ≤ p) (h2 : p ≤ 1000) (h3 : 1 ≤ s) (h4 : s ≤ 4096) :
    Calls Try.prog 43 #[.int .i64 p, .int .i64 s] w fun e w' => e = .returned (.int .i64 0) ∧ w = w' := by
  go_enter Try.func43, Try.ntmps43
  go_wp2
  go_ret
  exact ⟨rfl, rfl⟩

/-- Put, by the document. -/
def rput (s now : Int) (items : List It) (k : ByteArray) (u : Int) : List It × Int :=
  if 0 ≤ place items k then (items.set (place items k).toNat (k, u, now), 0) else if s ≤ (items.length : Int) then (items, 3) else (items ++ [(k, u, now)], 0)

section
variable {w : World} {v : Value} {items : List It}
set_option maxRecDepth 100000 in
set_option maxHeartbeats 1600000 in
theorem put_any (H : RefIs w v items) (hlen : items.length ≤ 4096) (now p s : Int) (k : ByteArray) (u : Int) :
    Calls Try.prog 44 #[refVal v now p s, .string k, .int .i64 u] w fun e w' => ∃ v', e = .returned (.tuple #[refVal v' now p s, .int .i64 (rput s now items k u).2]) ∧
      RefIs w' v' (rput s now items k u).1 ∧ (∀ x, v'.ownBlock = some x → v.ownBlock = some x ∨ w.heap.size ≤ x) ∧ Below w.heap.size w w' := by
  obtain ⟨i0, hi, hz0, hz1, hz2⟩ := info_parts infoR
  obtain ⟨a, cap, hv⟩ : ∃ a cap, v = .slice a items.length cap := by
    rcases H.form with ⟨rfl, rfl⟩ | ⟨g, cap, rfl, h, _⟩
    · exact ⟨none, 0, rfl⟩
    · exact ⟨_, cap, rfl⟩
  subst hv
  have HH := Lib.hid H
  clear H
  unfold refVal
  go_enter Try.func44, Try.ntmps44
  go_upto_region 1 with fail
  generalize hB : w.heap.size = B at *
  generalize hW2 : ((w.alloc _).alloc (.cells #[Value.slice none 0 0, .int .i64 0, .int .i64 0, .int .i64 0] 84)) = W2 at *
  have hs2 : W2.heap.size = B + 1 + 1 := by rw [← hW2]; simp [hB]
  have hr0 : W2.heap[B]? = some (.cells #[.slice a items.length cap, .int .i64 now, .int .i64 p, .int .i64 s] 84 (0, 0)) := by
    rw [← hW2, ← hB]; exact block_alloc (block_new w _) _
  have hr1 : W2.heap[B + 1]? = some (.cells #[.slice none 0 0, .int .i64 0, .int .i64 0, .int .i64 0] 84 (0, 0)) := by
    rw [← hW2, ← hB]
    have := block_new (w.alloc (.cells #[.slice a items.length cap, .int .i64 now, .int .i64 p, .int .i64 s] 84)) (.cells #[Value.slice none 0 0, .int .i64 0, .int .i64 0, .int .i64 0] 84)
    rw [World.size_alloc] at this
    exact this
  have hb2 : Below B w W2 := by rw [← hW2, ← hB]; exact ((Below.refl _ w).alloc (Nat.le_refl _) _).alloc (by simp) _
  have hH2 : RefIs W2 (.slice a items.length cap) items := by rw [← hW2]; exact (HH.out.alloc _).alloc _
  have c0 := cell_of (i := 0) hr0 rfl
  have HW := Lib.hid (And.intro hr0 (And.intro hr1 (And.intro hb2 (And.intro hH2 hB))))
  clear hr0 hr1 hb2 hH2 hW2 hB
  go_cut [8] (fun s8 wx => ∃ a1 cap1, s8 = .slice a1 items.length cap1 ∧ RefIs wx s8 items ∧ (∀ x, s8.ownBlock = some x → B + 1 + 1 ≤ x) ∧
    wx.heap[B]? = some (.cells #[.slice a items.length cap, .int .i64 now, .int .i64 p, .int .i64 s] 84 (0, 0)) ∧
    wx.heap[B + 1]? = some (.cells #[.slice none 0 0, .int .i64 0, .int .i64 0, .int .i64 0] 84 (0, 0)) ∧ B + 1 + 1 ≤ wx.heap.size ∧ Below B w wx)
  case first =>
    have hown0 : OwnS cells 3 (W2.alloc (.cells #[] 92)) 92 (.slice (some ⟨B + 1 + 1, 0, none⟩) 0 0) [] := by
      refine ⟨rfl, .inr ⟨_, 0, #[], rfl, Nat.zero_le _, ?_, Nat.le_refl _, Nat.zero_le _, rfl, rfl⟩⟩
      rw [← hs2]
      exact block_new W2 _
    rcases HH.out.form with ⟨h1, h2⟩ | ⟨g, cap', h1, h2, _⟩
    · have h3 : a = none ∧ items.length = 0 ∧ cap = 0 := by simpa using h1
      obtain ⟨rfl, h4, rfl⟩ := h3
      subst h2
      have H0 := Lib.hid hown0
      clear hown0 h1 h4
      go_wp2
      go_meet
      obtain ⟨hr0, hr1, hb2, hH2, hB⟩ := HW.out
      refine ⟨_, 0, rfl, H0.out, fun x hx => ?_, block_alloc hr0 _, block_alloc hr1 _, by simp; omega, hb2.alloc (by omega) _⟩
      simp only [Value.ownBlock, Option.some.injEq] at hx
      omega
    · have h3 : a = some ⟨g, 0, none⟩ ∧ cap = cap' := by simpa using h1
      obtain ⟨rfl, rfl⟩ := h3
      have H0 := Lib.hid hown0
      clear hown0 h1
      go_wp2_with (first
        | (at_builtin; refine wpList_append_own2 _ rfl _ _ 82 rfl 0 92 i0 (.agg #[Value.string ByteArray.empty, .int .i64 0, Value.int .i64 0]) 3 32 Try.underlying82 hi hz0 hz1 hz2 rfl (by decide) _ _ _ rfl H0.out ⟨g, 0, none⟩ items.length cap (items.flatMap cells) rfl (flat_length cells3 items) ?c1 ?c2 ?c3 ?c4 ?c5 ?_))
      case c1 =>
        have h := World.ownsRow.cells (HW.out.2.2.2.1.alloc (.cells #[] 92)) (g := g) rfl
        exact h
      case c2 =>
        intro u hu
        obtain ⟨y, _, hy⟩ := List.mem_flatMap.1 hu
        exact cells1 y u hy
      case c3 => unfold maxLen; simp; omega
      case c4 => simp; omega
      case c5 => omega
      · intro v' w2 hown' hgrow hwhere
        obtain ⟨a', cap', rfl⟩ : ∃ a' cap', v' = .slice a' items.length cap' := by
          obtain ⟨_, ⟨rfl, h⟩ | ⟨g, cap', cur, rfl, _⟩⟩ := hown'
          · have : items.length = 0 := by omega
            exact ⟨none, 0, by rw [this]⟩
          · exact ⟨some ⟨g, 0, none⟩, cap', by simp⟩
        have HS := Lib.hid (And.intro hown' (And.intro hgrow hwhere))
        clear hown' hgrow hwhere
        go_wp2
        go_meet
        obtain ⟨hr0, hr1, hb2, hH2, hB⟩ := HW.out
        obtain ⟨hown', hgrow, hwhere⟩ := HS.out
        have hm := (((Mod.refl (fun x => (Value.slice (some ⟨B + 1 + 1, 0, none⟩) 0 0).ownBlock = some x) W2).alloc (.cells #[] 92)).trans (Mod.of_grown hgrow) (fun x hx => .inl hx.symm))
        have hno : ∀ x, x < B + 1 + 1 → ¬ ((Value.slice (some ⟨B + 1 + 1, 0, none⟩) 0 0).ownBlock = some x) := by
          intro x hx h
          simp only [Value.ownBlock, Option.some.injEq] at h
          omega
        refine ⟨a', cap', rfl, hown', fun x hx => ?_, hm.old hr0 (hno B (by omega)), hm.old hr1 (hno (B + 1) (by omega)), by have := hm.size; omega, hb2.trans (hm.to_below (by omega) (fun x hx => ?_))⟩
        · rcases hwhere x hx with h | h
          · simp only [Value.ownBlock, Option.some.injEq] at h
            omega
          · first | omega | (simp at h; omega)
        · simp only [Value.ownBlock, Option.some.injEq] at hx
          omega
  case rest =>
    obtain ⟨a1, cap1, rfl, hR, hnew, hr0, hr1, hsz, hbw⟩ := hcut
    obtain ⟨ob, hob⟩ : ∃ ob, ob = Obj.cells #[.string k, .int .i64 u, .int .i64 now] 92 := ⟨_, rfl⟩
    have c01 : wc.cell? ⟨B, 1, none⟩ = some (.int .i64 now) := cell_of hr0 rfl
    have hR := hR.alloc ob
    have hX := block_new wc ob
    have hXs := World.size_alloc wc ob
    have hr0 := block_alloc hr0 ob
    have hr1 := block_alloc hr1 ob
    have hbw := hbw.alloc (by omega) ob
    rw [hob] at hX hR hr0 hr1 hbw hXs
    clear hob
    have HZ := Lib.hid (And.intro hR (And.intro hX (And.intro hXs (And.intro hr0 (And.intro hr1 hbw)))))
    have HN0 := Lib.hid hnew
    clear hR hX hXs hr0 hr1 hbw hnew
    go_wp2
    clear c01
    generalize wc.alloc (.cells #[.string k, .int .i64 u, .int .i64 now] 92) = Wx at *
    generalize wc.heap.size = X at *
    obtain ⟨hR, hX, hXs, hr0, hr1, hbw⟩ := HZ.out
    have c3 : Wx.cell? ⟨B, 3, none⟩ = some (.int .i64 s) := cell_of hr0 rfl
    have c2 : Wx.cell? ⟨B, 2, none⟩ = some (.int .i64 p) := cell_of hr0 rfl
    have c1 : Wx.cell? ⟨B, 1, none⟩ = some (.int .i64 now) := cell_of hr0 rfl
    have c00 : Wx.cell? ⟨B, 0, none⟩ = some (.slice a items.length cap) := cell_of hr0 rfl
    have x0 : Wx.cell? ⟨X, 0, none⟩ = some (.string k) := cell_of hX rfl
    have x1 : Wx.cell? ⟨X, 1, none⟩ = some (.int .i64 u) := cell_of hX rfl
    have x2 : Wx.cell? ⟨X, 2, none⟩ = some (.int .i64 now) := cell_of hX rfl
    have d0 : Wx.cell? ⟨B + 1, 0, none⟩ = some (.slice none 0 0) := cell_of hr1 rfl
    have d1 : Wx.cell? ⟨B + 1, 1, none⟩ = some (.int .i64 0) := cell_of hr1 rfl
    have d2 : Wx.cell? ⟨B + 1, 2, none⟩ = some (.int .i64 0) := cell_of hr1 rfl
    have d3 : Wx.cell? ⟨B + 1, 3, none⟩ = some (.int .i64 0) := cell_of hr1 rfl
    have fB := fun i => free_of (i := i) hr0
    have fB1 := fun i => free_of (i := i) hr1
    clear hR hX hXs hr0 hr1 hbw
    go_loopg [10] (items.length) (fun g i wx => ∃ t : Nat, t + g = items.length ∧ i = .int .i64 (t : Int) ∧ (∀ j, j < t → ∀ y, items[j]? = some y → y.1 ≠ k) ∧ wx = Wx)
    case atStart => exact ⟨0, by omega, rfl, fun j hj => by omega, rfl⟩
    case round =>
      obtain ⟨t, htg, rfl, hno, rfl⟩ := hrel
      by_cases hg : gk = 0
      · have hk0 : ¬ ((t : Int) < (items.length : Int)) := by omega
        have hpl : place items k = -1 := place_none (fun x hx => by
          obtain ⟨j, hj⟩ := List.getElem?_of_mem hx
          have : j < items.length := (List.getElem?_eq_some_iff.1 hj).1
          exact hno j (by omega) x hj)
        have HN := Lib.hid hpl
        clear hno hpl htg hg
        by_cases hfull : s ≤ (items.length : Int)
        · go_wp2
          have hres : rput s now items k u = (items, 3) := by rw [rput, if_neg (by rw [HN.out]; omega), if_pos hfull]
          obtain ⟨hR, hX, hXs, hr0, hr1, hbw⟩ := HZ.out
          have hB := HW.out.2.2.2.2
          subst hB
          refine bodyPost_ret (v := .tuple #[refVal (.slice a items.length cap) now p s, .int .i64 3]) (by simp [results, Try.results44, go_sem, refVal, d0, d1, d2, d3]) rfl ⟨.slice a items.length cap, by rw [hres]; rfl, ?_⟩
          have hbf := (((hbw.setCell (Nat.le_succ _) (p := ⟨w.heap.size + 1, 0, none⟩) (.slice a items.length cap)).setCell (Nat.le_succ _) (p := ⟨w.heap.size + 1, 1, none⟩) (.int .i64 now)).setCell (Nat.le_succ _) (p := ⟨w.heap.size + 1, 2, none⟩) (.int .i64 p)).setCell (Nat.le_succ _) (p := ⟨w.heap.size + 1, 3, none⟩) (.int .i64 s)
          rw [hres]
          exact ⟨HH.out.mod (S := fun _ => False) (Mod.of_below hbf _) (fun _ _ h => h), fun x hx => .inl hx, hbf⟩
        · have HV := Lib.hid HZ.out.1
          go_wp2_with (first
            | (at_builtin; refine wpList_append_own2 _ rfl _ _ 82 rfl 0 92 i0 (.agg #[Value.string ByteArray.empty, .int .i64 0, Value.int .i64 0]) 3 32 Try.underlying82 hi hz0 hz1 hz2 rfl (by decide) _ _ _ rfl (HV.out.alloc _) ⟨wr.heap.size, 0, none⟩ 1 1 [.string k, .int .i64 u, .int .i64 now] rfl rfl (cells_new wr _ _) ?c2 ?c3 ?c4 ?c5 ?_))
          case c2 => exact ⟨rfl, rfl, rfl⟩
          case c3 => unfold maxLen; omega
          case c4 => omega
          · intro v' w2 hown' hgrow hwhere
            obtain ⟨a', cap', rfl⟩ : ∃ a' cap', v' = .slice a' (items.length + 1) cap' := by
              obtain ⟨_, ⟨rfl, h⟩ | ⟨g, cap', cur, rfl, _⟩⟩ := hown'
              · simp at h
              · exact ⟨some ⟨g, 0, none⟩, cap', rfl⟩
            obtain ⟨hR, hX, hXs, hr0, hr1, hbw⟩ := HZ.out
            have hm2 : Mod (fun x => (Value.slice a1 items.length cap1).ownBlock = some x) wr w2 := by
              have h1 := ((Mod.refl (fun x => (Value.slice a1 items.length cap1).ownBlock = some x) wr).alloc (.cells #[.string k, .int .i64 u, .int .i64 now] 92))
              exact h1.trans (Mod.of_grown hgrow) (fun x hx => .inl hx.symm)
            have hno : ∀ x, x < B + 1 + 1 → ¬ ((Value.slice a1 items.length cap1).ownBlock = some x) := by
              intro x hx h
              have := HN0.out x h
              omega
            have hr0' := hm2.old hr0 (hno B (by omega))
            have hr1' := hm2.old hr1 (hno (B + 1) (by omega))
            have hwl := lt_block hr1
            have hne : ∀ x, (Value.slice a' (items.length + 1) cap').ownBlock = some x → B + 1 + 1 ≤ x := by
              intro x hx
              rcases hwhere x hx with h | h
              · exact HN0.out x h
              · have : wr.heap.size + 1 ≤ x := by first | exact h | (simp at h; exact h)
                omega
            have e1 : w2.cell? ⟨B, 1, none⟩ = some (.int .i64 now) := cell_of hr0' rfl
            have e2 : w2.cell? ⟨B, 2, none⟩ = some (.int .i64 p) := cell_of hr0' rfl
            have e3 : w2.cell? ⟨B, 3, none⟩ = some (.int .i64 s) := cell_of hr0' rfl
            have e0 : w2.cell? ⟨B, 0, none⟩ = some (.slice a items.length cap) := cell_of hr0' rfl
            have q0 : w2.cell? ⟨B + 1, 0, none⟩ = some (.slice none 0 0) := cell_of hr1' rfl
            have q1 : w2.cell? ⟨B + 1, 1, none⟩ = some (.int .i64 0) := cell_of hr1' rfl
            have q2 : w2.cell? ⟨B + 1, 2, none⟩ = some (.int .i64 0) := cell_of hr1' rfl
            have q3 : w2.cell? ⟨B + 1, 3, none⟩ = some (.int .i64 0) := cell_of hr1' rfl
            have qf0 := fun i => free_of (i := i) hr0'
            have qf1 := fun i => free_of (i := i) hr1'
            have HU := Lib.hid (And.intro hown' (And.intro hm2 (And.intro hne hbw)))
            clear hown' hgrow hwhere hR hX hXs hr0 hr1 hbw hm2 hno hr0' hr1' hne hwl
            go_wp2
            have hres : rput s now items k u = (items ++ [(k, u, now)], 0) := by rw [rput, if_neg (by rw [HN.out]; omega), if_neg (by omega)]
            obtain ⟨hown', hm2, hne, hbw⟩ := HU.out
            have hB := HW.out.2.2.2.2
            subst hB
            refine bodyPost_ret (v := .tuple #[refVal (.slice a' (items.length + 1) cap') now p s, .int .i64 0]) (by simp [results, Try.results44, go_sem, refVal, q0, q1, q2, q3]) rfl ⟨.slice a' (items.length + 1) cap', by rw [hres]; rfl, ?_⟩
            have hb2 := hbw.trans (hm2.to_below hbw.size (fun x hx => by have := HN0.out x hx; omega))
            have hbf := ((((hb2.setCell (Nat.le_refl _) (p := ⟨w.heap.size, 0, none⟩) (.slice a' (items.length + 1) cap')).setCell (Nat.le_succ _) (p := ⟨w.heap.size + 1, 0, none⟩) (.slice a' (items.length + 1) cap')).setCell (Nat.le_succ _) (p := ⟨w.heap.size + 1, 1, none⟩) (.int .i64 now)).setCell (Nat.le_succ _) (p := ⟨w.heap.size + 1, 2, none⟩) (.int .i64 p)).setCell (Nat.le_succ _) (p := ⟨w.heap.size + 1, 3, none⟩) (.int .i64 s)
            have hmf := (((((Mod.refl (fun x => x = w.heap.size ∨ x = w.heap.size + 1) w2).setCell (.inl (.inl rfl)) (p := ⟨w.heap.size, 0, none⟩) (.slice a' (items.length + 1) cap')).setCell (.inl (.inr rfl)) (p := ⟨w.heap.size + 1, 0, none⟩) (.slice a' (items.length + 1) cap')).setCell (.inl (.inr rfl)) (p := ⟨w.heap.size + 1, 1, none⟩) (.int .i64 now)).setCell (.inl (.inr rfl)) (p := ⟨w.heap.size + 1, 2, none⟩) (.int .i64 p)).setCell (.inl (.inr rfl)) (p := ⟨w.heap.size + 1, 3, none⟩) (.int .i64 s)
            rw [hres]
            have hown2 : RefIs w2 (.slice a' (items.length + 1) cap') (items ++ [(k, u, now)]) := by
              show World.ownsRow _ _ _ _ _ _ _
              rw [List.length_append, List.flatMap_append]
              exact hown'
            exact ⟨hown2.mod hmf (fun x hx h => by have := hne x hx; omega), fun x hx => .inr (by have := hne x hx; omega), hbf⟩
      · have ht : t < items.length := by omega
        obtain ⟨x, hx⟩ : ∃ x, items[t]? = some x := ⟨_, List.getElem?_eq_getElem ht⟩
        obtain ⟨g, rfl⟩ : ∃ g, a1 = some ⟨g, 0, none⟩ := by
          rcases OwnS.form HZ.out.1 with ⟨h1, h2⟩ | ⟨g, cap', h1, h2, _⟩
          · rw [h2] at ht; simp at ht
          · exact ⟨g, by simpa using (Value.slice.inj h1).1⟩
        have y0 : wr.cell? ⟨g, t * 3, none⟩ = some (.string x.1) := OwnS.cell cells3 HZ.out.1 hx (j := 0) (by omega) rfl
        have y1 : wr.cell? ⟨g, t * 3 + 1, none⟩ = some (.int .i64 x.2.1) := OwnS.cell cells3 HZ.out.1 hx (j := 1) (by omega) rfl
        have y2 : wr.cell? ⟨g, t * 3 + 2, none⟩ = some (.int .i64 x.2.2) := OwnS.cell cells3 HZ.out.1 hx (j := 2) (by omega) rfl
        have yf := OwnS.free HZ.out.1
        have hgB : B + 1 + 1 ≤ g := HN0.out g rfl
        have HT := Lib.hid (And.intro hno (And.intro htg hx))
        clear hno htg hg hx
        by_cases hk : x.1 = k
        · have hk1 := beq_yes hk
          go_wp2
          obtain ⟨hno, htg, hx⟩ := HT.out
          have hpl : place items k = (t : Nat) := place_some hx hk hno
          have hres : rput s now items k u = (items.set t (k, u, now), 0) := by rw [rput, if_pos (by rw [hpl]; omega), hpl]; rfl
          obtain ⟨hR, hX, hXs, hr0, hr1, hbw⟩ := HZ.out
          have hB := HW.out.2.2.2.2
          subst hB
          have hgs : w.heap.size ≤ g := by omega
          have hs1 := OwnS.set cells3 hR hx (i := t) (j := 0) (y := (k, x.2.1, x.2.2)) (u := .string k) (by omega) rfl
          have hs2 := OwnS.set cells3 hs1 (x := (k, x.2.1, x.2.2)) (i := t) (j := 1) (y := (k, u, x.2.2)) (u := .int .i64 u) (by simp [ht]) (by omega) rfl
          have hs3 := OwnS.set cells3 hs2 (x := (k, u, x.2.2)) (i := t) (j := 2) (y := (k, u, now)) (u := .int .i64 now) (by simp [ht]) (by omega) rfl
          rw [List.set_set, List.set_set, Nat.add_zero] at hs3
          refine bodyPost_ret (v := .tuple #[refVal (.slice (some ⟨g, 0, none⟩) items.length cap1) now p s, .int .i64 0]) (by simp [results, Try.results44, go_sem, refVal, d0, d1, d2, d3]) rfl ⟨.slice (some ⟨g, 0, none⟩) items.length cap1, by rw [hres]; rfl, ?_⟩
          have hbf := (((((((hbw.setCell hgs (p := ⟨g, t * 3, none⟩) (.string k)).setCell hgs (p := ⟨g, t * 3 + 1, none⟩) (.int .i64 u)).setCell hgs (p := ⟨g, t * 3 + 2, none⟩) (.int .i64 now)).setCell (Nat.le_refl _) (p := ⟨w.heap.size, 0, none⟩) (.slice (some ⟨g, 0, none⟩) items.length cap1)).setCell (Nat.le_succ _) (p := ⟨w.heap.size + 1, 0, none⟩) (.slice (some ⟨g, 0, none⟩) items.length cap1)).setCell (Nat.le_succ _) (p := ⟨w.heap.size + 1, 1, none⟩) (.int .i64 now)).setCell (Nat.le_succ _) (p := ⟨w.heap.size + 1, 2, none⟩) (.int .i64 p)).setCell (Nat.le_succ _) (p := ⟨w.heap.size + 1, 3, none⟩) (.int .i64 s)
          have hmf := (((((Mod.refl (fun x => x = w.heap.size ∨ x = w.heap.size + 1) (((wr.setCell ⟨g, t * 3, none⟩ (.string k)).setCell ⟨g, t * 3 + 1, none⟩ (.int .i64 u)).setCell ⟨g, t * 3 + 2, none⟩ (.int .i64 now))).setCell (.inl (.inl rfl)) (p := ⟨w.heap.size, 0, none⟩) (.slice (some ⟨g, 0, none⟩) items.length cap1)).setCell (.inl (.inr rfl)) (p := ⟨w.heap.size + 1, 0, none⟩) (.slice (some ⟨g, 0, none⟩) items.length cap1)).setCell (.inl (.inr rfl)) (p := ⟨w.heap.size + 1, 1, none⟩) (.int .i64 now)).setCell (.inl (.inr rfl)) (p := ⟨w.heap.size + 1, 2, none⟩) (.int .i64 p)).setCell (.inl (.inr rfl)) (p := ⟨w.heap.size + 1, 3, none⟩) (.int .i64 s)
          rw [hres]
          refine ⟨?_, fun x hx => .inr (by have := HN0.out x hx; omega), hbf⟩
          exact OwnS.mod hs3 hmf (fun x hx h => by have := HN0.out x hx; omega)
        · have hk1 := beq_no hk
          have HK := Lib.hid hk
          clear hk
          go_wp2
          go_roundg (gk - 1)
          case measure => have := HT.out.2.1; omega
          case rel =>
            obtain ⟨hno, htg, hx⟩ := HT.out
            refine ⟨t + 1, by omega, by go_num, fun j hj y hy => ?_, rfl⟩
            by_cases hjt : j = t
            · subst hjt
              rw [hx] at hy
              cases hy
              exact HK.out
            · exact hno j (by omega) y hy
end
end Go.Proofs.Ytepgaphhinacmaa.Ref13
