/- porterlaw13.OutboxPlays answers true at every input. -/
import Derived.Test.YtepgaphhinacmaaOutboxPlaysB
import Derived.Deep.CutBlock
import Derived.Deep.DeepCutAuto
import Derived.Deep.RegionWith
namespace Go.Proofs.Ytepgaphhinacmaa.OutboxPlays
open Go.RowKit Go.Por Go.Proofs.Ytepgaphhinacmaa.OutOI Go.Proofs.Ytepgaphhinacmaa.Ref13 Go.Proofs.Ytepgaphhinacmaa.Ops
open Go.Proofs.Ytepgaphhinacmaa.OutboxDue (own_read)

set_option maxRecDepth 100000 in
set_option maxHeartbeats 1600000 in
theorem law_any (p s : Int) (ao : Option Addr) (n cap : Nat) (ops : List OpO) (w : World) (hn : ops.length = n) (hmax : n ≤ 9223372036854775807)
    (hcell : ∀ i, i < n → ∃ b o, ao = some ⟨b, o, none⟩ ∧ ∀ i x, ops[i]? = some x → ∀ j u, (opO x)[j]? = some u → w.cell? ⟨b, o + i * 3 + j, none⟩ = some u) :
    Calls Try.prog 8 #[.int .i64 p, .int .i64 s, .slice ao n cap] w fun e w' => e = .returned (.bool true) ∧ Below w.heap.size w w' := by
  by_cases hp : p < 1 ∨ 1000 < p ∨ s < 1 ∨ 4096 < s
  · go_enter Try.func8, Try.ntmps8
    go_wp2_with fail
    refine (AwakeO.awake_any w).mono ?_
    rintro e w1 ⟨rfl, hb1⟩
    go_wp2_with fail
    refine (OutOI.new_bad p s w1 hp).mono ?_
    rintro e w2 ⟨rfl, rfl⟩
    go_wp2_with fail
    refine (Ref13.wrong_bad p s w1 hp).mono ?_
    rintro e w2 ⟨rfl, rfl⟩
    go_wp2
    go_ret
    exact ⟨rfl, hb1⟩
  have hp0 : 1 ≤ p := by omega
  have hp1 : p ≤ 1000 := by omega
  have hs0 : 1 ≤ s := by omega
  have hs1 : s ≤ 4096 := by omega
  clear hp
  go_enter Try.func8, Try.ntmps8
  go_wp2_with fail
  refine (AwakeO.awake_any w).mono ?_
  rintro e w1 ⟨rfl, hb1⟩
  have HB1 := Lib.hid hb1
  clear hb1
  go_wp2_with fail
  refine (OutOI.new_good p s w1 hp0 hp1 hs0 hs1).mono ?_
  rintro e w2 ⟨rfl, hO2, hb2⟩
  have H2 := Lib.hid (And.intro hO2 hb2)
  clear hO2 hb2
  go_wp2_with fail
  refine (Ref13.wrong_good p s w2 hp0 hp1 hs0 hs1).mono ?_
  rintro e w3 ⟨rfl, rfl⟩
  have hH : Head w (w2.alloc (.cells #[.slice none 0 0, .int .i64 0, .int .i64 p, .int .i64 s] 84)) w1.heap.size w2.heap.size (.slice none 0 0) (.slice none 0 0) (view 0 p []) [] 0 p s := by
    obtain ⟨hO2, hb2⟩ := H2.out
    have g1 := HB1.out.size
    have g2 := hb2.size
    have g3 := hO2.lt w1.heap.size (.inl rfl)
    have g4 : ∀ x, (Value.slice none 0 0).ownBlock = some x → False := by intro x hx; simp [Value.ownBlock] at hx
    refine ⟨hO2.mod (S := fun _ => False) ((Mod.refl _ w2).alloc _) (fun _ _ h => h), block_new w2 _, OwnS.nil _ _ _ _, fun x hx => ?_, by omega, fun x hx => (g4 x hx).elim, fun hx => ?_, fun x hx => (g4 x hx).elim, (HB1.out.trans (hb2.mono g1)).alloc (by omega) _⟩
    · rcases hx with h | h
      · omega
      · exact (g4 x h).elim
    · rcases hx with h | h
      · omega
      · exact g4 _ h
  have HH := Lib.hid hH
  have HC := Lib.hid hcell
  generalize w1.heap.size = O at *
  clear H2 hH hcell
  go_wp2
  generalize w2.heap.size = RB at *
  go_loopg [56] (n) (fun g i wx => ∃ (t : Nat) (v vI : Value) (items : List It) (now : Int), t + g = n ∧ i = .int .i64 (t : Int) ∧ Head w wx O RB v vI (view now p items) items now p s ∧ Play now p s items ∧ 0 ≤ now ∧ now ≤ t)
  case atStart => exact ⟨0, _, _, [], 0, by omega, rfl, HH.out, ⟨by simp, by simp, by simp; omega⟩, by omega, by omega⟩
  case round =>
    obtain ⟨t, v, vI, items, now, htg, rfl, hH, hP, hnow0, hnow1⟩ := hrel
    by_cases hg : gk = 0
    · have hk : ¬ ((t : Int) < (n : Int)) := by omega
      have HB := Lib.hid hH.below
      clear hH hP htg hg
      go_wp2
      go_ret
      exact ⟨rfl, HB.out⟩
    have ht : t < n := by omega
    obtain ⟨b, o, rfl, hcells⟩ := HC.out t ht
    obtain ⟨x, hx⟩ : ∃ x, ops[t]? = some x := ⟨_, List.getElem?_eq_getElem (by omega)⟩
    have c0 : wr.cell? ⟨b, o + t * 3, none⟩ = some (.int .i64 x.1) := by
      have h := hcells t x hx 0 _ rfl
      rw [Nat.add_zero] at h
      rw [hH.below.cell (p := ⟨b, _, none⟩) (World.block_lt_of_cell? w ⟨b, _, none⟩ h)]; exact h
    have c1 : wr.cell? ⟨b, o + t * 3 + 1, none⟩ = some (.int .i64 x.2.1) := by
      have h := hcells t x hx 1 _ rfl
      rw [hH.below.cell (p := ⟨b, _, none⟩) (World.block_lt_of_cell? w ⟨b, _, none⟩ h)]; exact h
    have c2 : wr.cell? ⟨b, o + t * 3 + 2, none⟩ = some (.string x.2.2) := by
      have h := hcells t x hx 2 _ rfl
      rw [hH.below.cell (p := ⟨b, _, none⟩) (World.block_lt_of_cell? w ⟨b, _, none⟩ h)]; exact h
    have HR := Lib.hid (And.intro hH (And.intro hP htg))
    clear hx hcells hH hP htg hg
    go_upto_block 2 with fail
    generalize hX : wr.heap.size = X at *
    have hH1 := HR.out.1.alloc (.cells #[.int .i64 x.1, .int .i64 x.2.1, .string x.2.2] 76)
    have hbX := block_new wr (.cells #[.int .i64 x.1, .int .i64 x.2.1, .string x.2.2] 76)
    have hfX : ∀ y, ofoot O v y → y ≠ X := fun y hy e => by have := HR.out.1.box.lt y hy; omega
    have hRX : RB ≠ X := fun e => by have := lt_block HR.out.1.ref; omega
    rw [hX] at hbX
    generalize wr.alloc (.cells #[.int .i64 x.1, .int .i64 x.2.1, .string x.2.2] 76) = W1 at *
    have HG := Lib.hid (And.intro hH1 (And.intro hbX (And.intro hfX hRX)))
    clear hH1 hbX hfX c0 c1 c2 hX
    go_cut [] (fun wx => ∃ (v vI : Value) (items : List It) (now : Int), Head w wx O RB v vI (view now p items) items now p s ∧ Play now p s items ∧ 0 ≤ now ∧ now ≤ (t : Int) + 1)
    case first =>
      obtain ⟨hH1, hbX, hfX, _⟩ := HG.out
      have x0 : W1.cell? ⟨X, 0, none⟩ = some (.int .i64 x.1) := cell_of hbX rfl
      have x1 : W1.cell? ⟨X, 1, none⟩ = some (.int .i64 x.2.1) := cell_of hbX rfl
      have x2 : W1.cell? ⟨X, 2, none⟩ = some (.string x.2.2) := cell_of hbX rfl
      have r0 : W1.cell? ⟨RB, 0, none⟩ = some vI := cell_of hH1.ref rfl
      have r1 : W1.cell? ⟨RB, 1, none⟩ = some (.int .i64 now) := cell_of hH1.ref rfl
      have r2 : W1.cell? ⟨RB, 2, none⟩ = some (.int .i64 p) := cell_of hH1.ref rfl
      have r3 : W1.cell? ⟨RB, 3, none⟩ = some (.int .i64 s) := cell_of hH1.ref rfl
      have hil : items.length ≤ 4096 := by have := HR.out.2.1.len; omega
      clear hH1 hbX hfX
      by_cases hk0 : x.1 = 0
      · have q0 : (x.1 == (0 : Int)) = true := by rw [hk0]; rfl
        clear hk0
        go_wp2_with fail
        refine (Ref13.put_any HG.out.1.its hil now p s x.2.2 x.2.1).mono ?_
        rintro e w2 ⟨vI', rfl, hR2, hw2, hb2⟩
        obtain ⟨a', m', c', rfl⟩ : ∃ a' m' c', vI' = .slice a' m' c' := by
          rcases OwnS.form hR2 with ⟨h1, _⟩ | ⟨g, cp, h1, _⟩
          · exact ⟨_, _, _, h1⟩
          · exact ⟨_, _, _, h1⟩
        have hm2 : Mod (fun y => W1.heap.size ≤ y) W1 w2 := Mod.of_below hb2 _
        have hH2 := HG.out.1.fresh hm2
        have e0 : w2.cell? ⟨RB, 0, none⟩ = some vI := cell_of hH2.ref rfl
        have e1 : w2.cell? ⟨RB, 1, none⟩ = some (.int .i64 now) := cell_of hH2.ref rfl
        have e2 : w2.cell? ⟨RB, 2, none⟩ = some (.int .i64 p) := cell_of hH2.ref rfl
        have e3 : w2.cell? ⟨RB, 3, none⟩ = some (.int .i64 s) := cell_of hH2.ref rfl
        have ef := fun i => free_of (i := i) hH2.ref
        have hRlt := lt_block hH2.ref
        have hXlt : X < W1.heap.size := lt_block HG.out.2.1
        have hbX2 := hm2.old HG.out.2.1 (by omega)
        have hXlt2 := lt_block hbX2
        have y1 : w2.cell? ⟨X, 1, none⟩ = some (.int .i64 x.2.1) := cell_of hbX2 rfl
        have y2 : w2.cell? ⟨X, 2, none⟩ = some (.string x.2.2) := cell_of hbX2 rfl
        have hRX := HG.out.2.2.2
        have hXR : X ≠ RB := fun e => hRX e.symm
        generalize hc : (rput s now items x.2.2 x.2.1).2 = c at *
        have hw3 : ∀ x, (Value.slice a' m' c').ownBlock = some x → vI.ownBlock = some x ∨ W1.heap.size ≤ x := hw2
        have H2 := Lib.hid (And.intro hR2 (And.intro hw2 (And.intro hm2 hc)))
        clear hR2 hw2 hb2 hm2 hH2 hbX2 hc x0 x1 x2 r0 r1 r2 r3
        unfold refVal
        go_wp2_with fail
        have hHn := (HG.out.1.next (w3 := w2) (now' := now) H2.out.2.2.1 H2.out.1 hw3).alloc (.cells #[.slice a' m' c', .int .i64 now, .int .i64 p, .int .i64 s] 84)
        refine (OutOI.put_any hHn.box (by rw [view_length]; exact hil) x.2.2 x.2.1).mono ?_
        rintro e w5 ⟨rfl, v5, hO5, hf5, hm5⟩
        rw [view_put HR.out.2.1] at hO5 ⊢
        have H5 := Lib.hid (hHn.call hO5 hf5 hm5)
        have hc := H2.out.2.2.2
        simp only [hc]
        clear hHn hO5 hf5 hm5 hc
        go_wp2
        go_meet
        exact ⟨v5, _, _, now, H5.out, HR.out.2.1.put hnow0 x.2.2 x.2.1, hnow0, by omega⟩
      by_cases hk1 : x.1 = 1
      · have q0 : (x.1 == (0 : Int)) = false := by rw [beq_eq_false_iff_ne]; exact hk0
        have q1 : (x.1 == (1 : Int)) = true := by rw [hk1]; rfl
        clear hk0 hk1
        go_wp2_with fail
        refine (Ref13.ack_any HG.out.1.its hil now p s x.2.2).mono ?_
        rintro e w2 ⟨vI', rfl, hR2, hw2, hb2⟩
        obtain ⟨a', m', c', rfl⟩ : ∃ a' m' c', vI' = .slice a' m' c' := by
          rcases OwnS.form hR2 with ⟨h1, _⟩ | ⟨g, cp, h1, _⟩
          · exact ⟨_, _, _, h1⟩
          · exact ⟨_, _, _, h1⟩
        have hm2 : Mod (fun y => W1.heap.size ≤ y) W1 w2 := Mod.of_below hb2 _
        have hH2 := HG.out.1.fresh hm2
        have e0 : w2.cell? ⟨RB, 0, none⟩ = some vI := cell_of hH2.ref rfl
        have e1 : w2.cell? ⟨RB, 1, none⟩ = some (.int .i64 now) := cell_of hH2.ref rfl
        have e2 : w2.cell? ⟨RB, 2, none⟩ = some (.int .i64 p) := cell_of hH2.ref rfl
        have e3 : w2.cell? ⟨RB, 3, none⟩ = some (.int .i64 s) := cell_of hH2.ref rfl
        have ef := fun i => free_of (i := i) hH2.ref
        have hRlt := lt_block hH2.ref
        have hXlt : X < W1.heap.size := lt_block HG.out.2.1
        have hbX2 := hm2.old HG.out.2.1 (by omega)
        have hXlt2 := lt_block hbX2
        have y2 : w2.cell? ⟨X, 2, none⟩ = some (.string x.2.2) := cell_of hbX2 rfl
        have hRX := HG.out.2.2.2
        have hXR : X ≠ RB := fun e => hRX e.symm
        generalize hc : decide ((rack items x.2.2).length < items.length) = c at *
        have hne : (c != c) = false := by cases c <;> rfl
        have hw3 : ∀ x, (Value.slice a' m' c').ownBlock = some x → vI.ownBlock = some x ∨ W1.heap.size ≤ x := fun x hx => .inr (hw2 x hx)
        have H2 := Lib.hid (And.intro hR2 (And.intro hw2 (And.intro hm2 hc)))
        clear hR2 hw2 hb2 hm2 hH2 hbX2 hc x0 x1 x2 r0 r1 r2 r3
        unfold refVal
        go_wp2_with fail
        have hHn := (HG.out.1.next (w3 := w2) (now' := now) H2.out.2.2.1 H2.out.1 hw3).alloc (.cells #[.slice a' m' c', .int .i64 now, .int .i64 p, .int .i64 s] 84)
        refine (OutOI.ack_any hHn.box (by rw [view_length]; exact hil) x.2.2).mono ?_
        rintro e w5 ⟨rfl, v5, hO5, hf5, hm5⟩
        rw [view_ack HR.out.2.1] at hO5 ⊢
        have H5 := Lib.hid (hHn.call hO5 (fun y hy => .inl (hf5 y hy)) hm5)
        have hc := H2.out.2.2.2
        simp only [hc]
        clear hHn hO5 hf5 hm5 hc
        go_wp2
        go_meet
        exact ⟨v5, _, _, now, H5.out, HR.out.2.1.ack x.2.2, hnow0, by omega⟩
      have q0 : (x.1 == (0 : Int)) = false := by rw [beq_eq_false_iff_ne]; exact hk0
      have q1 : (x.1 == (1 : Int)) = false := by rw [beq_eq_false_iff_ne]; exact hk1
      by_cases hk2 : x.1 = 2
      · have q2 : (x.1 == (2 : Int)) = true := by rw [hk2]; rfl
        clear hk0 hk1 hk2
        obtain ⟨a', m', c', rfl⟩ : ∃ a' m' c', vI = .slice a' m' c' := by
          rcases OwnS.form HG.out.1.its with ⟨h1, _⟩ | ⟨g, cp, h1, _⟩
          · exact ⟨_, _, _, h1⟩
          · exact ⟨_, _, _, h1⟩
        go_wp2_with fail
        refine (Ref13.tick_any HG.out.1.its hil now p s hp0 hp1 hnow0 (by omega) HR.out.2.1.since).mono ?_
        rintro e w2 ⟨vo, rfl, hown2, hb2⟩
        have hD := view_due HR.out.2.1
        generalize hDD : rdue now p items = D at *
        have hdl : D.length ≤ 4096 := by
          rw [← hDD, rdue, List.length_map]
          exact Nat.le_trans (List.length_filter_le _ _) hil
        obtain ⟨aq, cq, rfl, _, hread2⟩ := own_read hown2
        have hown2' := hown2.lt
        have hm2 : Mod (fun y => W1.heap.size ≤ y) W1 w2 := Mod.of_below hb2 _
        have hH2 := HG.out.1.fresh hm2
        have e0 : w2.cell? ⟨RB, 0, none⟩ = some (.slice a' m' c') := cell_of hH2.ref rfl
        have e1 : w2.cell? ⟨RB, 1, none⟩ = some (.int .i64 now) := cell_of hH2.ref rfl
        have e2 : w2.cell? ⟨RB, 2, none⟩ = some (.int .i64 p) := cell_of hH2.ref rfl
        have e3 : w2.cell? ⟨RB, 3, none⟩ = some (.int .i64 s) := cell_of hH2.ref rfl
        have ef := fun i => free_of (i := i) hH2.ref
        have hRlt := lt_block hH2.ref
        have hRlt1 := lt_block HG.out.1.ref
        have H2 := Lib.hid (And.intro hH2.its (And.intro hm2 (And.intro hread2 (And.intro hD hRlt1))))
        clear hown2 hown2' hread2 hb2 hm2 hH2 hD hDD hRlt1 x0 x1 x2 r0 r1 r2 r3
        unfold refVal
        go_wp2_with fail
        have hHn := (HG.out.1.next (w3 := w2) (now' := now + 1) H2.out.2.1 H2.out.1 (fun _ h => .inl h)).alloc (.cells #[.slice a' m' c', .int .i64 (now + 1), .int .i64 p, .int .i64 s] 84)
        refine (OutOI.tick_any hHn.box (by rw [view_length]; exact hil) hp0 hp1 (view_ages hp0 now items)).mono ?_
        rintro e w5 ⟨vo5, rfl, hO5, hown5, hm5⟩
        rw [view_tick hp0] at hO5
        rw [H2.out.2.2.2.1] at hown5
        have hH5 := hHn.call hO5 (fun y hy => .inl hy) hm5
        obtain ⟨a5, c5, rfl, _, hread5⟩ := own_read hown5
        have hwant : ∀ i z, D[i]? = some z → ∃ g, aq = some ⟨g, 0, none⟩ ∧ w5.cell? ⟨g, i, none⟩ = some (.int .i64 z) := by
          intro i z hz
          obtain ⟨g, h1, h2, h3⟩ := H2.out.2.2.1 i (.int .i64 z) (by rw [List.getElem?_map, hz]; rfl)
          refine ⟨g, h1, ?_⟩
          have hg2 : g < w2.heap.size := World.block_lt_of_cell? w2 ⟨g, _, none⟩ h3
          have hgR : g ≠ RB := by have := H2.out.2.2.2.2; omega
          have hmS := (setRef_mod w2 RB (.slice a' m' c') (now + 1) p s).alloc (.cells #[.slice a' m' c', .int .i64 (now + 1), .int .i64 p, .int .i64 s] 84)
          rw [hm5.cell (p := ⟨g, i, none⟩) (Nat.lt_of_lt_of_le hg2 hmS.size) (fun h => by have h4 : g < W1.heap.size := HG.out.1.box.lt g h; omega), hmS.cell (p := ⟨g, i, none⟩) hg2 hgR]
          exact h3
        have H5 := Lib.hid (And.intro hH5 (And.intro hread5 hwant))
        clear hHn hO5 hown5 hm5 hH5 hread5 hwant
        go_wp2
        go_loopg [115] (D.length) (fun g i wx => ∃ (t2 : Nat), t2 + g = D.length ∧ i = .int .i64 (t2 : Int) ∧ Mod (fun _ => False) w5 wx)
        case atStart => exact ⟨0, by omega, rfl, Mod.refl _ _⟩
        case round =>
          obtain ⟨t2, htg2, rfl, hmod⟩ := hrel
          by_cases hg2 : gk = 0
          · have ht2 : ¬ ((t2 : Int) < (D.length : Int)) := by omega
            have HM := Lib.hid hmod
            clear htg2 hg2 hmod
            go_wp2
            go_meet
            exact ⟨_, _, items, now + 1, H5.out.1.fresh (HM.out.mono (fun _ _ h => h.elim)), HR.out.2.1.tick, by omega, by omega⟩
          · have ht2 : t2 < D.length := by omega
            obtain ⟨z, hz⟩ : ∃ z, D[t2]? = some z := ⟨_, List.getElem?_eq_getElem ht2⟩
            obtain ⟨g5, rfl, _, k5⟩ := H5.out.2.1 t2 (.int .i64 z) (by rw [List.getElem?_map, hz]; rfl)
            obtain ⟨gq, rfl, kq⟩ := H5.out.2.2 t2 z hz
            rw [← hmod.cell (p := ⟨g5, t2, none⟩) (World.block_lt_of_cell? _ _ k5) id] at k5
            rw [← hmod.cell (p := ⟨gq, t2, none⟩) (World.block_lt_of_cell? _ _ kq) id] at kq
            have HT := Lib.hid (And.intro htg2 hmod)
            clear hz htg2 hg2 hmod
            go_wp2_with fail
            go_region
            all_goals
              go_wp2
              go_roundg (gk - 1)
              case measure => have := HT.out.1; omega
              case rel => exact ⟨t2 + 1, by have := HT.out.1; omega, by go_num, HT.out.2.drew⟩
      · have q2 : (x.1 == (2 : Int)) = false := by rw [beq_eq_false_iff_ne]; exact hk2
        clear hk0 hk1 hk2
        go_wp2
        go_meet
        exact ⟨v, vI, items, now, HG.out.1, HR.out.2.1, hnow0, by omega⟩
    case rest =>
      obtain ⟨v6, vI6, items6, now6, hH6, hP6, hn60, hn61⟩ := hcut
      obtain ⟨aI, cI, rfl, haI⟩ : ∃ aI cI, vI6 = .slice aI items6.length cI ∧ (0 < items6.length → ∃ g, aI = some ⟨g, 0, none⟩) := by
        rcases OwnS.form hH6.its with ⟨h1, h2⟩ | ⟨g, cp, h1, _⟩
        · exact ⟨none, 0, by rw [h1, h2]; rfl, fun h => by rw [h2] at h; simp at h⟩
        · exact ⟨_, _, h1, fun _ => ⟨g, rfl⟩⟩
      have hil6 : items6.length ≤ 4096 := by have := hP6.len; omega
      have H6 := Lib.hid (And.intro hH6 (And.intro hP6 haI))
      clear hH6 hP6 haI
      go_wp2_with fail
      refine (OutOI.keys_any H6.out.1.box (by rw [view_length]; exact hil6)).mono ?_
      rintro e w7 ⟨vk, rfl, hown7, hb7⟩
      rw [view_keys, view_length] at hown7
      obtain ⟨ak, ck, rfl, _, hread7⟩ := own_read hown7
      have hH7 := H6.out.1.fresh (Mod.of_below hb7 _)
      have H7 := Lib.hid (And.intro hH7 hread7)
      clear hown7 hb7 hH7 hread7
      go_upto_region 35 with fail
      go_cut [143] (fun s143 wx => s143 = .bool false ∧ Mod (fun _ => False) w7 wx)
      case first =>
        have r0 : w7.cell? ⟨RB, 0, none⟩ = some (.slice aI items6.length cI) := cell_of H7.out.1.ref rfl
        have hbx : OutIs w7.drew O v6 (view now6 p items6) p s := H7.out.1.box.mod (S := fun _ => False) ((Mod.refl _ w7).drew) (fun _ _ h => h)
        have HBX := Lib.hid hbx
        clear hbx
        have hvl := view_length now6 p items6
        go_region_with (go_at_call 48; refine (OutOI.len_any HBX.out (by rw [view_length]; exact hil6)).mono ?_; rw [view_length]; rintro e w8 ⟨rfl, rfl⟩)
        all_goals go_wp2
        all_goals go_meet
        all_goals exact ⟨rfl, (Mod.refl _ w7).drew⟩
      case rest =>
        obtain ⟨rfl, hm8⟩ := hcut
        have HM8 := Lib.hid hm8
        clear hm8
        go_wp2
        go_loopg [146] (items6.length) (fun g i wx => ∃ (t2 : Nat), t2 + g = items6.length ∧ i = .int .i64 (t2 : Int) ∧ Mod (fun _ => False) w7 wx)
        case atStart => exact ⟨0, by omega, rfl, HM8.out⟩
        case round =>
          obtain ⟨t2, htg2, rfl, hmod⟩ := hrel
          have hH8 := H7.out.1.fresh (hmod.mono (fun _ _ h => h.elim))
          by_cases hg2 : gk = 0
          · have ht2 : ¬ ((t2 : Int) < (items6.length : Int)) := by omega
            have H8 := Lib.hid hH8
            clear htg2 hg2 hmod hH8
            go_wp2
            go_roundg (n - t - 1)
            case measure => have := HR.out.2.2; omega
            case rel => exact ⟨t + 1, _, _, items6, now6, by have := HR.out.2.2; omega, by go_num, H8.out, H6.out.2.1, hn60, by omega⟩
          · have ht2 : t2 < items6.length := by omega
            obtain ⟨y, hy⟩ : ∃ y, items6[t2]? = some y := ⟨_, List.getElem?_eq_getElem ht2⟩
            obtain ⟨gi, rfl⟩ := H6.out.2.2 (by omega)
            obtain ⟨gq, rfl, _, kq⟩ := H7.out.2 t2 (.string y.1) (by rw [List.getElem?_map, hy]; rfl)
            rw [← hmod.cell (p := ⟨gq, t2, none⟩) (World.block_lt_of_cell? _ _ kq) id] at kq
            have ki : wr.cell? ⟨gi, t2 * 3, none⟩ = some (.string y.1) := OwnS.cell cells3 hH8.its hy (j := 0) (by omega) rfl
            have kr : wr.cell? ⟨RB, 0, none⟩ = some (.slice (some ⟨gi, 0, none⟩) items6.length cI) := cell_of hH8.ref rfl
            have hbn : ∀ b : ByteArray, (b.toList != b.toList) = false := by intro b; simp
            have HT := Lib.hid (And.intro htg2 hmod)
            clear hy htg2 hg2 hmod hH8
            go_wp2_with fail
            go_region
            all_goals
              go_wp2
              go_roundg (gk - 1)
              case measure => have := HT.out.1; omega
              case rel => exact ⟨t2 + 1, by have := HT.out.1; omega, by go_num, HT.out.2.drew⟩

theorem row {w : World} (p s : Int) (v : Value) (ops : List OpO) (h : SliceIs 3 (fun _ cs x => cs = opO x) w v ops) :
    Calls Try.prog 8 #[.int .i64 p, .int .i64 s, v] w fun e w' => e = .returned (.bool true) ∧ Below w.heap.size w w' := by
  obtain ⟨ao, cap, rfl, hl, hc⟩ := h.flat
  exact law_any p s ao _ cap ops w rfl hl (fun i hi => by obtain ⟨b, o, h1, _, h2⟩ := hc i hi; exact ⟨b, o, h1, h2⟩)
end Go.Proofs.Ytepgaphhinacmaa.OutboxPlays
