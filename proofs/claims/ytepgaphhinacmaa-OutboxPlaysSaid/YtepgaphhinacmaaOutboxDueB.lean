/- porterlaw13.OutboxDue answers true at every input. -/
import Derived.Test.YtepgaphhinacmaaOutboxDueA
import Derived.Test.YtepgaphhinacmaaAwakeO
import Derived.Test.YtepgaphhinacmaaOps
import Derived.Deep.CutBlock
import Derived.Deep.DeepCutAuto
import Derived.Deep.RegionWith
namespace Go.Proofs.Ytepgaphhinacmaa.OutboxDue
open Go.RowKit Go.Por Go.Proofs.Ytepgaphhinacmaa.OutOI Go.Proofs.Ytepgaphhinacmaa.Ops

/-- A row of the call's own, to be read. -/
theorem own_read {w : World} {base : Nat} {E : TypeId} {v : Value} {n : Nat} {us : List Value} (h : w.ownsRow base E 1 v n us) : ∃ ao cap, v = .slice ao n cap ∧ us.length = n ∧ ∀ i u, us[i]? = some u → ∃ g, ao = some ⟨g, 0, none⟩ ∧ base ≤ g ∧ w.cell? ⟨g, i, none⟩ = some u := by
  have hc := fun g => h.cells (g := g)
  have hl := h.1
  rw [Nat.mul_one] at hl
  obtain ⟨_, ⟨rfl, rfl⟩ | ⟨g, cap, cur, rfl, hb, _⟩⟩ := h
  · refine ⟨none, 0, rfl, hl, fun i u hu => ?_⟩
    have := (List.getElem?_eq_some_iff.1 hu).1
    omega
  · refine ⟨_, cap, rfl, hl, fun i u hu => ⟨g, rfl, hb, ?_⟩⟩
    have := hc g rfl i u hu
    have e : (⟨g, 0, none⟩ : Addr).add i = ⟨g, i, none⟩ := by
      unfold Addr.add; split
      · rename_i e; subst e; rfl
      · simp
    rw [e] at this
    exact this

set_option maxRecDepth 100000 in
set_option maxHeartbeats 1600000 in
theorem law_any (p ticks : Int) (ao : Option Addr) (n cap : Nat) (ops : List OpO) (w : World) (hn : ops.length = n) (_hmax : n ≤ 9223372036854775807)
    (hcell : ∀ i, i < n → ∃ b o, ao = some ⟨b, o, none⟩ ∧ ∀ i x, ops[i]? = some x → ∀ j u, (opO x)[j]? = some u → w.cell? ⟨b, o + i * 3 + j, none⟩ = some u) :
    Calls Try.prog 6 #[.int .i64 p, .slice ao n cap, .int .i64 ticks] w fun e w' => e = .returned (.bool true) ∧ Below w.heap.size w w' := by
  by_cases hp : p < 1 ∨ 1000 < p
  · go_enter Try.func6, Try.ntmps6
    go_wp2_with fail
    refine (AwakeO.awake_any w).mono ?_
    rintro e w1 ⟨rfl, hb1⟩
    go_wp2_with fail
    refine (OutOI.new_bad p 50 w1 (by omega)).mono ?_
    rintro e w2 ⟨rfl, rfl⟩
    go_wp2
    go_ret
    exact ⟨rfl, hb1⟩
  by_cases ht : ticks < 0 ∨ 3000 < ticks
  · by_cases ht1 : ticks < 0
    all_goals
      go_enter Try.func6, Try.ntmps6
      go_wp2_with fail
      refine (AwakeO.awake_any w).mono ?_
      rintro e w1 ⟨rfl, hb1⟩
      go_wp2_with fail
      refine (OutOI.new_good p 50 w1 (by omega) (by omega) (by omega) (by omega)).mono ?_
      rintro e w2 ⟨rfl, _, hb2⟩
      have HB := Lib.hid (hb1.trans (hb2.mono hb1.size))
      try have ht2 : 3000 < ticks := by omega
      clear ht hp hb1 hb2
      go_wp2
      go_ret
      exact ⟨rfl, HB.out⟩
  obtain ⟨T, rfl⟩ : ∃ T : Nat, ticks = (T : Int) := ⟨ticks.toNat, by omega⟩
  have hT : T ≤ 3000 := by omega
  have hp0 : 1 ≤ p := by omega
  have hp1 : p ≤ 1000 := by omega
  clear ht hp
  go_enter Try.func6, Try.ntmps6
  go_wp2_with fail
  refine (AwakeO.awake_any w).mono ?_
  rintro e w1 ⟨rfl, hb1⟩
  have HB1 := Lib.hid hb1
  clear hb1
  go_wp2_with fail
  refine (OutOI.new_good p 50 w1 (by omega) (by omega) (by omega) (by omega)).mono ?_
  rintro e w2 ⟨rfl, hO2, hb2⟩
  have H2 := Lib.hid (And.intro hO2 hb2)
  clear hO2 hb2
  go_wp2_with fail
  refine (OutOI.put_new H2.out.1 (by simp) (k := mine) (by rfl) (by simp) (-1)).mono ?_
  rintro e w3 ⟨rfl, v3, hO3, hf3, hm3⟩
  generalize hO : w1.heap.size = O at *
  have H3 : Hid (OutIs w3 O v3 [(mine, -1, 0)] p 50 ∧ (∀ x, ofoot O v3 x → w.heap.size ≤ x) ∧ Below w.heap.size w w3) := by
    have g1 := HB1.out.size
    have g2 := H2.out.2.size
    refine ⟨hO3, fun x hx => ?_, (HB1.out.trans (H2.out.2.mono (by omega))).trans (hm3.to_below (by omega) (fun x hx => ?_))⟩
    · rcases hf3 x hx with (h | h) | h
      · omega
      · simp [Value.ownBlock] at h
      · omega
    · rcases hx with h | h
      · omega
      · simp [Value.ownBlock] at h
  clear hO3 hf3 hm3
  have HOs := Lib.hid hO
  have HC := Lib.hid hcell
  clear hO H2 hcell
  go_wp2
  go_loopg [9, 10] (T) (fun g c i wx => ∃ (t : Nat) (nn a : Int) (v : Value) (l : List It), t + g = T ∧ i = .int .i64 (t : Int) ∧ c = .int .i64 nn ∧ OutIs wx O v l p 50 ∧ Due p a l ∧ Often p t a nn ∧ (∀ x, ofoot O v x → w.heap.size ≤ x) ∧ Below w.heap.size w wx)
  case atStart => exact ⟨0, 0, 0, v3, _, by omega, rfl, rfl, H3.out.1, Due.start hp0, Often.start hp0, H3.out.2.1, H3.out.2.2⟩
  case round =>
    obtain ⟨t, nn, a, v, l, htg, rfl, rfl, hO, hD, hF, hfoot, hbel⟩ := hrel
    have hnn := hF.bounds
    by_cases hg : gk = 0
    · have htT : ¬ ((t : Int) < (T : Int)) := by omega
      have hdone := hF.done
      rw [show t = T by omega] at hdone hnn
      have HE := Lib.hid (And.intro hO (And.intro hD (And.intro hfoot hbel)))
      clear hO hD hfoot hbel hF htg hg
      go_wp2_with fail
      refine (OutOI.ack_any HE.out.1 (by have := HE.out.2.1.len; omega) mine).mono ?_
      rintro e w4 ⟨rfl, v4, hO4, hf4, hm4⟩
      rw [HE.out.2.1.there]
      have H4 := Lib.hid hm4
      clear hO4 hf4 hm4
      go_wp2
      go_ret
      exact ⟨rfl, HE.out.2.2.2.trans (H4.out.to_below HE.out.2.2.2.size HE.out.2.2.1)⟩
    have htT : t < T := by omega
    have HR := Lib.hid (And.intro hO (And.intro hD (And.intro hF (And.intro hfoot (And.intro hbel htg)))))
    clear hO hD hF hfoot hbel htg hg
    go_upto_region 12 with fail
    go_cut [57] (fun s57 wx => ∃ b, s57 = .bool b ∧ (b = true → ∃ x, ops[t]? = some x ∧ x.2.2 ≠ mine) ∧ wx = wr)
    case first =>
      by_cases hlt : t < n
      · obtain ⟨b, o, rfl, hcells⟩ := HC.out t hlt
        obtain ⟨x, hx⟩ : ∃ x, ops[t]? = some x := ⟨_, List.getElem?_eq_getElem (by omega)⟩
        have c2 : wr.cell? ⟨b, o + t * 3 + 2, none⟩ = some (.string x.2.2) := by
          have h := hcells t x hx 2 _ rfl
          rw [HR.out.2.2.2.2.1.cell (p := ⟨b, _, none⟩) (World.block_lt_of_cell? w ⟨b, _, none⟩ h)]; exact h
        have HX := Lib.hid hx
        clear hx hcells
        by_cases hk : x.2.2 = mine
        · rw [hk] at c2
          unfold mine at c2
          go_wp2
          go_meet
          exact ⟨_, rfl, by simp, rfl⟩
        · have hk1 := beq_no hk
          unfold mine at hk1
          have HK := Lib.hid hk
          clear hk
          go_wp2
          go_meet
          exact ⟨_, rfl, fun _ => ⟨x, HX.out, HK.out⟩, rfl⟩
      · have hlt' : ¬ ((t : Int) < (n : Int)) := by omega
        go_wp2
        go_meet
        exact ⟨_, rfl, by simp, rfl⟩
    case rest =>
      obtain ⟨b, rfl, hb, rfl⟩ := hcut
      go_upto_if 57 with fail
      go_cut [] (fun wx => ∃ v l, OutIs wx O v l p 50 ∧ Due p a l ∧ (∀ x, ofoot O v x → w.heap.size ≤ x) ∧ Below w.heap.size w wx)
      case first =>
        cases b with
        | false =>
          clear hb
          go_wp2
          go_meet
          exact ⟨v, l, HR.out.1, HR.out.2.1, HR.out.2.2.2.1, HR.out.2.2.2.2.1⟩
        | true =>
          obtain ⟨x, hx, hk⟩ := hb rfl
          clear hb
          have hlt : t < n := by have := (List.getElem?_eq_some_iff.1 hx).1; omega
          obtain ⟨b, o, rfl, hcells⟩ := HC.out t hlt
          have c0 : wc.cell? ⟨b, o + t * 3, none⟩ = some (.int .i64 x.1) := by
            have h := hcells t x hx 0 _ rfl
            rw [Nat.add_zero] at h
            rw [HR.out.2.2.2.2.1.cell (p := ⟨b, _, none⟩) (World.block_lt_of_cell? w ⟨b, _, none⟩ h)]; exact h
          have c1 : wc.cell? ⟨b, o + t * 3 + 1, none⟩ = some (.int .i64 x.2.1) := by
            have h := hcells t x hx 1 _ rfl
            rw [HR.out.2.2.2.2.1.cell (p := ⟨b, _, none⟩) (World.block_lt_of_cell? w ⟨b, _, none⟩ h)]; exact h
          have c2 : wc.cell? ⟨b, o + t * 3 + 2, none⟩ = some (.string x.2.2) := by
            have h := hcells t x hx 2 _ rfl
            rw [HR.out.2.2.2.2.1.cell (p := ⟨b, _, none⟩) (World.block_lt_of_cell? w ⟨b, _, none⟩ h)]; exact h
          have HX := Lib.hid (And.intro hx hk)
          clear hx hk hcells
          by_cases hkind : x.1 = 0
          · rw [hkind] at c0
            clear hkind
            by_cases hneg : x.2.1 < 0
            · go_wp2_with fail
              go_region_with (go_at_call 37; refine (OutOI.put_any (HR.out.1.mod (S := fun _ => False) ((Mod.refl _ wc).drew) (fun _ _ h => h)) (by have := HR.out.2.1.len; omega) x.2.2 0).mono ?_; rintro e w4 ⟨rfl, v4, hO4, hf4, hm4⟩; have H4 := Lib.hid (And.intro hO4 (And.intro hf4 hm4)); clear hO4 hf4 hm4)
              all_goals go_wp2
              all_goals go_meet
              all_goals
                obtain ⟨hO4, hf4, hm4⟩ := H4.out
                have hbs := HR.out.2.2.2.2.1.size
                refine ⟨v4, _, hO4, HR.out.2.1.put hp0 HX.out.2 (by omega), fun y hy => ?_, HR.out.2.2.2.2.1.trans (((Mod.refl _ wc).drew.trans' hm4).to_below hbs HR.out.2.2.2.1)⟩
                rcases hf4 y hy with h | h
                · exact HR.out.2.2.2.1 y h
                · exact Nat.le_trans hbs h
            · have hneg' : (x.2.1 < 0) = False := eq_false hneg
              have HNEG := Lib.hid hneg
              clear hneg
              go_wp2_with fail
              go_region_with (go_at_call 37; refine (OutOI.put_any (HR.out.1.mod (S := fun _ => False) ((Mod.refl _ wc).drew) (fun _ _ h => h)) (by have := HR.out.2.1.len; omega) x.2.2 x.2.1).mono ?_; rintro e w4 ⟨rfl, v4, hO4, hf4, hm4⟩; have H4 := Lib.hid (And.intro hO4 (And.intro hf4 hm4)); clear hO4 hf4 hm4)
              all_goals go_wp2
              all_goals go_meet
              all_goals
                obtain ⟨hO4, hf4, hm4⟩ := H4.out
                have hbs := HR.out.2.2.2.2.1.size
                refine ⟨v4, _, hO4, HR.out.2.1.put hp0 HX.out.2 (by have := HNEG.out; omega), fun y hy => ?_, HR.out.2.2.2.2.1.trans (((Mod.refl _ wc).drew.trans' hm4).to_below hbs HR.out.2.2.2.1)⟩
                rcases hf4 y hy with h | h
                · exact HR.out.2.2.2.1 y h
                · exact Nat.le_trans hbs h
          · have hkind' : (x.1 == (0 : Int)) = false := by rw [beq_eq_false_iff_ne]; exact hkind
            clear hkind
            go_wp2_with fail
            refine (OutOI.ack_any HR.out.1 (by have := HR.out.2.1.len; omega) x.2.2).mono ?_
            rintro e w4 ⟨rfl, v4, hO4, hf4, hm4⟩
            have H4 := Lib.hid (And.intro hO4 (And.intro hf4 hm4))
            clear hO4 hf4 hm4
            go_wp2
            go_meet
            obtain ⟨hO4, hf4, hm4⟩ := H4.out
            have hbs := HR.out.2.2.2.2.1.size
            exact ⟨v4, _, hO4, HR.out.2.1.ack HX.out.2, fun y hy => HR.out.2.2.2.1 y (hf4 y hy), HR.out.2.2.2.2.1.trans (hm4.to_below hbs HR.out.2.2.2.1)⟩
      case rest =>
        obtain ⟨v4, l4, hO4, hD4, hf4, hb4⟩ := hcut
        have H4 := Lib.hid (And.intro hO4 (And.intro hD4 (And.intro hf4 hb4)))
        clear hO4 hD4 hf4 hb4 hb
        go_wp2_with fail
        refine (OutOI.tick_any H4.out.1 (by have := H4.out.2.1.len; omega) hp0 hp1 H4.out.2.1.ages).mono ?_
        rintro e w5 ⟨vo, rfl, hO5, hown5, hm5⟩
        obtain ⟨aq, cq, rfl, hlen5, hread5⟩ := own_read hown5
        have hcount := H4.out.2.1.count
        generalize hd : OutOI.due l4 = D at *
        have hdl : D.length ≤ 50 := by
          have h1 := due_length_le l4
          have h2 := H4.out.2.1.len
          rw [hd] at h1
          omega
        have H5 := Lib.hid (And.intro hO5 (And.intro hm5 (And.intro hread5 (And.intro hcount hd))))
        clear hO5 hown5 hm5 hread5 hcount hd hlen5
        go_wp2
        go_loopg [9, 87] (D.length) (fun g c i wx => ∃ (t2 : Nat), t2 + g = D.length ∧ i = .int .i64 (t2 : Int) ∧ c = .int .i64 (nn + ((D.take t2).count (-1) : Nat)) ∧ wx = w5)
        case atStart => exact ⟨0, by omega, rfl, by simp, rfl⟩
        case round =>
          obtain ⟨t2, htg2, rfl, rfl, rfl⟩ := hrel
          by_cases hg2 : gk = 0
          · have ht2 : ¬ ((t2 : Int) < (D.length : Int)) := by omega
            have HT2 := Lib.hid (show t2 = D.length by omega)
            clear htg2 hg2
            go_wp2
            go_roundg (T - t - 1)
            case measure => have := HR.out.2.2.2.2.2; omega
            case rel =>
              obtain ⟨hO5, hm5, hread5, hcount, hd⟩ := H5.out
              obtain ⟨hO4, hD4, hf4, hb4⟩ := H4.out
              refine ⟨t + 1, _, nexta p a, v4, _, by omega, by go_num, rfl, hO5, hD4.tick, ?_, hf4, hb4.trans (hm5.to_below hb4.size hf4)⟩
              rw [HT2.out, List.take_length, hcount]
              have := HR.out.2.2.1.next
              by_cases ha : a = 0 <;> simp [ha] at this ⊢ <;> exact this
          · have ht2 : t2 < D.length := by omega
            obtain ⟨z, hz⟩ : ∃ z, D[t2]? = some z := ⟨_, List.getElem?_eq_getElem ht2⟩
            obtain ⟨gq, rfl, _, cq0⟩ := H5.out.2.2.1 t2 (.int .i64 z) (by rw [List.getElem?_map, hz]; rfl)
            have hcl : (D.take t2).count (-1) ≤ 50 := Nat.le_trans (List.count_le_length) (by rw [List.length_take]; omega)
            have hnx : (D.take (t2 + 1)).count (-1) = (D.take t2).count (-1) + if z = -1 then 1 else 0 := by
              rw [List.take_add_one, hz, Option.toList_some, List.count_append, List.count_singleton]
              simp only [beq_iff_eq]
            have HN := Lib.hid (And.intro hnx (And.intro hz htg2))
            clear hnx hz htg2 hg2
            generalize (D.take t2).count (-1) = q at *
            by_cases hz1 : z = -1
            · subst hz1
              go_wp2
              go_roundg (gk - 1)
              case measure => have := HN.out.2.2; omega
              case rel =>
                obtain ⟨hnx, hz, htg2⟩ := HN.out
                refine ⟨t2 + 1, by omega, by go_num, ?_, rfl⟩
                rw [hnx]
                simp
                omega
            · have hz1' : (z == (-1 : Int)) = false := by rw [beq_eq_false_iff_ne]; exact hz1
              have HZ := Lib.hid hz1
              clear hz1
              go_wp2
              go_roundg (gk - 1)
              case measure => have := HN.out.2.2; omega
              case rel =>
                obtain ⟨hnx, hz, htg2⟩ := HN.out
                refine ⟨t2 + 1, by omega, by go_num, ?_, rfl⟩
                rw [hnx, if_neg HZ.out]
                rfl

theorem row {w : World} (p : Int) (v : Value) (ops : List OpO) (h : SliceIs 3 (fun _ cs x => cs = opO x) w v ops) (ticks : Int) :
    Calls Try.prog 6 #[.int .i64 p, v, .int .i64 ticks] w fun e w' => e = .returned (.bool true) ∧ Below w.heap.size w w' := by
  obtain ⟨ao, cap, rfl, hl, hc⟩ := h.flat
  exact law_any p ticks ao _ cap ops w rfl hl (fun i hi => by obtain ⟨b, o, h1, _, h2⟩ := hc i hi; exact ⟨b, o, h1, h2⟩)
end Go.Proofs.Ytepgaphhinacmaa.OutboxDue
