/- porterlaw13.OutboxRow answers true at every input. -/
import Derived.Test.YtepgaphhinacmaaOutboxRowA
import Derived.Test.YtepgaphhinacmaaAwakeO
import Derived.Test.YtepgaphhinacmaaOps
import Derived.Test.YtepgaphhinacmaaOutboxDueB
namespace Go.Proofs.Ytepgaphhinacmaa.OutboxRow
open Go.RowKit Go.Por Go.Proofs.Ytepgaphhinacmaa.OutOS Go.Proofs.Ytepgaphhinacmaa.Ops
open Go.Proofs.Ytepgaphhinacmaa.OutboxDue (own_read)

theorem keyStr : KeyOK Try.prog 9 ByteArray (fun s => Value.string s) := KeyOK.str Try.underlying9
theorem zeroBool (w : World) : (zeroValue 4).run Try.prog w = .ok (.bool false) w := by kernel_rfl
theorem look_bool {w : World} {G : Nat} {gm : List (ByteArray × Value)} (h : MapIs w G (fun s => Value.string s) gm) (hb : ∀ q ∈ gm, ∃ b : Bool, q.2 = .bool b) {k : ByteArray} (hk : (k, Value.bool true) ∉ gm) :
    (Instr.lookup 97 (.map (some G)) (.string k) false).run Try.prog w = .ok (.bool false) w := by
  by_cases hm : k ∈ gm.map Prod.fst
  · obtain ⟨q, hq, e⟩ := List.mem_map.1 hm
    obtain ⟨b, hqb⟩ := hb q hq
    have hm2 : (k, Value.bool b) ∈ gm := by rw [← e, ← hqb]; exact hq
    cases b with
    | true => exact absurd hm2 hk
    | false => exact h.look_hit keyStr Try.underlying97 hm2 false
  · exact h.look_miss keyStr Try.underlying97 hm (zeroBool w) false

/-- What holds at a round's head. -/
structure Head (w0 w : World) (O G : Nat) (p : Int) (v : Value) (l : List It) (gm : List (ByteArray × Value)) : Prop where
  box : OutIs w O v l p 4096
  gone : MapIs w G (fun s => Value.string s) gm
  inv : RowInv p l gm
  ge : ∀ x, ofoot O v x → w0.heap.size ≤ x
  geG : w0.heap.size ≤ G
  apart : ¬ ofoot O v G
  below : Below w0.heap.size w0 w

variable {w0 w w' : World} {O G : Nat} {p : Int} {v : Value} {l : List It} {gm : List (ByteArray × Value)}
theorem Head.mod (h : Head w0 w O G p v l gm) {S : Nat → Prop} (hm : Mod S w w') (hs : ∀ x, S x → w.heap.size ≤ x) : Head w0 w' O G p v l gm where
  box := h.box.mod hm (fun x hx hS => by have := h.box.lt x hx; have := hs x hS; omega)
  gone := h.gone.mod hm (fun hS => by have := h.gone.lt; have := hs G hS; omega)
  inv := h.inv
  ge := h.ge
  geG := h.geG
  apart := h.apart
  below := h.below.trans (hm.to_below h.below.size (fun x hx => by have := hs x hx; have := h.below.size; omega))
theorem Head.alloc (h : Head w0 w O G p v l gm) (o : Obj) : Head w0 (w.alloc o) O G p v l gm := h.mod (S := fun _ => False) ((Mod.refl _ w).alloc o) (fun _ h => h.elim)
/-- A call of the box. -/
theorem Head.call (h : Head w0 w O G p v l gm) {v' : Value} {l' : List It} {gm' : List (ByteArray × Value)} (hb : OutIs w' O v' l' p 4096) (hf : ∀ x, ofoot O v' x → ofoot O v x ∨ w.heap.size ≤ x) (hm : Mod (ofoot O v) w w') (hi : RowInv p l' gm) (_ : gm = gm') : Head w0 w' O G p v' l' gm where
  box := hb
  gone := h.gone.mod hm h.apart
  inv := hi
  ge := fun x hx => by rcases hf x hx with h1 | h1; exact h.ge x h1; have := h.below.size; omega
  geG := h.geG
  apart := fun hG => by rcases hf G hG with h1 | h1; exact h.apart h1; have := h.gone.lt; omega
  below := h.below.trans (hm.to_below h.below.size h.ge)

/-- A call of the box, and a store into the map. -/
theorem Head.write (h : Head w0 w O G p v l gm) {v' : Value} {l' : List It} {gm' : List (ByteArray × Value)} {o : Obj} (hb : OutIs w' O v' l' p 4096) (hf : ∀ x, ofoot O v' x → ofoot O v x ∨ w.heap.size ≤ x) (hm : Mod (ofoot O v) w w')
    (hg : MapIs (setB w' G o) G (fun s => Value.string s) gm') (hi : RowInv p l' gm') : Head w0 (setB w' G o) O G p v' l' gm' := by
  have hap : ¬ ofoot O v' G := fun hG => by rcases hf G hG with h1 | h1; exact h.apart h1; have := h.gone.lt; omega
  refine ⟨hb.mod (setB_mod w' G o) (fun x hx e => hap (by rw [← show x = G from e]; exact hx)), hg, hi, ?_, h.geG, hap, ?_⟩
  · intro x hx
    rcases hf x hx with h1 | h1
    · exact h.ge x h1
    · have := h.below.size; omega
  · have h1 := h.below.trans (hm.to_below h.below.size h.ge)
    exact h1.trans ((setB_mod w' G o).to_below h1.size (fun x hx => by rw [show x = G from hx]; exact h.geG))

set_option maxRecDepth 100000 in
set_option maxHeartbeats 1600000 in
theorem law_any (p : Int) (ao : Option Addr) (n cap : Nat) (ops : List OpO) (w : World) (hn : ops.length = n) (_hmax : n ≤ 9223372036854775807)
    (hcell : ∀ i, i < n → ∃ b o, ao = some ⟨b, o, none⟩ ∧ ∀ i x, ops[i]? = some x → ∀ j u, (opO x)[j]? = some u → w.cell? ⟨b, o + i * 3 + j, none⟩ = some u) :
    Calls Try.prog 9 #[.int .i64 p, .slice ao n cap] w fun e w' => e = .returned (.bool true) ∧ Below w.heap.size w w' := by
  by_cases hp : p < 1 ∨ 1000 < p
  · go_enter Try.func9, Try.ntmps9
    go_wp2_with fail
    refine (AwakeO.awake_any w).mono ?_
    rintro e w1 ⟨rfl, hb1⟩
    go_wp2_with fail
    refine (OutOS.new_bad p 4096 w1 (by omega)).mono ?_
    rintro e w2 ⟨rfl, rfl⟩
    go_wp2
    go_ret
    exact ⟨rfl, hb1⟩
  have hp0 : 1 ≤ p := by omega
  have hp1 : p ≤ 1000 := by omega
  clear hp
  have hmm := @run_makeMap Try.prog
  go_enter Try.func9, Try.ntmps9
  go_wp2_with fail
  refine (AwakeO.awake_any w).mono ?_
  rintro e w1 ⟨rfl, hb1⟩
  have HB1 := Lib.hid hb1
  clear hb1
  go_wp2_with fail
  refine (OutOS.new_good p 4096 w1 (by omega) (by omega) (by omega) (by omega)).mono ?_
  rintro e w2 ⟨rfl, hO2, hb2⟩
  have hH : Head w (w2.alloc (.map #[] 0)) w1.heap.size w2.heap.size p (.slice none 0 0) [] [] := by
    have g1 := HB1.out.size
    have g2 := hb2.size
    have g3 := hO2.lt w1.heap.size (.inl rfl)
    refine ⟨hO2.mod (S := fun _ => False) ((Mod.refl _ w2).alloc _) (fun _ _ h => h), MapIs.made _ _, ⟨by simp, by simp, by simp, by simp, by simp, by simp⟩, fun x hx => ?_, by omega, fun hx => ?_, (HB1.out.trans (hb2.mono g1)).alloc (by omega) _⟩
    · rcases hx with h | h
      · omega
      · simp [Value.ownBlock] at h
    · rcases hx with h | h
      · omega
      · simp [Value.ownBlock] at h
  have HH := Lib.hid hH
  have HC := Lib.hid hcell
  generalize w1.heap.size = O at *
  clear hO2 hb2 hH hcell
  go_wp2
  generalize w2.heap.size = G at *
  go_loopg [28] (n) (fun g i wx => ∃ (t : Nat) (v : Value) (l : List It) (gm : List (ByteArray × Value)), t + g = n ∧ i = .int .i64 (t : Int) ∧ Head w wx O G p v l gm)
  case atStart => exact ⟨0, _, [], [], by omega, rfl, HH.out⟩
  case round =>
    obtain ⟨t, v, l, gm, htg, rfl, hH⟩ := hrel
    by_cases hg : gk = 0
    · have hk : ¬ ((t : Int) < (n : Int)) := by omega
      have HB := Lib.hid hH.below
      clear hH htg hg
      go_wp2
      go_ret
      exact ⟨rfl, HB.out⟩
    have ht : t < n := by omega
    obtain ⟨b, o, rfl, hcells⟩ := HC.out t ht
    obtain ⟨x, hx⟩ : ∃ x, ops[t]? = some x := ⟨_, List.getElem?_eq_getElem (by omega)⟩
    have c0 : wr.cell? ⟨b, o + t * 3, none⟩ = some (.int .i64 x.1) := by
      have h := hcells t x hx 0 _ rfl
      rw [Nat.add_zero] at h
      rw [hH.below.cell (p := ⟨b, _, none⟩) (World.block_lt_of_cell? w ⟨b, _, none⟩ h)]; exact h
    have c1 : wr.cell? ⟨b, o + t * 3 + 1, none⟩ = some (.int .i64 x.2.1) := by
      have h := hcells t x hx 1 _ rfl
      rw [hH.below.cell (p := ⟨b, _, none⟩) (World.block_lt_of_cell? w ⟨b, _, none⟩ h)]; exact h
    have c2 : wr.cell? ⟨b, o + t * 3 + 2, none⟩ = some (.string x.2.2) := by
      have h := hcells t x hx 2 _ rfl
      rw [hH.below.cell (p := ⟨b, _, none⟩) (World.block_lt_of_cell? w ⟨b, _, none⟩ h)]; exact h
    have hH3 := hH.alloc (.cells #[.int .i64 x.1, .int .i64 x.2.1, .string x.2.2] 76)
    have hfl : ∀ y, ofoot O v y → y < wr.heap.size := hH.box.lt
    have HR := Lib.hid (And.intro hH3 (And.intro htg hfl))
    clear hx hcells hH hH3 htg hg hfl
    by_cases hk0 : x.1 = 0
    · rw [hk0] at c0 HR
      clear hk0
      go_wp2_with fail
      refine (OutOS.put_any HR.out.1.box (by have := HR.out.1.inv.len; omega) x.2.2 x.2.2).mono ?_
      rintro e w4 ⟨rfl, v4, hO4, hf4, hm4⟩
      have c9 : w4.cell? ⟨wr.heap.size, 2, none⟩ = some (.string x.2.2) := by
        rw [hm4.cell (p := ⟨wr.heap.size, 2, none⟩) (by simp) (fun h => by have h1 := HR.out.2.2 _ h; exact absurd h1 (Nat.lt_irrefl _))]
        exact cell_of (block_new wr _) rfl
      rcases oput_code l x.2.2 with hc | ⟨hc, hl⟩
      · have hg4 := HR.out.1.gone.mod hm4 HR.out.1.apart
        obtain ⟨o4, hst4, hg5⟩ := hg4.store keyStr Try.underlying97 x.2.2 (.bool false)
        have H5 := Lib.hid (HR.out.1.write hO4 hf4 hm4 hg5 (HR.out.1.inv.put hp0 x.2.2 hc))
        rw [hc]
        clear hO4 hf4 hm4 hg4 hg5 hc
        go_wp2
        go_roundg (gk - 1)
        case measure => have := HR.out.2.1; omega
        case rel => exact ⟨t + 1, _, _, _, by have := HR.out.2.1; omega, by go_num, H5.out⟩
      · rw [hl] at hO4
        have H5 := Lib.hid (HR.out.1.call hO4 hf4 hm4 HR.out.1.inv rfl)
        rw [hc]
        clear hO4 hf4 hm4 hc hl
        go_wp2
        go_roundg (gk - 1)
        case measure => have := HR.out.2.1; omega
        case rel => exact ⟨t + 1, _, _, _, by have := HR.out.2.1; omega, by go_num, H5.out⟩
    by_cases hk1 : x.1 = 1
    · rw [hk1] at c0 HR
      clear hk0 hk1
      go_wp2_with fail
      refine (OutOS.ack_any HR.out.1.box (by have := HR.out.1.inv.len; omega) x.2.2).mono ?_
      rintro e w4 ⟨rfl, v4, hO4, hf4, hm4⟩
      have c9 : w4.cell? ⟨wr.heap.size, 2, none⟩ = some (.string x.2.2) := by
        rw [hm4.cell (p := ⟨wr.heap.size, 2, none⟩) (by simp) (fun h => by have h1 := HR.out.2.2 _ h; exact absurd h1 (Nat.lt_irrefl _))]
        exact cell_of (block_new wr _) rfl
      have hg4 := HR.out.1.gone.mod hm4 HR.out.1.apart
      obtain ⟨o4, hst4, hg5⟩ := hg4.store keyStr Try.underlying97 x.2.2 (.bool true)
      have H5 := Lib.hid (HR.out.1.write hO4 (fun y hy => .inl (hf4 y hy)) hm4 hg5 (HR.out.1.inv.ack x.2.2))
      clear hO4 hf4 hm4 hg4 hg5
      go_wp2
      go_roundg (gk - 1)
      case measure => have := HR.out.2.1; omega
      case rel => exact ⟨t + 1, _, _, _, by have := HR.out.2.1; omega, by go_num, H5.out⟩
    by_cases hk2 : x.1 = 2
    · rw [hk2] at c0 HR
      clear hk0 hk1 hk2
      go_wp2_with fail
      refine (OutOS.keys_any HR.out.1.box (by have := HR.out.1.inv.len; omega)).mono ?_
      rintro e w4 ⟨vk, rfl, hown4, hb4⟩
      have hH4 := HR.out.1.mod (S := fun y => (wr.alloc (.cells #[.int .i64 2, .int .i64 x.2.1, .string x.2.2] 76)).heap.size ≤ y) (Mod.of_below hb4 _) (fun _ h => h)
      obtain ⟨ak, ck, rfl, hklen, hkread⟩ := own_read hown4
      have hkge : ∀ i u, (l.map (fun x => Value.string x.1))[i]? = some u → ∃ g, ak = some ⟨g, 0, none⟩ ∧ ¬ ofoot O v g ∧ g < w4.heap.size ∧ w4.cell? ⟨g, i, none⟩ = some u := by
        intro i u hu
        obtain ⟨g, h1, h2, h3⟩ := hkread i u hu
        refine ⟨g, h1, fun h => ?_, World.block_lt_of_cell? w4 ⟨g, _, none⟩ h3, h3⟩
        have h4 := HR.out.2.2 _ h
        rw [World.size_alloc] at h2
        omega
      have hll : l.length ≤ 4096 := by have := HR.out.1.inv.len; omega
      have H4 := Lib.hid (And.intro hH4 hkge)
      clear hown4 hb4 hH4 hklen hkread hkge
      go_wp2_with fail
      refine (OutOS.tick_any H4.out.1.box hll hp0 hp1 H4.out.1.inv.ages).mono ?_
      rintro e w5 ⟨vo, rfl, hO5, hown5, hm5⟩
      have hkey5 : ∀ i (y : It), l[i]? = some y → ∃ g, ak = some ⟨g, 0, none⟩ ∧ w5.cell? ⟨g, i, none⟩ = some (.string y.1) := by
        intro i y hy
        obtain ⟨g, h1, h2, h3, h4⟩ := H4.out.2 i (.string y.1) (by rw [List.getElem?_map, hy]; rfl)
        exact ⟨g, h1, by rw [hm5.cell (p := ⟨g, i, none⟩) h3 h2]; exact h4⟩
      obtain ⟨aq, cq, rfl, hlen5, hread5⟩ := own_read hown5
      have hH5 := H4.out.1.call hO5 (fun y hy => .inl hy) hm5 H4.out.1.inv.tick rfl
      generalize hd : OutOS.due l = D at *
      have hdl : D.length ≤ 4096 := by
        have h1 := due_length_le l
        rw [hd] at h1
        omega
      have H5 := Lib.hid (And.intro hH5 (And.intro hkey5 (And.intro hread5 hd)))
      clear hO5 hown5 hm5 hkey5 hlen5 hread5 hH5 hd
      go_wp2
      go_loopg [11, 62] (D.length) (fun g c i wx => ∃ (t2 : Nat) (A B : List It), t2 + g = D.length ∧ i = .int .i64 (t2 : Int) ∧ l = A ++ B ∧ c = .int .i64 (A.length : Int) ∧ OutOS.due B = D.drop t2 ∧ wx = w5)
      case atStart => exact ⟨0, [], l, by omega, rfl, rfl, rfl, H5.out.2.2.2, rfl⟩
      case round =>
        obtain ⟨t2, A, B, htg2, rfl, hAB, rfl, hdB, rfl⟩ := hrel
        by_cases hg2 : gk = 0
        · have ht2 : ¬ ((t2 : Int) < (D.length : Int)) := by omega
          clear htg2 hg2 hAB hdB
          go_wp2
          go_roundg (n - t - 1)
          case measure => have := HR.out.2.1; omega
          case rel => exact ⟨t + 1, _, _, _, by have := HR.out.2.1; omega, by go_num, H5.out.1⟩
        have ht2 : t2 < D.length := by omega
        obtain ⟨z, hz⟩ : ∃ z, D[t2]? = some z := ⟨_, List.getElem?_eq_getElem ht2⟩
        have hzd : D.drop t2 = z :: D.drop (t2 + 1) := by
          rw [List.drop_eq_getElem_cons ht2]
          congr 1
          rw [List.getElem?_eq_getElem ht2] at hz
          exact Option.some.inj hz
        obtain ⟨B1, y, B2, rfl, hd1, hy0, hyz, hd2⟩ := due_next (hdB.trans hzd)
        obtain ⟨gq, rfl, _, cq0⟩ := H5.out.2.2.1 t2 (.string z) (by rw [List.getElem?_map, hz]; rfl)
        have hym : y ∈ l := by rw [hAB]; simp
        have hy1 : y.1 = z := by rw [← hyz]; exact (HR.out.1.inv.val y hym).symm
        have hlz := look_bool H5.out.1.gone H5.out.1.inv.bools (k := z) (by rw [← hy1]; exact HR.out.1.inv.gone y hym)
        have hABl : A.length + B1.length < l.length := by rw [hAB]; simp
        have hyat : l[A.length + B1.length]? = some y := by rw [hAB, List.getElem?_append_right (by omega), Nat.add_sub_cancel_left, List.getElem?_append_right (Nat.le_refl _), Nat.sub_self]; rfl
        have hbat : ∀ j, j < B1.length → ∃ u, l[A.length + j]? = some u ∧ u.1 ≠ z := by
          intro j hj
          refine ⟨B1[j], by rw [hAB, List.getElem?_append_right (by omega), Nat.add_sub_cancel_left, List.getElem?_append_left hj, List.getElem?_eq_getElem hj], fun e => ?_⟩
          have hnd := HR.out.1.inv.nodup
          rw [hAB, List.map_append, List.nodup_append, List.map_append, List.nodup_append] at hnd
          exact hnd.2.1.2.2 B1[j].1 (List.mem_map.2 ⟨_, List.getElem_mem hj, rfl⟩) y.1 (by simp) (e.trans hy1.symm)
        have HN := Lib.hid (And.intro hAB (And.intro htg2 (And.intro hd2 (And.intro hyat (And.intro hbat hy1)))))
        clear hAB htg2 hd2 hyat hbat hy1 hz hzd hdB hd1 hy0 hyz hym hg2
        go_upto_block 5 with fail
        go_cut [11] (fun s11 wx => s11 = .int .i64 ((A.length : Int) + (B1.length : Int)) ∧ wx = wr)
        case first =>
          go_wp2
          go_loopg [11] (B1.length) (fun g c wx => ∃ j : Nat, j + g = B1.length ∧ c = .int .i64 ((A.length : Int) + (j : Int)) ∧ wx = wr)
          case atStart => exact ⟨0, by omega, by simp, rfl⟩
          case round =>
            obtain ⟨j, hjg, rfl, rfl⟩ := hrel
            by_cases hg3 : gk = 0
            · obtain ⟨gq2, h1, ck⟩ := H5.out.2.1 (A.length + B1.length) y HN.out.2.2.2.1
              cases h1
              rw [HN.out.2.2.2.2.2] at ck
              have hjB : j = B1.length := by omega
              subst hjB
              have hlt : (A.length : Int) + (B1.length : Int) < (l.length : Int) := by omega
              clear hjg hg3
              go_wp2
              go_meet
              exact ⟨rfl, rfl⟩
            · have hj : j < B1.length := by omega
              obtain ⟨u, hu, hune⟩ := HN.out.2.2.2.2.1 j hj
              obtain ⟨gq2, h1, ck⟩ := H5.out.2.1 (A.length + j) u hu
              cases h1
              have hk1 := beq_no hune
              have hlt : (A.length : Int) + (j : Int) < (l.length : Int) := by omega
              have HJ := Lib.hid hjg
              clear hjg hg3 hu hune
              go_wp2
              go_roundg (gk - 1)
              case measure => have := HJ.out; omega
              case rel => exact ⟨j + 1, by have := HJ.out; omega, by go_num, rfl⟩
        case rest =>
          obtain ⟨rfl, rfl⟩ := hcut
          have hat : ((A.length : Int) + (B1.length : Int) == (l.length : Int)) = false := by rw [beq_eq_false_iff_ne]; omega
          go_wp2
          go_roundg (gk - 1)
          case measure => have := HN.out.2.1; omega
          case rel =>
            obtain ⟨hAB, htg2, hd2, hyat, hbat, hy1⟩ := HN.out
            exact ⟨t2 + 1, A ++ B1 ++ [y], B2, by omega, by go_num, by rw [hAB]; simp, by simp; go_num, hd2, rfl⟩
    · have e0 : (x.1 == (0 : Int)) = false := by rw [beq_eq_false_iff_ne]; exact hk0
      have e1 : (x.1 == (1 : Int)) = false := by rw [beq_eq_false_iff_ne]; exact hk1
      have e2 : (x.1 == (2 : Int)) = false := by rw [beq_eq_false_iff_ne]; exact hk2
      clear hk0 hk1 hk2
      go_wp2
      go_roundg (gk - 1)
      case measure => have := HR.out.2.1; omega
      case rel => exact ⟨t + 1, v, l, gm, by have := HR.out.2.1; omega, by go_num, HR.out.1⟩

theorem row {w : World} (p : Int) (v : Value) (ops : List OpO) (h : SliceIs 3 (fun _ cs x => cs = opO x) w v ops) :
    Calls Try.prog 9 #[.int .i64 p, v] w fun e w' => e = .returned (.bool true) ∧ Below w.heap.size w w' := by
  obtain ⟨ao, cap, rfl, hl, hc⟩ := h.flat
  exact law_any p ao _ cap ops w rfl hl (fun i hi => by obtain ⟨b, o, h1, _, h2⟩ := hc i hi; exact ⟨b, o, h1, h2⟩)
end Go.Proofs.Ytepgaphhinacmaa.OutboxRow
