/- porterlaw10.CachePlays answers true at every input. -/
import Derived.Test.YtepgaphhinacmaaCachePlaysB
import Derived.Test.YtepgaphhinacmaaRows2
import Derived.Deep.CutBlock
import Derived.Deep.DeepCutAuto
import Derived.Deep.RegionWith
import Derived.Deep.LoopGhost
namespace Go.Proofs.Ytepgaphhinacmaa.CachePlays
open Go.RowKit Go.Por Go.Proofs.Ytepgaphhinacmaa.CacheSI Go.Proofs.Ytepgaphhinacmaa.OpsC Go.Proofs.Ytepgaphhinacmaa.Ref10K Go.Proofs.YtepgaphhinacmaaW.PrintWords Go.Proofs.Ytepgaphhinacmaa.PCachePlays

theorem filter_two {α : Type} (p : α → Bool) (l : List α) : (l.filter p).length + (l.filter (fun x => !p x)).length = l.length := by
  induction l with
  | nil => rfl
  | cons x r ih =>
    cases h : p x
    · rw [List.filter_cons_of_neg (by simp [h]), List.filter_cons_of_pos (by simp [h])]; simp only [List.length_cons]; omega
    · rw [List.filter_cons_of_pos h, List.filter_cons_of_neg (by simp [h])]; simp only [List.length_cons]; omega
theorem kv_filter (p : ByteArray → Bool) (es : Es) : kv (es.filter (fun x => p x.1)) = (kv es).filter (fun x => p x.1) := by
  unfold kv
  rw [List.filter_map]
  rfl
theorem foot_filter {C M : Nat} {es : Es} (p : (ByteArray × Int × Nat) → Bool) {y : Nat} (h : y ∈ foot C M (es.filter p)) : y ∈ foot C M es := by
  simp only [foot, List.mem_cons, List.mem_map, List.mem_filter] at h ⊢
  rcases h with h | h | ⟨z, ⟨h1, _⟩, h2⟩
  · exact .inl h
  · exact .inr (.inl h)
  · exact .inr (.inr ⟨z, h1, h2⟩)
/-- A row of the call's own, as it is read. -/
theorem row_reads {w : World} {base : Nat} {e : TypeId} {v : Value} {n : Nat} {xs : List Value} (h : w.ownsRow base e 1 v n xs) :
    ∃ a cap, v = .slice a n cap ∧ xs.length = n ∧ ∀ i, i < n → ∃ g, a = some ⟨g, 0, none⟩ ∧ base ≤ g ∧ g < w.heap.size ∧ ∀ j x, xs[j]? = some x → w.cell? ⟨g, j, none⟩ = some x := by
  obtain ⟨h1, ⟨rfl, rfl⟩ | ⟨g, cap, cur, rfl, hg, hb, _, _, _, hx⟩⟩ := h
  · exact ⟨none, 0, rfl, by simpa using h1, fun i hi => by omega⟩
  · refine ⟨_, cap, rfl, by simpa using h1, fun i hi => ⟨g, rfl, hg, lt_block hb, fun j x hx' => cell_of hb ?_⟩⟩
    rw [← hx, List.getElem?_take] at hx'
    split at hx'
    · rw [← Array.getElem?_toList]; exact hx'
    · cases hx'
set_option maxRecDepth 100000 in
set_option maxHeartbeats 4000000 in
theorem law_any (s : Int) (ao : Option Addr) (n cap : Nat) (ops : List OpC) (w : World) (hn : ops.length = n) (hmax : n ≤ 9223372036854775807)
    (hcell : ∀ i, i < n → ∃ b o, ao = some ⟨b, o, none⟩ ∧ ∀ i x, ops[i]? = some x → ∀ j u, (opC x)[j]? = some u → w.cell? ⟨b, o + i * 3 + j, none⟩ = some u) :
    Calls Try.prog 5 #[.int .i64 s, .slice ao n cap] w fun e w' => e = .returned (.bool true) ∧ Below w.heap.size w w' := by
  by_cases hs : s < 1 ∨ 4096 < s
  · have hwr : porterref10_Wrong.f s = some 1 := by
      unfold porterref10_Wrong.f
      rcases hs with h | h
      · rw [if_pos h]
      · rw [if_neg (by omega), if_pos (by omega)]
    have HW := Lib.hid hwr
    clear hwr
    go_enter Try.func5, Try.ntmps5
    go_wp2_with fail
    refine (AwakeC.awake_any w).mono ?_
    rintro e w1 ⟨rfl, hb1⟩
    go_wp2_with fail
    refine (CacheSI.new_bad s w1 hs).mono ?_
    rintro e w2 ⟨rfl, rfl⟩
    go_wp2_with fail
    refine (porterref10_Wrong.calls s 1 w1 HW.out).mono ?_
    rintro e w2 ⟨rfl, ⟨⟨n2, rfl⟩⟩⟩
    go_wp2
    go_ret
    exact ⟨rfl, hb1.trans (Mod.to_below ((Mod.refl (fun _ => False) w1).drewN n2) hb1.size (fun _ h => h.elim))⟩
  have hs1 : 1 ≤ s := by omega
  have hs2 : s ≤ 4096 := by omega
  have hwr : porterref10_Wrong.f s = some 0 := by
    unfold porterref10_Wrong.f
    rw [if_neg (by omega), if_neg (by omega)]
  have HWr := Lib.hid hwr
  clear hs hwr
  go_enter Try.func5, Try.ntmps5
  go_wp2_with fail
  refine (AwakeC.awake_any w).mono ?_
  rintro e w1 ⟨rfl, hb1⟩
  have HB1 := Lib.hid hb1
  clear hb1
  go_wp2_with fail
  refine (CacheSI.new_good s w1 hs1 hs2).mono ?_
  rintro e w2 ⟨C, M, rfl, hc2, hC, hM, hb2⟩
  have H2 := Lib.hid (And.intro hc2 (And.intro hC (And.intro hM hb2)))
  clear hc2 hC hM hb2
  go_wp2_with fail
  refine (porterref10_Wrong.calls s 0 w2 HWr.out).mono ?_
  rintro e w3 ⟨rfl, hdr⟩
  have hm3 : Mod (fun _ => False) w2 w3 := by
    obtain ⟨⟨n3, rfl⟩⟩ := hdr
    exact (Mod.refl _ w2).drewN n3
  have hz3 : w3.heap.size = w2.heap.size := by
    obtain ⟨⟨n3, rfl⟩⟩ := hdr
    rfl
  clear hdr
  have hH : Head w (w3.alloc (.cells #[.slice none 0 0, .int .i64 s, .int .i64 0, .int .i64 0] 50)) C M w3.heap.size (.slice none 0 0) [] s 0 0 := by
    obtain ⟨hc2, hC, hM, hb2⟩ := H2.out
    have g1 := HB1.out.size
    have g2 := hb2.size
    have g4 : ∀ x, (Value.slice none 0 0).ownBlock = some x → False := by intro x hx; simp [Value.ownBlock] at hx
    have hm : Mod (fun _ => False) w2 (w3.alloc (.cells #[.slice none 0 0, .int .i64 s, .int .i64 0, .int .i64 0] 50)) := hm3.alloc _
    have hlt := hc2.lt
    refine ⟨hc2.mod hm (fun _ _ h => h), by simp; omega, block_new w3 _, World.ownsRow_nil _ _ _ _, fun x hx => ?_, by omega, fun hx => ?_, fun x hx => (g4 x hx).elim, (HB1.out.trans (hb2.mono g1)).trans (hm.to_below (by omega) (fun _ h => h.elim))⟩
    · simp [foot] at hx
      omega
    · have := hlt _ hx
      omega
  have HH := Lib.hid hH
  have HC := Lib.hid hcell
  clear H2 hH hcell hm3 hz3
  go_wp2
  generalize w3.heap.size = RB at *
  go_loopg [52] (n) (fun g i wx => ∃ (t : Nat) (vI : Value) (es : Es) (h m : Int), t + g = n ∧ i = .int .i64 (t : Int) ∧ Head w wx C M RB vI es s h m)
  case atStart => exact ⟨0, _, _, _, _, by omega, rfl, HH.out⟩
  case round =>
    obtain ⟨t, vI, es, h, m, htg, rfl, hH⟩ := hrel
    by_cases hg : gk = 0
    · have hk : ¬ ((t : Int) < (n : Int)) := by omega
      have HB := Lib.hid hH.below
      clear hH htg hg
      go_wp2
      go_ret
      exact ⟨rfl, HB.out⟩
    have ht : t < n := by omega
    obtain ⟨b, o, rfl, hcells⟩ := HC.out t ht
    obtain ⟨x, hx⟩ : ∃ x, ops[t]? = some x := ⟨_, List.getElem?_eq_getElem (by omega)⟩
    have c0 : wr.cell? ⟨b, o + t * 3, none⟩ = some (.int .i64 x.1) := by
      have h := hcells t x hx 0 _ rfl
      rw [Nat.add_zero] at h
      rw [hH.below.cell (p := ⟨b, _, none⟩) (World.block_lt_of_cell? w ⟨b, _, none⟩ h)]; exact h
    have c1 : wr.cell? ⟨b, o + t * 3 + 1, none⟩ = some (.int .i64 x.2.1) := by
      have h := hcells t x hx 1 _ rfl
      rw [hH.below.cell (p := ⟨b, _, none⟩) (World.block_lt_of_cell? w ⟨b, _, none⟩ h)]; exact h
    have c2 : wr.cell? ⟨b, o + t * 3 + 2, none⟩ = some (.string x.2.2) := by
      have h := hcells t x hx 2 _ rfl
      rw [hH.below.cell (p := ⟨b, _, none⟩) (World.block_lt_of_cell? w ⟨b, _, none⟩ h)]; exact h
    have HR := Lib.hid (And.intro hH htg)
    clear hx hcells hH htg hg
    go_upto_block 2 with fail
    generalize hX : wr.heap.size = X at *
    have hH1 := HR.out.1.alloc (.cells #[.int .i64 x.1, .int .i64 x.2.1, .string x.2.2] 52)
    have hbX := block_new wr (.cells #[.int .i64 x.1, .int .i64 x.2.1, .string x.2.2] 52)
    have hfX : X ∉ foot C M es := fun e => by have := HR.out.1.box.lt X e; omega
    have hRX : RB ≠ X := fun e => by have := lt_block HR.out.1.ref; omega
    have hvX : ∀ k, vI.ownBlock = some k → k ≠ X := fun k hk e => by have := (HR.out.1.its.lt k hk).2; omega
    rw [hX] at hbX
    generalize wr.alloc (.cells #[.int .i64 x.1, .int .i64 x.2.1, .string x.2.2] 52) = W1 at *
    have HG := Lib.hid (And.intro hH1 (And.intro hbX (And.intro hfX (And.intro hRX hvX))))
    clear hH1 hbX hfX hvX c0 c1 c2 hX
    go_cut [] (fun wx => ∃ (vI : Value) (es : Es) (h m : Int), Head w wx C M RB vI es s h m)
    case first =>
      obtain ⟨hH1, hbX, hfX, _⟩ := HG.out
      have x0 : W1.cell? ⟨X, 0, none⟩ = some (.int .i64 x.1) := cell_of hbX rfl
      have x1 : W1.cell? ⟨X, 1, none⟩ = some (.int .i64 x.2.1) := cell_of hbX rfl
      have x2 : W1.cell? ⟨X, 2, none⟩ = some (.string x.2.2) := cell_of hbX rfl
      have r0 : W1.cell? ⟨RB, 0, none⟩ = some vI := cell_of hH1.ref rfl
      have r1 : W1.cell? ⟨RB, 1, none⟩ = some (.int .i64 s) := cell_of hH1.ref rfl
      have r2 : W1.cell? ⟨RB, 2, none⟩ = some (.int .i64 h) := cell_of hH1.ref rfl
      have r3 : W1.cell? ⟨RB, 3, none⟩ = some (.int .i64 m) := cell_of hH1.ref rfl
      have hel : es.length ≤ 4096 := by have := hH1.len; omega
      have hkl : (kv es).length ≤ 4096 := by rw [kv_length]; exact hel
      have hkn : ((kv es).map (·.1)).Nodup := by rw [kv_fst]; exact hH1.box.keys
      clear hH1 hbX hfX
      by_cases hk0 : x.1 = 0
      · have q0 : (x.1 == (0 : Int)) = true := by rw [hk0]; rfl
        clear hk0
        go_wp2_with fail
        obtain ⟨kG, hG⟩ := get_f (kv es) hkl hkn x.2.2 s h m
        obtain ⟨d, hd⟩ : ∃ d, (klook (kv es) x.2.2).getD 0 = d := ⟨_, rfl⟩
        obtain ⟨q, hq⟩ : ∃ q, (klook (kv es) x.2.2).isSome = q := ⟨_, rfl⟩
        obtain ⟨h1, hh1⟩ : ∃ h1, (if q = true then wrap64 (h + 1) else h) = h1 := ⟨_, rfl⟩
        obtain ⟨m1, hm1⟩ : ∃ m1, (if q = true then m else wrap64 (m + 1)) = m1 := ⟨_, rfl⟩
        rw [hd, hq, hh1, hm1] at hG
        have hR := (kP_flat (w := W1) (base := w.heap.size) (ok := fun k => vI.ownBlock = some k)).2 ⟨fun k hk => hk, HG.out.1.its⟩
        have HQ := Lib.hid (And.intro hd (And.intro hq (And.intro hh1 hm1)))
        clear hd hq hh1 hm1
        refine (porterref10_Get.calls kG _ vI _ s h m x.2.2 _ _ _ _ _ _ w W1 HG.out.1.below hR hG).mono ?_
        rintro e w2 ⟨vI', rfl, hR2, hb2, hkp⟩
        obtain ⟨hw2, hI2⟩ := kP_flat.1 hR2
        have hm2 : Mod (fun y => W1.heap.size ≤ y ∨ vI.ownBlock = some y) W1 w2 :=
          ⟨hb2.os.trans HG.out.1.below.os.symm, hb2.tape.trans HG.out.1.below.tape.symm, hb2.output.trans HG.out.1.below.output.symm, hkp.1, fun i hi hn => hkp.2 i hi (fun hk => hn (.inr hk))⟩
        obtain ⟨a', m', c', rfl⟩ : ∃ a' m' c', vI' = .slice a' m' c' := by
          obtain ⟨_, ⟨rfl, _⟩ | ⟨g, cap', cur, rfl, _⟩⟩ := hI2
          · exact ⟨_, _, _, rfl⟩
          · exact ⟨_, _, _, rfl⟩
        have hRn : ¬ (W1.heap.size ≤ RB ∨ vI.ownBlock = some RB) := fun hS => by
          rcases hS with hS | hS
          · have := lt_block HG.out.1.ref; omega
          · exact (HG.out.1.apI RB hS).2 rfl
        have hXn : ¬ (W1.heap.size ≤ X ∨ vI.ownBlock = some X) := fun hS => by
          rcases hS with hS | hS
          · have := lt_block HG.out.2.1; omega
          · exact HG.out.2.2.2.2 X hS rfl
        have hr2 := hm2.old HG.out.1.ref hRn
        have hx2 := hm2.old HG.out.2.1 hXn
        have e0 : w2.cell? ⟨RB, 0, none⟩ = some vI := cell_of hr2 rfl
        have e1 : w2.cell? ⟨RB, 1, none⟩ = some (.int .i64 s) := cell_of hr2 rfl
        have e2 : w2.cell? ⟨RB, 2, none⟩ = some (.int .i64 h) := cell_of hr2 rfl
        have e3 : w2.cell? ⟨RB, 3, none⟩ = some (.int .i64 m) := cell_of hr2 rfl
        have ef := fun i => free_of (i := i) hr2
        have hRlt := lt_block hr2
        have hXlt := lt_block hx2
        have y1 : w2.cell? ⟨X, 1, none⟩ = some (.int .i64 x.2.1) := cell_of hx2 rfl
        have y2 : w2.cell? ⟨X, 2, none⟩ = some (.string x.2.2) := cell_of hx2 rfl
        have hXR : X ≠ RB := fun e => hRX e.symm
        have H2 := Lib.hid (And.intro hw2 (And.intro hI2 (And.intro hm2 (And.intro hr2 hx2))))
        clear hR hG hR2 hb2 hkp hw2 hI2 hm2 hRn hXn hr2 hx2 x0 x1 x2 r0 r1 r2 r3
        go_wp2_with fail
        have hHn := (HG.out.1.next (w3 := w2) (h' := h1) (m' := m1) H2.out.2.2.1 H2.out.2.1 H2.out.1).fresh ((Mod.refl _ _).alloc (.cells #[.slice a' m' c', .int .i64 s, .int .i64 h1, .int .i64 m1] 50))
        refine (CacheSI.get_any hHn.box x.2.2).mono ?_
        rintro e w5 ⟨rfl, es', hc5, hkv5, hf5, hm5⟩
        obtain ⟨hd, hq, hh1, hm1⟩ := HQ.out
        rw [hq, hh1, hm1] at hc5
        have hle5 : (es'.length : Int) ≤ s := by
          have h0 := HG.out.1.len
          have h2 : (kv es').length ≤ (kv es).length := by
            rw [hkv5, lget]
            split
            · exact Nat.le_refl _
            · rename_i v hv
              exact length_kdrop_hit (by rw [hv]; rfl)
          rw [kv_length, kv_length] at h2
          omega
        have H5 := Lib.hid (hHn.call hc5 hle5 hkv5 (fun y hy => .inl (hf5 y hy)) hm5)
        rw [show (klook (kv es) x.2.2).getD vzero = d from hd, hq]
        unfold vval
        have hqq : (q != q) = false := by cases q <;> rfl
        clear hHn hc5 hkv5 hf5 hm5 hle5 hd hq hh1 hm1
        go_wp2
        go_meet
        exact ⟨_, es', h1, m1, H5.out⟩
      by_cases hk1 : x.1 = 1
      · have q0 : (x.1 == (0 : Int)) = false := by rw [beq_eq_false_iff_ne]; exact hk0
        have q1 : (x.1 == (1 : Int)) = true := by rw [hk1]; rfl
        clear hk0 hk1
        obtain ⟨kP', hP⟩ := put_f (kv es) hkl hkn x.2.2 x.2.1 s h m hs1 hs2 (by rw [kv_length]; exact HG.out.1.len)
        have hR := (kP_flat (w := W1) (base := w.heap.size) (ok := fun k => vI.ownBlock = some k)).2 ⟨fun k hk => hk, HG.out.1.its⟩
        obtain ⟨L, hL⟩ : ∃ L, (kv es).map mkP = L := ⟨_, rfl⟩
        rw [hL] at hR hP
        have HL := Lib.hid hL
        clear hL
        obtain ⟨A0, c0, hv0, hlc0, hC0⟩ := Kd.R_reads hR
        obtain rfl := hv0
        have HP := Lib.hid (And.intro hP (And.intro hlc0 hC0))
        clear hR hP hlc0 hC0
        go_wp2_with fail
        refine (porterref10_Put.calls kP' A0 c0 _ s h m x.2.2 x.2.1 _ _ _ _ W1 HP.out.2.2 HP.out.2.1 HP.out.1).mono ?_
        rintro e w2 ⟨vI', rfl, hR2, hb2⟩
        obtain ⟨_, hI2⟩ := kP_flat.1 hR2
        have hw2 : ∀ y, vI'.ownBlock = some y → (Value.slice A0 L.length c0).ownBlock = some y ∨ W1.heap.size ≤ y := fun y hy => .inr (hI2.lt y hy).1
        replace hI2 := own_weaken hI2 HG.out.1.below.size
        have hm2 : Mod (fun y => W1.heap.size ≤ y ∨ (Value.slice A0 L.length c0).ownBlock = some y) W1 w2 := Mod.of_below hb2 _
        obtain ⟨a', m', c', rfl⟩ : ∃ a' m' c', vI' = .slice a' m' c' := by
          obtain ⟨_, ⟨rfl, _⟩ | ⟨g, cap', cur, rfl, _⟩⟩ := hI2
          · exact ⟨_, _, _, rfl⟩
          · exact ⟨_, _, _, rfl⟩
        have hRn : ¬ (W1.heap.size ≤ RB ∨ (Value.slice A0 L.length c0).ownBlock = some RB) := fun hS => by
          rcases hS with hS | hS
          · have := lt_block HG.out.1.ref; omega
          · exact (HG.out.1.apI RB hS).2 rfl
        have hXn : ¬ (W1.heap.size ≤ X ∨ (Value.slice A0 L.length c0).ownBlock = some X) := fun hS => by
          rcases hS with hS | hS
          · have := lt_block HG.out.2.1; omega
          · exact HG.out.2.2.2.2 X hS rfl
        have hr2 := hm2.old HG.out.1.ref hRn
        have hx2 := hm2.old HG.out.2.1 hXn
        have e0 : w2.cell? ⟨RB, 0, none⟩ = some (.slice A0 L.length c0) := cell_of hr2 rfl
        have e1 : w2.cell? ⟨RB, 1, none⟩ = some (.int .i64 s) := cell_of hr2 rfl
        have e2 : w2.cell? ⟨RB, 2, none⟩ = some (.int .i64 h) := cell_of hr2 rfl
        have e3 : w2.cell? ⟨RB, 3, none⟩ = some (.int .i64 m) := cell_of hr2 rfl
        have ef := fun i => free_of (i := i) hr2
        have hRlt := lt_block hr2
        have hXlt := lt_block hx2
        have y1 : w2.cell? ⟨X, 1, none⟩ = some (.int .i64 x.2.1) := cell_of hx2 rfl
        have y2 : w2.cell? ⟨X, 2, none⟩ = some (.string x.2.2) := cell_of hx2 rfl
        have hXR : X ≠ RB := fun e => hRX e.symm
        have H2 := Lib.hid (And.intro hw2 (And.intro hI2 (And.intro hm2 (And.intro hr2 hx2))))
        clear hR2 hb2 hw2 hI2 hm2 hRn hXn hr2 hx2 x0 x1 x2 r0 r1 r2 r3
        go_wp2_with fail
        have hHn := HG.out.1.next (w3 := w2) (h' := h) (m' := m) H2.out.2.2.1 H2.out.2.1 H2.out.1
        refine (CacheSI.put_any hHn.box x.2.2 x.2.1 hs1 HG.out.1.len).mono ?_
        rintro e w5 ⟨rfl, es', hc5, hkv5, hf5, hm5⟩
        have hle5 : (es'.length : Int) ≤ s := by
          have h2 := lput_length hs1 (l := kv es) (by rw [kv_length]; exact HG.out.1.len) x.2.2 x.2.1
          rw [← hkv5, kv_length] at h2
          exact h2
        have H5 := Lib.hid (hHn.call hc5 hle5 hkv5 hf5 hm5)
        clear hHn hc5 hkv5 hf5 hm5 hle5
        go_wp2
        go_meet
        exact ⟨_, es', h, m, H5.out⟩
      have q0 : (x.1 == (0 : Int)) = false := by rw [beq_eq_false_iff_ne]; exact hk0
      have q1 : (x.1 == (1 : Int)) = false := by rw [beq_eq_false_iff_ne]; exact hk1
      by_cases hk2 : x.1 = 2
      · have q2 : (x.1 == (2 : Int)) = true := by rw [hk2]; rfl
        clear hk0 hk1 hk2
        have hP : PairsIs W1 vI ((kv es).map mkP) := own_weaken HG.out.1.its (Nat.zero_le _)
        have hpl : ((kv es).map mkP).length ≤ 4096 := by rw [List.length_map]; exact hkl
        obtain ⟨N, hN⟩ : ∃ N : Nat, (es.filter (fun y => pre y.1 x.2.2)).length = N := ⟨_, rfl⟩
        have hNN : ((((kv es).map mkP).length : Int) - (kept x.2.2 ((kv es).map mkP)).length) = (N : Int) := by
          have h3 := filter_two (fun y : ByteArray × Int × Nat => pre y.1 x.2.2) es
          rw [kept_map, List.length_map, List.length_map, ← kv_filter (fun y => !pre y x.2.2), kv_length, kv_length]
          omega
        have HP := Lib.hid (And.intro hP (And.intro hpl (And.intro hN hNN)))
        clear hP hpl hN hNN
        go_wp2_with fail
        refine (Ref10K.cut_any HP.out.1 HP.out.2.1 s h m x.2.2).mono ?_
        rintro e w2 ⟨vI', rfl, hI2, hb2⟩
        rw [HP.out.2.2.2]
        have hw2 : ∀ y, vI'.ownBlock = some y → vI.ownBlock = some y ∨ W1.heap.size ≤ y := fun y hy => .inr (hI2.lt y hy).1
        replace hI2 := own_weaken hI2 HG.out.1.below.size
        rw [kept_map] at hI2
        have hm2 : Mod (fun y => W1.heap.size ≤ y ∨ vI.ownBlock = some y) W1 w2 := Mod.of_below hb2 _
        obtain ⟨a', m', c', rfl⟩ : ∃ a' m' c', vI' = .slice a' m' c' := by
          obtain ⟨_, ⟨rfl, _⟩ | ⟨g, cap', cur, rfl, _⟩⟩ := hI2
          · exact ⟨_, _, _, rfl⟩
          · exact ⟨_, _, _, rfl⟩
        have hRn : ¬ (W1.heap.size ≤ RB ∨ vI.ownBlock = some RB) := fun hS => by
          rcases hS with hS | hS
          · have := lt_block HG.out.1.ref; omega
          · exact (HG.out.1.apI RB hS).2 rfl
        have hXn : ¬ (W1.heap.size ≤ X ∨ vI.ownBlock = some X) := fun hS => by
          rcases hS with hS | hS
          · have := lt_block HG.out.2.1; omega
          · exact HG.out.2.2.2.2 X hS rfl
        have hr2 := hm2.old HG.out.1.ref hRn
        have hx2 := hm2.old HG.out.2.1 hXn
        have e0 : w2.cell? ⟨RB, 0, none⟩ = some vI := cell_of hr2 rfl
        have e1 : w2.cell? ⟨RB, 1, none⟩ = some (.int .i64 s) := cell_of hr2 rfl
        have e2 : w2.cell? ⟨RB, 2, none⟩ = some (.int .i64 h) := cell_of hr2 rfl
        have e3 : w2.cell? ⟨RB, 3, none⟩ = some (.int .i64 m) := cell_of hr2 rfl
        have ef := fun i => free_of (i := i) hr2
        have hRlt := lt_block hr2
        have hXlt := lt_block hx2
        have y1 : w2.cell? ⟨X, 1, none⟩ = some (.int .i64 x.2.1) := cell_of hx2 rfl
        have y2 : w2.cell? ⟨X, 2, none⟩ = some (.string x.2.2) := cell_of hx2 rfl
        have hXR : X ≠ RB := fun e => hRX e.symm
        have H2 := Lib.hid (And.intro hw2 (And.intro hI2 (And.intro hm2 (And.intro hr2 hx2))))
        clear hb2 hw2 hI2 hm2 hRn hXn hr2 hx2 x0 x1 x2 r0 r1 r2 r3
        go_wp2_with fail
        have hHn := (HG.out.1.next (w3 := w2) (h' := h) (m' := m) H2.out.2.2.1 H2.out.2.1 H2.out.1).fresh ((Mod.refl _ _).alloc (.cells #[.slice a' m' c', .int .i64 s, .int .i64 h, .int .i64 m] 50))
        have hXb : ((setRef w2 RB (.slice a' m' c') s h m).alloc (.cells #[.slice a' m' c', .int .i64 s, .int .i64 h, .int .i64 m] 50)).heap[X]? = some (.cells #[.int .i64 x.1, .int .i64 x.2.1, .string x.2.2] 52 (0, 0)) :=
          block_alloc ((setRef_mod w2 RB (.slice a' m' c') s h m).old H2.out.2.2.2.2 (fun e => hXR e)) _
        refine (CacheSI.cut_any (cap := #[.pointer (some ⟨X, 0, none⟩)]) (fun _ => False) (fun _ wx => wx.heap[X]? = some (.cells #[.int .i64 x.1, .int .i64 x.2.1, .string x.2.2] 52 (0, 0))) (fun y => pre y x.2.2)
          (fun wx ks y hx => (closure_any X x.2.2 y wx (cell_of hx rfl)).mono (fun e w' ⟨h1, h2⟩ => by subst h2; exact ⟨h1, hx, Mod.refl _ _⟩)) hHn.box hel (fun _ _ h => h)
          (fun wx w' ks hx hmx => hmx.old hx (fun hS => HG.out.2.2.1 hS)) hXb).mono ?_
        rintro e w5 ⟨rfl, hc5, _, hm5⟩
        have hle5 : ((es.filter (fun y => !pre y.1 x.2.2)).length : Int) ≤ s := by
          have h1 := List.length_filter_le (fun y : ByteArray × Int × Nat => !pre y.1 x.2.2) es
          have := HG.out.1.len
          omega
        have H5 := Lib.hid (hHn.call hc5 hle5 (kv_filter (fun y => !pre y x.2.2) es) (fun y hy => .inl (foot_filter _ hy)) (hm5.mono (fun y _ hy => hy.elim id False.elim)))
        rw [HP.out.2.2.1]
        clear hHn hc5 hm5 hle5 hXb
        go_wp2
        go_meet
        exact ⟨_, _, h, m, H5.out⟩
      · have q2 : (x.1 == (2 : Int)) = false := by rw [beq_eq_false_iff_ne]; exact hk2
        clear hk0 hk1 hk2
        go_wp2
        go_meet
        exact ⟨_, _, h, m, HG.out.1⟩
    case rest =>
      obtain ⟨v6, es6, h6, m6, hH6⟩ := hcut
      obtain ⟨aI, cI, rfl, haI⟩ : ∃ aI cI, v6 = .slice aI es6.length cI ∧ (0 < es6.length → ∃ g, aI = some ⟨g, 0, none⟩) := by
        have hl6 : ((kv es6).map mkP).length = es6.length := by rw [List.length_map, kv_length]
        rcases OwnS.form (own_weaken hH6.its (Nat.zero_le _)) with ⟨h1, h2⟩ | ⟨g, cp, h1, _⟩
        · refine ⟨none, 0, ?_, fun h => ?_⟩
          · rw [h1, ← hl6, h2]; rfl
          · rw [h2] at hl6; simp at hl6; omega
        · exact ⟨_, _, by rw [← hl6]; exact h1, fun _ => ⟨g, rfl⟩⟩
      have hil6 : es6.length ≤ 4096 := by have := hH6.len; omega
      have H6 := Lib.hid (And.intro hH6 haI)
      clear hH6 haI
      go_wp2_with fail
      refine (CacheSI.keys_any H6.out.1.box hil6).mono ?_
      rintro e w7 ⟨vk, rfl, hown7, hb7⟩
      obtain ⟨ak, ck, rfl, _, hread7⟩ := row_reads hown7
      have hH7 := H6.out.1.fresh (Mod.of_below hb7 _)
      have H7 := Lib.hid (And.intro hH7 hread7)
      have r0 : w7.cell? ⟨RB, 0, none⟩ = some (.slice aI es6.length cI) := cell_of hH7.ref rfl
      have r2 : w7.cell? ⟨RB, 2, none⟩ = some (.int .i64 h6) := cell_of hH7.ref rfl
      have r3 : w7.cell? ⟨RB, 3, none⟩ = some (.int .i64 m6) := cell_of hH7.ref rfl
      clear hown7 hb7 hH7 hread7
      go_wp2_with fail
      refine (CacheSI.len_any H7.out.1.box).mono ?_
      rintro e w8 ⟨rfl, rfl⟩
      go_wp2
      go_loopg [131] (es6.length) (fun g i wx => ∃ (t2 : Nat), t2 + g = es6.length ∧ i = .int .i64 (t2 : Int) ∧ Mod (fun _ => False) w7 wx)
      case atStart => exact ⟨0, by omega, rfl, Mod.refl _ _⟩
      case round =>
        obtain ⟨t2, htg2, rfl, hmod⟩ := hrel
        have hH8 := H7.out.1.fresh (hmod.mono (fun _ _ h => h.elim))
        by_cases hg2 : gk = 0
        · have ht2 : ¬ ((t2 : Int) < (es6.length : Int)) := by omega
          have H8 := Lib.hid hH8
          have q2 : wr.cell? ⟨RB, 2, none⟩ = some (.int .i64 h6) := cell_of hH8.ref rfl
          have q3 : wr.cell? ⟨RB, 3, none⟩ = some (.int .i64 m6) := cell_of hH8.ref rfl
          clear htg2 hg2 hmod hH8 r0 r2 r3
          go_wp2_with fail
          refine (CacheSI.counts_any H8.out.box).mono ?_
          rintro e w9 ⟨rfl, n9, rfl⟩
          have H9 := Lib.hid (H8.out.fresh ((Mod.refl _ wr).drewN n9))
          go_wp2
          go_roundg (n - t - 1)
          case measure => have := HR.out.2; omega
          case rel => exact ⟨t + 1, _, es6, h6, m6, by have := HR.out.2; omega, by go_num, H9.out⟩
        · have ht2 : t2 < es6.length := by omega
          obtain ⟨y, hy⟩ : ∃ y, es6[t2]? = some y := ⟨_, List.getElem?_eq_getElem ht2⟩
          obtain ⟨gi, rfl⟩ := H6.out.2 (by omega)
          obtain ⟨gq, rfl, _, _, kq⟩ := H7.out.2 t2 ht2
          replace kq := kq t2 (.string y.1) (by rw [List.getElem?_map, hy]; rfl)
          rw [← hmod.cell (p := ⟨gq, t2, none⟩) (World.block_lt_of_cell? _ _ kq) id] at kq
          have hy2 : ((kv es6).map mkP)[t2]? = some (mkP (y.1, y.2.1)) := by
            rw [List.getElem?_map, kv, List.getElem?_map, hy]; rfl
          have hl6 : ((kv es6).map mkP).length = es6.length := by rw [List.length_map, kv_length]
          have ki : wr.cell? ⟨gi, t2 * 2, none⟩ = some (.string y.1) := by
            have ho := own_weaken hH8.its (Nat.zero_le _)
            rw [← hl6] at ho
            exact OwnS.cell pcells2 ho hy2 (j := 0) (by omega) rfl
          have kr : wr.cell? ⟨RB, 0, none⟩ = some (.slice (some ⟨gi, 0, none⟩) es6.length cI) := cell_of hH8.ref rfl
          have hbn : ∀ b : ByteArray, (b.toList != b.toList) = false := by intro b; simp
          have HT := Lib.hid (And.intro htg2 hmod)
          clear hy hy2 hl6 htg2 hg2 hmod hH8 r0 r2 r3
          go_wp2_with fail
          go_region
          all_goals
            go_wp2
            go_roundg (gk - 1)
            case measure => have := HT.out.1; omega
            case rel => exact ⟨t2 + 1, by have := HT.out.1; omega, by go_num, HT.out.2.drew⟩

theorem row {w : World} (s : Int) (v : Value) (ops : List OpC) (h : SliceIs 3 (fun _ cs x => cs = opC x) w v ops) :
    Calls Try.prog 5 #[.int .i64 s, v] w fun e w' => e = .returned (.bool true) ∧ Below w.heap.size w w' := by
  obtain ⟨ao, cap, rfl, hl, hc⟩ := h.flat
  exact law_any s ao _ cap ops w rfl hl (fun i hi => by obtain ⟨b, o, h1, _, h2⟩ := hc i hi; exact ⟨b, o, h1, h2⟩)
end Go.Proofs.Ytepgaphhinacmaa.CachePlays
