/- porterlaw10.CacheCuts answers true at every input. -/
import Derived.Test.YtepgaphhinacmaaCacheCutsA
import Derived.Deep.DeepCutAuto
import Derived.Deep.CutBlock
import Derived.Deep.LoopGhost
namespace Go.Proofs.Ytepgaphhinacmaa.CacheCuts
open Go.RowKit Go.Por Go.Proofs.Ytepgaphhinacmaa.CacheII

theorem filter_two {α : Type} (p : α → Bool) (l : List α) : (l.filter p).length + (l.filter (fun x => !p x)).length = l.length := by
  induction l with
  | nil => rfl
  | cons x r ih =>
    cases h : p x
    · rw [List.filter_cons_of_neg (by simp [h]), List.filter_cons_of_pos (by simp [h])]; simp only [List.length_cons]; omega
    · rw [List.filter_cons_of_pos h, List.filter_cons_of_neg (by simp [h])]; simp only [List.length_cons]; omega

/-- A row of the call's own, as it is read. -/
theorem row_reads {w : World} {base : Nat} {e : TypeId} {v : Value} {n : Nat} {xs : List Value} (h : w.ownsRow base e 1 v n xs) :
    ∃ a cap, v = .slice a n cap ∧ xs.length = n ∧ ∀ i, i < n → ∃ g, a = some ⟨g, 0, none⟩ ∧ base ≤ g ∧ g < w.heap.size ∧ ∀ j x, xs[j]? = some x → w.cell? ⟨g, j, none⟩ = some x := by
  obtain ⟨h1, ⟨rfl, rfl⟩ | ⟨g, cap, cur, rfl, hg, hb, _, _, _, hx⟩⟩ := h
  · exact ⟨none, 0, rfl, by simpa using h1, fun i hi => by omega⟩
  · refine ⟨_, cap, rfl, by simpa using h1, fun i hi => ⟨g, rfl, hg, lt_block hb, fun j x hx' => cell_of hb ?_⟩⟩
    rw [← hx, List.getElem?_take] at hx'
    split at hx'
    · rw [← Array.getElem?_toList]; exact hx'
    · cases hx'

/-- A cache of the call's own. -/
def Own (w0 w : World) (C M : Nat) (sz : Int) (ks : List Int) : Prop :=
  ∃ es h m, CacheIs w C M es sz h m ∧ es.map (·.1) = ks ∧ (es.length : Int) ≤ sz ∧ (∀ b ∈ foot C M es, w0.heap.size ≤ b) ∧ Below w0.heap.size w0 w

theorem Own.put {w0 w : World} {C M : Nat} {sz : Int} {ks : List Int} (H : Own w0 w C M sz ks) (hsz : 1 ≤ sz) (k v : Int) :
    Calls Try.prog 17 #[.pointer (some ⟨C, 0, none⟩), .int .i64 k, .int .i64 v] w fun e w' => e = .returned (.tuple #[]) ∧ ∃ ks', Own w0 w' C M sz ks' := by
  obtain ⟨es, h, m, hc, hk, hl, hf, hb⟩ := H
  refine (put_any hc k v hsz hl).mono ?_
  rintro e w' ⟨rfl, es', hc', hkv, hf', hm⟩
  refine ⟨rfl, _, es', h, m, hc', rfl, ?_, fun b hb' => ?_, hb.trans (hm.to_below hb.size hf)⟩
  · have := lput_length hsz (l := kv es) (by rw [kv_length]; exact hl) k v
    rw [← hkv, kv_length] at this
    exact this
  · rcases hf' b hb' with h1 | h1
    · exact hf b h1
    · have := hb.size; omega

set_option maxRecDepth 100000 in
set_option maxHeartbeats 4000000 in
theorem law_any (size : Int) (ao : Option Addr) (n cap : Nat) (keys : List Int) (cut : Int) (w : World) (hn : keys.length = n) (hmax : n ≤ 9223372036854775807)
    (hcell : ∀ i, i < n → ∃ b o, ao = some ⟨b, o, none⟩ ∧ ∀ j, j < n → w.cell? ⟨b, o + j, none⟩ = some (.int .i64 (keys.getD j 0))) :
    Calls Try.prog 4 #[.int .i64 size, .slice ao n cap, .int .i64 cut] w fun e w' => e = .returned (.bool true) ∧ Below w.heap.size w w' := by
  have hBW : Below w.heap.size w (w.alloc (.cells #[.int .i64 cut] 3)) := (Below.refl _ w).alloc (Nat.le_refl _) _
  by_cases hs : size < 1 ∨ 4096 < size
  · go_enter Try.func4, Try.ntmps4
    go_wp2_with fail
    refine (AwakeC.awake_any _).mono ?_
    rintro e w1 ⟨rfl, hb1⟩
    have HB := Lib.hid (hBW.trans (hb1.mono (by simp)))
    clear hb1 hBW
    go_wp2_with fail
    refine (new_bad size w1 hs).mono ?_
    rintro e w2 ⟨rfl, rfl⟩
    go_wp2
    go_ret
    exact ⟨rfl, HB.out⟩
  have hs1 : 1 ≤ size := by omega
  have hs2 : size ≤ 4096 := by omega
  have HBW := Lib.hid hBW
  clear hs hBW
  have hmm := @run_makeMap Try.prog
  by_cases hcut : cut < 1 ∨ 9 < cut
  · have hcut' := Lib.hid hcut
    rcases hcut with hcut | hcut
    all_goals try have hcut2 : ¬ cut < 1 := by omega
    all_goals
      go_enter Try.func4, Try.ntmps4
      go_wp2_with fail
      refine (AwakeC.awake_any _).mono ?_
      rintro e w1 ⟨rfl, hb1⟩
      have c1 : w1.cell? ⟨w.heap.size, 0, none⟩ = some (.int .i64 cut) := by rw [hb1.cell (p := ⟨w.heap.size, 0, none⟩) (by simp)]; simp
      have HB := Lib.hid (And.intro (HBW.out.trans (hb1.mono (by simp))) (And.intro c1 hb1.size))
      clear hb1 c1
      go_wp2_with fail
      refine (new_good size w1 (by omega) (by omega)).mono ?_
      rintro e w2 ⟨C, M, rfl, hc, hC, hM, hb2⟩
      have c2 : w2.cell? ⟨w.heap.size, 0, none⟩ = some (.int .i64 cut) := by
        have := HB.out.2.2
        rw [World.size_alloc] at this
        rw [hb2.cell (p := ⟨w.heap.size, 0, none⟩) (by show w.heap.size < w1.heap.size; omega)]; exact HB.out.2.1
      have HB2 := Lib.hid (HB.out.1.trans (hb2.mono (HB.out.1.size)))
      clear hc hC hM hb2
      go_wp2
      go_ret
      exact ⟨rfl, HB2.out⟩
  have hc1 : 1 ≤ cut := by omega
  have hc2 : cut ≤ 9 := by omega
  clear hcut
  have hbase : ∃ wB, wB = w.alloc (.cells #[.int .i64 cut] 3) := ⟨_, rfl⟩
  obtain ⟨wB, hwB⟩ := hbase
  have hBsz : wB.heap.size = w.heap.size + 1 := by rw [hwB]; simp
  have hBbox : wB.heap[w.heap.size]? = some (.cells #[.int .i64 cut] 3 (0, 0)) := by rw [hwB]; exact block_new _ _
  have hBW := HBW.out
  rw [← hwB] at hBW
  have HWB := Lib.hid (And.intro hwB (And.intro hBsz (And.intro hBbox hBW)))
  clear hwB hBsz hBbox hBW HBW
  go_enter Try.func4, Try.ntmps4
  go_wp2_with fail
  rw [← HWB.out.1]
  refine (AwakeC.awake_any _).mono ?_
  rintro e w1 ⟨rfl, hb1⟩
  have HB1 := Lib.hid hb1
  clear hb1
  go_wp2_with fail
  refine (new_good size w1 (by omega) (by omega)).mono ?_
  rintro e w2 ⟨C, M, rfl, hc, hC, hM, hb2⟩
  have hown : Own wB w2 C M size [] := ⟨[], 0, 0, hc, rfl, by simp; omega, fun b hb => by
    have := HB1.out.size
    simp [foot] at hb; rcases hb with rfl | rfl <;> omega, HB1.out.trans (hb2.mono HB1.out.size)⟩
  have hbx : ∀ u, Below wB.heap.size wB u → u.heap[w.heap.size]? = some (.cells #[.int .i64 cut] 3 (0, 0)) := fun u hu => by
    obtain ⟨_, h1, h2, _⟩ := HWB.out
    rw [hu.block _ (by omega)]; exact h2
  have c2 : w2.cell? ⟨w.heap.size, 0, none⟩ = some (.int .i64 cut) := by
    obtain ⟨es, h, m, _, _, _, _, hb⟩ := hown
    exact cell_of (hbx w2 hb) rfl
  have HO := Lib.hid (And.intro hown hbx)
  clear hc hC hM hb2 hown hbx
  go_upto_block 0 with fail
  -- all keys are put
  go_cut [] (fun wx => ∃ ks, Own wB wx C M size ks)
  case first =>
    go_wp2
    go_loopg [38] (n) (fun g i wx => ∃ k : Nat, k + g = n ∧ i = .int .i64 (k : Int) ∧ ∃ ks, Own wB wx C M size ks)
    case atStart => exact ⟨0, by omega, rfl, [], HO.out.1⟩
    case round =>
      obtain ⟨k, hkg, rfl, ks, hown⟩ := hrel
      by_cases hg : gk = 0
      · have hk : ¬ ((k : Int) < (n : Int)) := by omega
        have HE := Lib.hid hown
        clear hown hkg hg hcell
        go_wp2
        go_meet
        exact ⟨ks, HE.out⟩
      · have hk : k < n := by omega
        obtain ⟨kb, ko, rfl, hcells⟩ := hcell k hk
        have hkb : kb < w.heap.size := World.block_lt_of_cell? w ⟨kb, ko + k, none⟩ (hcells k hk)
        have ck : wr.cell? ⟨kb, ko + k, none⟩ = some (.int .i64 (keys.getD k 0)) := by
          obtain ⟨es, h, m, _, _, _, _, hb⟩ := hown
          obtain ⟨_, h1, h2, h3⟩ := HWB.out
          rw [hb.cell (p := ⟨kb, ko + k, none⟩) (by show kb < wB.heap.size; omega), h3.cell (p := ⟨kb, ko + k, none⟩) hkb]
          exact hcells k hk
        generalize keys.getD k 0 = x at *
        have HE := Lib.hid (And.intro hown hkg)
        clear hown hkg hg hcells hcell
        go_wp2_with fail
        refine (HE.out.1.put hs1 x x).mono ?_
        rintro e w3 ⟨rfl, ks', hown'⟩
        have HF := Lib.hid hown'
        clear hown'
        go_wp2
        go_roundg (gk - 1)
        case measure => have := HE.out.2; omega
        case rel => exact ⟨k + 1, by have := HE.out.2; omega, by go_num, ks', HF.out⟩
  case rest =>
  obtain ⟨ks, es, h, m, hc, hk, hl, hf, hb⟩ := hcut
  have hlen : es.length ≤ 4096 := by omega
  have HC := Lib.hid (And.intro hc (And.intro hk (And.intro hf hb)))
  clear hc hk hl hf hb
  go_wp2_with fail
  refine (keys_any HC.out.1 hlen).mono ?_
  rintro e w3 ⟨v3, rfl, hown3, hb3⟩
  obtain ⟨a3, cap3, rfl, hxs3, hrow3⟩ := row_reads hown3
  obtain ⟨hc, hk, hf, hb⟩ := HC.out
  have hbox := (HO.out.2 w3 (hb.trans (hb3.mono hb.size)))
  have hc3 : CacheIs w3 C M es size h m := hc.mod (S := fun _ => False) (Mod.of_below hb3 _) (fun _ _ h => h)
  have hb3' : Below wB.heap.size wB w3 := hb.trans (hb3.mono hb.size)
  have hnod := hc.keys
  -- the asked map and its box
  have hA4 : Asked (w3.heap.size + 1) w.heap.size w3.heap.size cut [] ((w3.alloc (.map #[] 0)).alloc (.cells #[.map (some w3.heap.size)] 29)) := by
    refine ⟨?_, block_alloc (block_alloc hbox _) _, [], (MapIs.made w3 _).alloc _, by simp⟩
    have := block_new (w3.alloc (.map #[] 0)) (.cells #[.map (some w3.heap.size)] 29)
    rw [World.size_alloc] at this
    exact this
  have hc4 : CacheIs ((w3.alloc (.map #[] 0)).alloc (.cells #[.map (some w3.heap.size)] 29)) C M es size h m :=
    hc3.keep (fun b hb => by have := hc3.lt b hb; rw [Below.heap_alloc _ _ _ (by simp; omega), Below.heap_alloc _ _ _ this])
  have hf3 := hc3.lt
  have HD := Lib.hid (And.intro hA4 (And.intro hc4 (And.intro hf3 (And.intro hb3' (And.intro hnod (And.intro hxs3 (And.intro hrow3 (And.intro hk (And.intro hf (And.intro hc.lt hc.keys))))))))))
  have hs3 : w.heap.size < w3.heap.size := lt_block hbox
  clear hA4 hc4 hf3 hb3' hnod hxs3 hrow3 hk hf hc hb hown3 hb3 hbox hc3 HC
  go_wp2_with fail
  generalize hw4 : (w3.alloc (.map #[] 0)).alloc (.cells #[.map (some w3.heap.size)] 29) = w4 at *
  have hs4 : w4.heap.size = w3.heap.size + 2 := by rw [← hw4]; simp
  have hm4 : ∀ b, b < w3.heap.size → w4.heap[b]? = w3.heap[b]? := fun b hb => by rw [← hw4, Below.heap_alloc _ _ _ (by simp; omega), Below.heap_alloc _ _ _ hb]
  have hb4 : Below w3.heap.size w3 w4 := by rw [← hw4]; exact ((Below.refl _ w3).alloc (Nat.le_refl _) _).alloc (by simp) _
  clear hw4
  generalize hMa : w3.heap.size = Ma at *
  generalize hbc : w.heap.size = bc at *
  have HS := Lib.hid (And.intro hs4 (And.intro hm4 (And.intro hb4 (And.intro hMa hbc))))
  clear hs4 hm4 hb4 hMa hbc
  refine (cut_any (cap := #[.pointer (some ⟨Ma + 1, 0, none⟩), .pointer (some ⟨bc, 0, none⟩)]) (fun b => b = Ma) (fun ks w => Asked (Ma + 1) bc Ma cut ks w) (isCut cut)
    (fun w ks k hq => ask_any hc1 hc2 w ks k hq) HD.out.2.1 hlen (fun b hb e => by
      have h1 := HD.out.2.2.1 b hb
      have e' : b = Ma := e
      omega)
    (fun w w' ks hq hm => hq.mod hm (fun h1 => by have := HD.out.2.2.1 _ h1; omega) (fun h1 => by
        have h2 := HD.out.2.2.2.2.2.2.2.2.1 _ h1
        obtain ⟨_, h3, _, _⟩ := HWB.out
        omega) (fun h1 => by have := HD.out.2.2.1 _ h1; omega)) HD.out.1).mono ?_
  rintro e w5 ⟨rfl, hc5, hA5, hm5⟩
  obtain ⟨i0, hi, hz0, hz1, hz2⟩ := info_parts infoK
  have hnf : (es.filter (fun x => isCut cut x.1)).length ≤ es.length := List.length_filter_le _ _
  -- what was asked reads on
  have hrd : ∀ i, i < es.length → ∃ g, a3 = some ⟨g, 0, none⟩ ∧ g < w5.heap.size ∧ ∀ j, j < es.length → w5.cell? ⟨g, j, none⟩ = some (.int .i64 ((es.map (·.1)).getD j 0)) := fun i hi => by
    obtain ⟨hA4, hc4, hf3, hb3', hnod, hxs3, hrow3, hk, hf, hfc, hkeys⟩ := HD.out
    obtain ⟨hs4, hm4, hb4, hMa, hbc⟩ := HS.out
    obtain ⟨g, hg1, hg2, hg3, hg4⟩ := hrow3 i hi
    have hg5 : g ∉ foot C M es := fun h => by have := hfc g h; omega
    have hsz5 := hm5.size
    refine ⟨g, hg1, by omega, fun j hj => ?_⟩
    have hx : (es.map (fun x => Value.int .i64 x.1))[j]? = some (.int .i64 ((es.map (·.1)).getD j 0)) := by
      simp [List.getD_eq_getElem?_getD, List.getElem?_eq_getElem hj]
    rw [hm5.cell (p := ⟨g, j, none⟩) (by show g < w4.heap.size; omega) (fun h => by rcases h with h | h; exact hg5 h; have h' : g = Ma := h; omega), hb4.cell (p := ⟨g, j, none⟩) (by show g < Ma; omega)]
    exact hg4 j _ hx
  have hbox5 : w5.cell? ⟨bc, 0, none⟩ = some (.int .i64 cut) := cell_of hA5.2.1 rfl
  have hbox6 : w5.cell? ⟨Ma + 1, 0, none⟩ = some (.map (some Ma)) := cell_of hA5.1 rfl
  have hlt5 : bc < w5.heap.size ∧ Ma + 1 < w5.heap.size := ⟨lt_block hA5.2.1, lt_block hA5.1⟩
  have hcnt : ∀ q, q ∈ es.map (·.1) → wrap64 ((es.map (·.1)).count q) = 1 := fun q hq => by
    obtain ⟨hA4, hc4, hf3, hb3', hnod, _⟩ := HD.out
    rw [hnod.count, if_pos hq]
    exact wrap_one
  have HT := Lib.hid (And.intro hc5 (And.intro hA5 (And.intro hm5 (And.intro hrd (And.intro hbox5 (And.intro hbox6 hcnt))))))
  have hlt51 := hlt5.1
  have hlt52 := hlt5.2
  clear hc5 hA5 hm5 hrd hbox5 hbox6 hcnt hlt5
  generalize hnn : (es.filter (fun x => isCut cut x.1)).length = nf at *
  have HN := Lib.hid hnn
  clear hnn
  go_upto_block 2 with fail
  -- what is left
  go_cut [14] (fun v wx => wx.ownsRow w5.heap.size 3 1 v ((es.map (·.1)).filter (fun k => !isCut cut k)).length (((es.map (·.1)).filter (fun k => !isCut cut k)).map (fun k => Value.int .i64 k)) ∧ Below w5.heap.size w5 wx)
  case first =>
    go_wp2
    go_loopg [14, 55] (es.length) (fun g v i wx => ∃ t : Nat, t + g = es.length ∧ i = .int .i64 (t : Int) ∧
      wx.ownsRow w5.heap.size 3 1 v (((es.map (·.1)).take t).filter (fun k => !isCut cut k)).length ((((es.map (·.1)).take t).filter (fun k => !isCut cut k)).map (fun k => Value.int .i64 k)) ∧ Below w5.heap.size w5 wx)
    case atStart => exact ⟨0, by omega, rfl, World.ownsRow_nil _ _ _ _, Below.refl _ _⟩
    case round =>
      obtain ⟨t, htg, rfl, hown, hbel⟩ := hrel
      by_cases hg : gk = 0
      · have hk : ¬ ((t : Int) < (es.length : Int)) := by omega
        have ht : t = es.length := by omega
        have HE := Lib.hid (And.intro hown (And.intro hbel ht))
        clear hown hbel htg hg ht
        go_wp2
        go_meet
        obtain ⟨hown, hbel, ht⟩ := HE.out
        subst ht
        rw [List.take_of_length_le (by simp)] at hown
        exact ⟨hown, hbel⟩
      · have ht : t < es.length := by omega
        obtain ⟨g3, hg3, hg3l, hg3c⟩ := HT.out.2.2.2.1 t ht
        subst hg3
        have hq : (es.map (·.1))[t]? = some ((es.map (·.1)).getD t 0) := by
          have : t < (es.map (·.1)).length := by simpa using ht
          rw [List.getD_eq_getElem?_getD, List.getElem?_eq_getElem this]; rfl
        have ct : wr.cell? ⟨g3, t, none⟩ = some (.int .i64 ((es.map (·.1)).getD t 0)) := by
          rw [hbel.cell (p := ⟨g3, t, none⟩) hg3l]; exact hg3c t ht
        have cb : wr.cell? ⟨bc, 0, none⟩ = some (.int .i64 cut) := by rw [hbel.cell (p := ⟨bc, 0, none⟩) hlt51]; exact HT.out.2.2.2.2.1
        have cm : wr.cell? ⟨Ma + 1, 0, none⟩ = some (.map (some Ma)) := by rw [hbel.cell (p := ⟨Ma + 1, 0, none⟩) hlt52]; exact HT.out.2.2.2.2.2.1
        have hA : Asked (Ma + 1) bc Ma cut (es.map (·.1)) wr := HT.out.2.1.mod (S := fun _ => False) (Mod.of_below hbel _) id id id
        have hlk := hA.look ((es.map (·.1)).getD t 0)
        rw [HT.out.2.2.2.2.2.2 _ (List.mem_of_getElem? hq)] at hlk
        have hbs := hbel.size
        have hle : (((es.map (·.1)).take t).filter (fun k => !isCut cut k)).length ≤ t := by
          have h1 := List.length_filter_le (fun k => !isCut cut k) ((es.map (·.1)).take t)
          have h2 := List.length_take_le t (es.map (·.1))
          omega
        have hsnoc : (es.map (·.1)).take (t + 1) = (es.map (·.1)).take t ++ [(es.map (·.1)).getD t 0] := by rw [List.take_add_one, hq]; rfl
        generalize (es.map (·.1)).getD t 0 = x at *
        have HE := Lib.hid (And.intro hown (And.intro hbel (And.intro htg hsnoc)))
        clear hown hbel htg hg hsnoc hq hA hg3c
        by_cases hx : isCut cut x = true
        · have hx' : (x.tmod cut == 0) = true := hx
          have hx2 : (x.tmod cut != 0) = false := by simpa using hx'
          have HX := Lib.hid hx
          clear hx
          go_wp2
          go_roundg (gk - 1)
          case measure => have := HE.out.2.2.1; omega
          case rel =>
            obtain ⟨hown, hbel, htg, hsnoc⟩ := HE.out
            refine ⟨t + 1, by omega, by go_num, ?_, hbel⟩
            rw [hsnoc, List.filter_append]
            simpa [HX.out] using hown
        · have hx0 : isCut cut x = false := by simpa using hx
          have hx' : (x.tmod cut == 0) = false := hx0
          have hx2 : (x.tmod cut != 0) = true := by simpa using hx'
          have HX := Lib.hid hx0
          clear hx hx0
          go_wp2_with (first
            | (at_builtin; refine wpList_append_own _ rfl _ _ 22 rfl w5.heap.size 3 i0 (Value.int .i64 0) 1 8 Try.underlying22 hi hz0 hz1 hz2 rfl (by decide) _ _ _ rfl (HE.out.1.alloc _) ⟨wr.heap.size, 0, none⟩ 1 1 [.int .i64 x] rfl rfl (cell_one_new _ _ _) ?c2 ?c3 ?c4 ?c5 ?_))
          case c2 => first | rfl | (intro u hu; simp at hu; subst hu; rfl)
          case c3 => unfold maxLen; omega
          case c4 => omega
          case c5 => first | omega | (simp; omega)
          · intro v' w6 hown' hgrow _
            have HF := Lib.hid (And.intro hown' hgrow)
            clear hown' hgrow
            go_wp2
            go_roundg (gk - 1)
            case measure => have := HE.out.2.2.1; omega
            case rel =>
              obtain ⟨hown, hbel, htg, hsnoc⟩ := HE.out
              obtain ⟨hown', hgrow⟩ := HF.out
              refine ⟨t + 1, by omega, by go_num, ?_, (hbel.alloc hbs (.cells #[.int .i64 x] 3)).grown hgrow (by simp; omega) (fun q hq => (hown.lt q hq).1)⟩
              rw [hsnoc, List.filter_append]
              simpa [HX.out] using hown'
  case rest =>
  obtain ⟨hown6, hbel6⟩ := hcut
  obtain ⟨a6, cap6, rfl, hxs6, hrow6⟩ := row_reads hown6
  -- the keys that stay, twice
  have hfm : (es.filter (fun x => !isCut cut x.1)).map (·.1) = (es.map (·.1)).filter (fun k => !isCut cut k) := by rw [List.filter_map]; rfl
  have hlen6 : (es.filter (fun x => !isCut cut x.1)).length = ((es.map (·.1)).filter (fun k => !isCut cut k)).length := by rw [← hfm]; simp
  have hsum : nf + ((es.map (·.1)).filter (fun k => !isCut cut k)).length = es.length := by
    rw [← hlen6, ← HN.out]
    exact filter_two (fun x : Int × Int × Nat => isCut cut x.1) es
  have hc6 : CacheIs wc C M (es.filter (fun x => !isCut cut x.1)) size h m := HT.out.1.mod (S := fun _ => False) (Mod.of_below hbel6 _) (fun _ _ h => h)
  generalize hcn : ((es.map (·.1)).filter (fun k => !isCut cut k)).length = cn at *
  have hn1 : nf + cn ≤ es.length := by omega
  have hn2 : es.length ≤ nf + cn := by omega
  have HU := Lib.hid (And.intro hfm (And.intro hlen6 (And.intro hc6 (And.intro hown6 (And.intro hrow6 (And.intro hbel6 hcn))))))
  clear hfm hlen6 hc6 hown6 hrow6 hbel6 hcn hsum hxs6
  go_wp2_with fail
  refine (keys_any HU.out.2.2.1 (by rw [HU.out.2.1]; omega)).mono ?_
  rintro e w7 ⟨v7, rfl, hown7, hb7⟩
  obtain ⟨a7, cap7, rfl, hxs7, hrow7⟩ := row_reads hown7
  have hc7 : CacheIs w7 C M (es.filter (fun x => !isCut cut x.1)) size h m := HU.out.2.2.1.mod (S := fun _ => False) (Mod.of_below hb7 _) (fun _ _ h => h)
  rw [HU.out.2.1]
  have HV := Lib.hid (And.intro hrow7 (And.intro hb7 hc7))
  clear hrow7 hb7 hc7 hown7 hxs7
  go_wp2_with fail
  refine (len_any HV.out.2.2).mono ?_
  rintro e w8 ⟨rfl, rfl⟩
  rw [HU.out.2.1]
  go_wp2
  go_loopg [97] (cn) (fun g i wx => ∃ t n : Nat, t + g = cn ∧ i = .int .i64 (t : Int) ∧ wx = w7.drewN n)
  case atStart => exact ⟨0, 0, by omega, rfl, rfl⟩
  case round =>
    obtain ⟨t, nd, htg, rfl, rfl⟩ := hrel
    by_cases hg : gk = 0
    · have hk : ¬ ((t : Int) < (cn : Int)) := by omega
      clear htg hg
      go_wp2
      go_ret
      refine ⟨rfl, ?_⟩
      obtain ⟨hrow7, hb7, hc7⟩ := HV.out
      obtain ⟨hfm, hlen6, hc6, hown6, hrow6, hbel6, hcn⟩ := HU.out
      obtain ⟨hc5, hA5, hm5, hrd, hbox5, hbox6, hcnt⟩ := HT.out
      obtain ⟨hA4, hc4, hf3, hb3', hnod, hxs3, hrow3, hk, hf, hfc, hkeys⟩ := HD.out
      obtain ⟨hs4, hm4, hb4, hMa, hbc⟩ := HS.out
      obtain ⟨_, h1, h2, h3⟩ := HWB.out
      have e1 : Below wB.heap.size wB w5 := by
        have e4 : Below wB.heap.size wB w4 := hb3'.trans (hb4.mono (by have := hb3'.size; omega))
        exact e4.trans (hm5.to_below e4.size (fun x hx => by rcases hx with h | h; exact hf x h; have h' : x = Ma := h; have := hb3'.size; omega))
      have e2 : Below wB.heap.size wB w7 := (e1.trans (hbel6.mono e1.size)).trans (hb7.mono (by have := e1.size; have := hbel6.size; omega))
      have e3 : Below bc w w7 := h3.trans (e2.mono (by omega))
      exact ⟨e3.os, e3.tape, e3.output, e3.size, by rw [hbc]; exact e3.block⟩
    · have ht : t < cn := by omega
      have hrow6 : ∃ g, a6 = some ⟨g, 0, none⟩ ∧ w7.cell? ⟨g, t, none⟩ = some (.int .i64 (((es.map (·.1)).filter (fun k => !isCut cut k)).getD t 0)) := by
        obtain ⟨hfm, hlen6, hc6, hown6, hrow6, hbel6, hcn⟩ := HU.out
        obtain ⟨g, h1, h2, h3, h4⟩ := hrow6 t ht
        refine ⟨g, h1, ?_⟩
        rw [HV.out.2.1.cell (p := ⟨g, t, none⟩) h3]
        refine h4 t _ ?_
        rw [List.getElem?_map, List.getD_eq_getElem?_getD, List.getElem?_eq_getElem (by omega)]
        rfl
      have hrow7 : ∃ g, a7 = some ⟨g, 0, none⟩ ∧ w7.cell? ⟨g, t, none⟩ = some (.int .i64 (((es.map (·.1)).filter (fun k => !isCut cut k)).getD t 0)) := by
        obtain ⟨hfm, hlen6, hc6, hown6, hrow6, hbel6, hcn⟩ := HU.out
        obtain ⟨g, h1, h2, h3, h4⟩ := HV.out.1 t (by omega)
        refine ⟨g, h1, h4 t _ ?_⟩
        have e : (es.filter (fun x => !isCut cut x.1)).map (fun x => Value.int .i64 x.1) = ((es.map (·.1)).filter (fun k => !isCut cut k)).map (fun k => Value.int .i64 k) := by
          rw [← hfm, List.map_map]; rfl
        rw [e, List.getElem?_map, List.getD_eq_getElem?_getD, List.getElem?_eq_getElem (by omega)]
        rfl
      obtain ⟨g6, rfl, c6⟩ := hrow6
      obtain ⟨g7, rfl, c7⟩ := hrow7
      generalize ((es.map (·.1)).filter (fun k => !isCut cut k)).getD t 0 = y at *
      have HE := Lib.hid htg
      clear htg hg
      go_wp2_with fail
      go_region
      all_goals go_wp2
      all_goals go_roundg (gk - 1)
      case measure => have := HE.out; omega
      case rel => exact ⟨t + 1, nd + 1, by have := HE.out; omega, by go_num, rfl⟩
end Go.Proofs.Ytepgaphhinacmaa.CacheCuts
