/- StoreBoth, where what came in is of bulk at most 1048576: who has a relation, what a user has, and Has say the same: part 13 of 14: what it leans on. -/
import Derived.Deep.DeepCutAuto
import Derived.Test.YtojjnfhgldjgbaaGreatDoorBoA
import Derived.Test.YtojjnfhgldjgbaaGreatDoorBoB
import Derived.Test.YtojjnfhgldjgbaaGreatDoorBoC
import Derived.Test.YtojjnfhgldjgbaaGreatDoorBoD
import Derived.Test.YtojjnfhgldjgbaaGreatDoorBoE
import Derived.Test.YtojjnfhgldjgbaaGreatDoorBoF
import Derived.Test.YtojjnfhgldjgbaaGreatDoorBoG
import Derived.Test.YtojjnfhgldjgbaaGreatDoorBoH
import Derived.Test.YtojjnfhgldjgbaaGreatDoorBoI
import Derived.Test.YtojjnfhgldjgbaaGreatDoorBoJ
import Derived.Test.YtojjnfhgldjgbaaGreatDoorBoK
import Derived.Test.YtojjnfhgldjgbaaGreatDoorBoL
section
set_option linter.unusedVariables false
set_option linter.unusedSimpArgs false
namespace Go.Proofs.YtojjnfhgldjgbaaGreatDoor.Store
open Go.RowKit Go.Por Go.Sort Go.Proofs.YtojjnfhgldjgbaaGreatDoor.Watch
/-- The tuples of a list that are there. -/
def ofL (sp : Sp) (rev : Int) (l : List Tup) : List Tup := l.filter (fun t => atA sp t rev)
theorem ofL_take (sp : Sp) (rev : Int) (l : List Tup) {i : Nat} {x : Tup} (h : l[i]? = some x) : ofL sp rev (l.take (i + 1)) = ofL sp rev (l.take i) ++ (if atA sp x rev = true then [x] else []) := by
  unfold ofL
  rw [List.take_add_one, h, Option.toList_some, List.filter_append]
  congr 1
  by_cases hx : atA sp x rev = true
  · rw [if_pos hx]; simp [hx]
  · rw [if_neg hx]; simp [hx]
theorem ofL_le (sp : Sp) (rev : Int) (l : List Tup) (i : Nat) : (ofL sp rev (l.take i)).length ≤ i := by
  unfold ofL
  refine Nat.le_trans (List.length_filter_le _ _) ?_
  rw [List.length_take]
  omega
section
variable {w : World} {s O U M MO MU : Nat} {F : Nat → Prop} {lm : List (Tup × (Value × List Span))} {lo : List (PairT × (Value × List Tup))} {lu : List (ByteArray × (Value × List Tup))} {wm : Int}
set_option maxRecDepth 100000 in
set_option maxHeartbeats 800000 in
theorem of_mem (h : StMem w s O U M MO MU F lm lo lu wm) {N : Nat} (hN : Short N lm lo lu) (hN2 : N ≤ 1099511627776) (us : ByteArray) (rev : Int) :
    Calls Tryz.prog 31 #[.pointer (some ⟨s, 0, none⟩), .string us, .int .i64 rev] w fun e w' => ∃ v', e = .returned (.tuple #[v', .int .i64 (readA wm rev)]) ∧
      (OwnS tupC 3 w' 41 v' (if readA wm rev = 0 then (ofL (smc lm) rev (aget (smc lu) us)).mergeSort tle else []) ∧ Below w.heap.size w w' ∧ ∀ k, v'.ownBlock = some k → w.heap.size ≤ k) := by
  obtain ⟨B, hB⟩ : ∃ B, w.heap.size = B := ⟨_, rfl⟩
  have hrd := readable_any h rev
  obtain ⟨q, hq⟩ : ∃ q, readA wm rev = q := ⟨_, rfl⟩
  rw [hq] at hrd ⊢
  obtain ⟨L, hL⟩ : ∃ L, aget (smc lu) us = L := ⟨_, rfl⟩
  obtain ⟨v, hv⟩ : ∃ v, slv lu us = v := ⟨_, rfl⟩
  have hown0 := (h.u.at us).1
  have hlk : (Instr.lookup 126 (.map (some MU)) (.string us) false).run Tryz.prog w = .ok v w := by
    rw [← hv]
    exact h.u.look keyStr Tryz.underlying126 (zeroTups w) us
  have hLn : L.length ≤ N := by rw [← hL]; exact hN.u _
  rw [hL, hv] at hown0
  rw [hL]
  obtain ⟨n, hn⟩ : ∃ n, L.length = n := ⟨_, rfl⟩
  obtain ⟨ao, cp, rfl, hao⟩ : ∃ ao cp, v = .slice ao n cp ∧ (0 < n → ∃ g, ao = some ⟨g, 0, none⟩) := by
    rcases hown0.form with ⟨rfl, h2⟩ | ⟨g, cap, rfl, _, _⟩
    · exact ⟨none, 0, by rw [← hn, h2]; rfl, fun h => by rw [← hn, h2] at h; simp at h⟩
    · exact ⟨_, cap, by rw [hn], fun _ => ⟨g, rfl⟩⟩
  obtain ⟨X, hX⟩ : ∃ X, (if q = 0 then (ofL (smc lm) rev L).mergeSort tle else []) = X := ⟨_, rfl⟩
  rw [hX, hB]
  have c1 := cell_of (i := 2) h.hs rfl
  have c2 := cell_of (i := 0) h.hU rfl
  have HH := Lib.hid (And.intro h (And.intro hown0 (And.intro hn (And.intro hao (And.intro hX (And.intro hB (And.intro (show n ≤ 1099511627776 by omega) (fun k => Nat.le_trans (hN.m k) hN2))))))))
  have HR := Lib.hid hrd
  clear h hN hrd hq hv hL hown0 hLn hX hB hN2 hn
  go_enter Tryz.func31, Tryz.ntmps31
  go_wp2_with fail
  refine (HR.out).mono ?_
  rintro e w1 ⟨rfl, rfl⟩
  by_cases hq0 : q = 0
  · subst hq0
    go_wp2
    clear c1 c2 hlk
    go_loopg [9, 28] n (fun gg sv vi wx => ∃ t : Nat, t + gg = n ∧ vi = .int .i64 (t : Int) ∧ OwnS tupC 3 wx 41 sv (ofL (smc lm) rev (L.take t)) ∧ Below B w1 wx ∧ ∀ k, sv.ownBlock = some k → B ≤ k)
    case atStart => exact ⟨0, by omega, rfl, OwnS.nil _ _ _ _, Below.refl _ _, fun k h => by simp [Value.ownBlock] at h⟩
    case round =>
      obtain ⟨t, htg, rfl, iown, ibel, iwh⟩ := hrel
      by_cases hg : gk = 0
      · have ht : t = n := by omega
        have hk0 : ¬ ((t : Int) < (n : Int)) := by omega
        rw [List.take_of_length_le (by rw [HH.out.2.2.1]; omega)] at iown
        have HI := Lib.hid (And.intro iown (And.intro ibel iwh))
        clear iown ibel iwh htg hg ht
        go_wp2_with fail
        refine (sort_tup HI.out.1 ?_).mono ?_
        · have h1 := ofL_le (smc lm) rev L n
          rw [List.take_of_length_le (by rw [HH.out.2.2.1]; omega)] at h1
          have h2 := HH.out.2.2.2.2.2.2.1
          omega
        rintro e w5 ⟨rfl, hown5, hm5⟩
        have hX := HH.out.2.2.2.2.1
        rw [if_pos trivial] at hX
        rw [hX] at hown5
        have hbz := HI.out.2.1.size
        have hBz := HH.out.2.2.2.2.2.1
        have k3 : Below B w1 w5 := HI.out.2.1.trans (hm5.to_below (by omega) (fun k hk => HI.out.2.2 k hk.symm))
        have HK := Lib.hid (And.intro hown5 (And.intro k3 HI.out.2.2))
        clear hown5 hm5 k3 hX hbz hBz
        go_wp2
        go_ret2
        exact ⟨_, rfl, HK.out⟩
      · have htn : t < n := by omega
        obtain ⟨g, rfl⟩ := hao (by omega)
        clear hao
        obtain ⟨⟨t0, t1, t2⟩, hx⟩ : ∃ x, L[t]? = some x := ⟨_, List.getElem?_eq_getElem (by rw [HH.out.2.2.1]; exact htn)⟩
        have hrange := HH.out.2.1.range tupC_len hx
        have hgl := HH.out.2.1.lt
        rw [HH.out.2.2.2.2.2.1] at hgl
        have hrange2 : wr.rangeAt g (t * 3) (tupC (t0, t1, t2)) := range_below hrange ibel hgl
        have htake := ofL_take (smc lm) rev L hx
        have hle := ofL_le (smc lm) rev L t
        have hti : (t : Int) < (n : Int) := by omega
        have hti2 : (t : Int) < 9223372036854775807 := by have := HH.out.2.2.2.2.2.2.1; omega
        obtain ⟨l, hl⟩ : ∃ l, ofL (smc lm) rev (L.take t) = l := ⟨_, rfl⟩
        rw [hl] at htake iown hle
        have HI := Lib.hid (And.intro iown (And.intro ibel (And.intro iwh (And.intro hrange2 (And.intro htake (And.intro hle (And.intro htg htn)))))))
        clear iown ibel iwh hrange hrange2 hgl htake hle htg htn hx hl hg
        go_upto_region 8 with (first
          | (refine wpList_load_mid rfl 41 (.tmp 30) rfl g (t * 3) rfl (tupC (t0, t1, t2)) _ HI.out.2.2.2.1 Tryz.underlying41 rfl infoTup0 ?_; unfold tupC))
        obtain ⟨Q, hQ⟩ : ∃ Q, wr.heap.size = Q := ⟨_, rfl⟩
        have hQb := block_new wr (.cells #[.string t0, .string t1, .string t2] 41)
        have m6 : Mod (fun _ => False) wr (wr.alloc (.cells #[.string t0, .string t1, .string t2] 41)) := (Mod.refl _ wr).alloc _
        have s6 : (wr.alloc (.cells #[.string t0, .string t1, .string t2] 41)).heap.size = Q + 1 := by rw [World.size_alloc, hQ]
        rw [hQ] at hQb ⊢
        generalize hW6 : wr.alloc (.cells #[.string t0, .string t1, .string t2] 41) = W6 at *
        have y0 : W6.cell? ⟨Q, 0, none⟩ = some (.string t0) := cell_of hQb rfl
        have y1 : W6.cell? ⟨Q, 1, none⟩ = some (.string t1) := cell_of hQb rfl
        have y2 : W6.cell? ⟨Q, 2, none⟩ = some (.string t2) := cell_of hQb rfl
        have hBz := HH.out.2.2.2.2.2.1
        have hib := HI.out.2.1.size
        have hb6 : Below B w1 W6 := HI.out.2.1.trans (m6.to_below (by omega) (fun _ h => h.elim))
        have hS6 : StMem W6 s O U M MO MU F lm lo lu wm := HH.out.1.below (by rw [hBz]; exact hb6)
        have HJ := Lib.hid (And.intro hQb (And.intro m6 (And.intro s6 (And.intro hQ (And.intro hb6 (And.intro hS6 (show B ≤ Q by omega)))))))
        clear hQb m6 s6 hQ hb6 hS6 hW6 hBz hib
        go_wp2_with (first
          | (refine wpList_load_mid rfl 41 (.tmp 11) rfl Q 0 rfl [.string t0, .string t1, .string t2] _ (row_range HJ.out.1) Tryz.underlying41 rfl infoTup0 ?_))
        clear y0 y1 y2
        refine (at_any HJ.out.2.2.2.2.2.1 (t0, t1, t2) rev (HH.out.2.2.2.2.2.2.2 _)).mono ?_
        rintro e w7 ⟨rfl, hb7⟩
        have m7 : Mod (fun _ => False) W6 w7 := Mod.of_below hb7 _
        have z2 := m7.old HJ.out.1 id
        have hb7' : Below B w1 w7 := HJ.out.2.2.2.2.1.trans (hb7.mono (by have h1 := HJ.out.2.2.1; have h2 := HJ.out.2.2.2.2.2.2; omega))
        have hown7 : OwnS tupC 3 w7 41 u9 l := (HI.out.1.mod HJ.out.2.1 (fun _ _ h => h)).mod m7 (fun _ _ h => h)
        have hs7 : Q + 1 ≤ w7.heap.size := by have h1 := HJ.out.2.2.1; have h2 := m7.size; omega
        obtain ⟨bb, hbb⟩ : ∃ bb, (aget (smc lm) (t0, t1, t2)).any (hasS rev) = bb := ⟨_, rfl⟩
        rw [hbb]
        have hbb' : atA (smc lm) (t0, t1, t2) rev = bb := hbb
        have HK := Lib.hid (And.intro hb7' (And.intro hown7 (And.intro hs7 hbb')))
        clear hb7 m7 hb7' hown7 hs7 hbb hbb'
        cases bb with
        | true =>
          have hroom : (l.length + 1) * 48 ≤ 140737488355328 := by have h1 := HI.out.2.2.2.2.2.1; have h2 := HH.out.2.2.2.2.2.2.1; have h3 := HI.out.2.2.2.2.2.2.2; omega
          have hroom2 : l.length + 1 ≤ maxLen := by unfold maxLen; omega
          have HL := Lib.hid (And.intro hroom (And.intro hroom2 z2))
          clear hroom hroom2 z2
          go_wp2_with (first
            | (refine wpList_load_mid rfl 41 (.tmp 11) rfl Q 0 rfl [.string t0, .string t1, .string t2] _ (row_range HL.out.2.2) Tryz.underlying41 rfl infoTup0 ?_)
            | (at_builtin; refine wpList_push (f := tupC) (c := 3) (bytes := 48) (v := u9) (l := l) elemTup rfl (.tmp 36) (.tmp 38) rfl rfl (HK.out.2.1.mod ((Mod.refl (fun _ => False) w7).alloc (.cells #[.string t0, .string t1, .string t2] 41)) (fun _ _ h => h)) w7.heap.size (t0, t1, t2) rfl (block_new w7 (.cells #[.string t0, .string t1, .string t2] 41)) HL.out.1 HL.out.2.1 ?_))
          intro v8 w8 hown8 hm8 hb8
          have HM := Lib.hid (And.intro hown8 (And.intro hm8 hb8))
          clear hown8 hm8 hb8
          go_wp2
          go_roundg (gk - 1)
          case measure => have := HI.out.2.2.2.2.2.2.1; omega
          case rel =>
            obtain ⟨i1, i2, i3, i4, i5, i6, i7, i8⟩ := HI.out
            obtain ⟨k1, k2, k3, k4⟩ := HK.out
            obtain ⟨n1, n2, n3⟩ := HM.out
            have hj := HJ.out.2.2.2.2.2.2
            refine ⟨t + 1, by omega, by go_num, by rw [i5, if_pos k4]; exact n1, (k1.alloc (by omega) _).trans (n2.to_below (by rw [World.size_alloc]; omega) (fun k hk => i3 k hk.symm)), fun k hk => ?_⟩
            rcases n3 k hk with h | h
            · exact i3 k h
            · omega
        | false =>
          go_wp2
          go_roundg (gk - 1)
          case measure => have := HI.out.2.2.2.2.2.2.1; omega
          case rel =>
            obtain ⟨i1, i2, i3, i4, i5, i6, i7, i8⟩ := HI.out
            obtain ⟨k1, k2, k3, k4⟩ := HK.out
            exact ⟨t + 1, by omega, by go_num, by rw [i5, if_neg (by rw [k4]; decide), List.append_nil]; exact k2, k1, i3⟩
  · have hq1 : (q == 0) = false := by simp [hq0]
    have eX : X = [] := by
      have := HH.out.2.2.2.2.1
      rw [if_neg hq0] at this
      exact this.symm
    subst eX
    go_wp2
    go_ret2
    exact ⟨_, rfl, OwnS.nil _ _ _ _, Below.refl _ _, fun k h => by simp [Value.ownBlock] at h⟩
end
end Go.Proofs.YtojjnfhgldjgbaaGreatDoor.Store
end
section
set_option linter.unusedVariables false
set_option linter.unusedSimpArgs false
namespace Go.Proofs.YtojjnfhgldjgbaaGreatDoor.Store
open Go.RowKit Go.Por Go.Sort Go.Proofs.YtojjnfhgldjgbaaGreatDoor.Watch Go.Por.Tupl
/-- How often a thing stands in a list. -/
def cntL {α : Type} [DecidableEq α] (x : α) (l : List α) : Nat := (l.filter (fun y => decide (y = x))).length
theorem cntL_take {α : Type} [DecidableEq α] (x : α) (l : List α) {i : Nat} {y : α} (h : l[i]? = some y) : cntL x (l.take (i + 1)) = cntL x (l.take i) + (if y = x then 1 else 0) := by
  unfold cntL
  rw [List.take_add_one, h, Option.toList_some, List.filter_append, List.length_append]
  congr 1
  by_cases e : y = x
  · rw [if_pos e, List.filter_cons_of_pos (by simp [e])]; rfl
  · rw [if_neg e, List.filter_cons_of_neg (by simp [e])]; rfl
theorem cntL_le {α : Type} [DecidableEq α] (x : α) (l : List α) : cntL x l ≤ l.length := List.length_filter_le _ _
theorem cntL_perm {α : Type} [DecidableEq α] (x : α) {l l' : List α} (p : l.Perm l') : cntL x l = cntL x l' := (p.filter _).length_eq
theorem one_of {α : Type} {t : α} : ∀ {l : List α}, l.Nodup → (∀ y ∈ l, y = t) → ∀ (b : Bool), (t ∈ l ↔ b = true) → l.length = if b = true then 1 else 0
  | [], _, _, b, hb => by
    cases b with
    | true => have := hb.2 rfl; cases this
    | false => rfl
  | [a], _, ha, b, hb => by
    have e := ha a (by simp)
    rw [if_pos (hb.1 (by rw [e]; simp))]
    rfl
  | a :: c :: l, hn, ha, _, _ => by
    have e := ha a (by simp)
    have e2 := ha c (by simp)
    rw [List.nodup_cons] at hn
    exact absurd (by rw [e, e2]; exact List.mem_cons_self) hn.1
theorem users_count {x : St3} (h : Inv x) (rev : Int) (t : Tup) : cntL t.2.2 (sortB (usersL x.1 rev (aget x.2.1 (t.1, t.2.1)))) = if atA x.1 t rev = true then 1 else 0 := by
  rw [cntL_perm _ (sortB_perm _)]
  unfold cntL usersL
  rw [List.filter_map, List.length_map]
  refine one_of (t := t) (((h.ob.once (t.1, t.2.1)).filter _).filter _) (fun y hy => ?_) _ ?_
  · obtain ⟨h1, h2⟩ := List.mem_filter.1 hy
    obtain ⟨h3, _⟩ := List.mem_filter.1 h1
    have h4 := ((h.ob.just _ _).1 h3).1
    simp only [Function.comp, decide_eq_true_iff] at h2
    simp only [Prod.mk.injEq] at h4
    obtain ⟨y0, y1, y2⟩ := y
    obtain ⟨t0, t1, t2⟩ := t
    simp only at h2 h4
    rw [h4.1, h4.2, h2]
  · rw [List.mem_filter, List.mem_filter]
    constructor
    · exact fun k => k.1.2
    · exact fun k => ⟨⟨(h.ob.just _ _).2 ⟨rfl, atA_ne k⟩, k⟩, by simp⟩
theorem of_count {x : St3} (h : Inv x) (rev : Int) (t : Tup) : cntL t ((ofL x.1 rev (aget x.2.2 t.2.2)).mergeSort tle) = if atA x.1 t rev = true then 1 else 0 := by
  rw [cntL_perm _ (List.mergeSort_perm _ _)]
  unfold cntL ofL
  refine one_of (t := t) (((h.us.once t.2.2).filter _).filter _) (fun y hy => ?_) _ ?_
  · obtain ⟨h1, h2⟩ := List.mem_filter.1 hy
    exact of_decide_eq_true h2
  · rw [List.mem_filter, List.mem_filter]
    constructor
    · exact fun k => k.1.2
    · exact fun k => ⟨⟨(h.us.just _ _).2 ⟨rfl, atA_ne k⟩, k⟩, by simp⟩
/-- A row is there. -/
def isNow (rev : Int) (r : RowT) : Bool := decide (r.2.1 ≤ rev) && (decide (r.2.2 = 0) || decide (rev < r.2.2))
def nowN (rev : Int) (l : List RowT) : Nat := (l.filter (isNow rev)).length
theorem nowN_take (rev : Int) (l : List RowT) {i : Nat} {y : RowT} (h : l[i]? = some y) : nowN rev (l.take (i + 1)) = nowN rev (l.take i) + (if isNow rev y = true then 1 else 0) := by
  unfold nowN
  rw [List.take_add_one, h, Option.toList_some, List.filter_append, List.length_append]
  congr 1
  by_cases e : isNow rev y = true
  · rw [if_pos e, List.filter_cons_of_pos e]; rfl
  · rw [if_neg e, List.filter_cons_of_neg e]; rfl
theorem nowN_le (rev : Int) (l : List RowT) (i : Nat) : nowN rev (l.take i) ≤ i := by
  unfold nowN
  refine Nat.le_trans (List.length_filter_le _ _) ?_
  rw [List.length_take]
  omega
theorem of_small {x : St3} (h : Inv x) (rev : Int) {us : List ByteArray} (hn : us.Nodup) {l : List RowT} (p : l.Perm (flatA x.1)) : (us.map (fun u => (ofL x.1 rev (aget x.2.2 u)).length)).sum ≤ nowN rev l := by
  classical
  have hT : (us.flatMap (fun u => ofL x.1 rev (aget x.2.2 u))).length = (us.map (fun u => (ofL x.1 rev (aget x.2.2 u)).length)).sum := List.length_flatMap
  rw [← hT]
  have hnd : (us.flatMap (fun u => ofL x.1 rev (aget x.2.2 u))).Nodup := by
    unfold List.Nodup
    rw [List.pairwise_flatMap]
    refine ⟨fun u _ => (h.us.once u).filter _, List.Pairwise.imp (R := fun a b => a ≠ b) (fun {a b} hab t ht t' ht' e => ?_) hn⟩
    have h1 := ((h.us.just _ _).1 (List.mem_filter.1 ht).1).1
    have h2 := ((h.us.just _ _).1 (List.mem_filter.1 ht').1).1
    exact hab (by rw [← h1, ← h2, e])
  have hsub : ∀ t ∈ us.flatMap (fun u => ofL x.1 rev (aget x.2.2 u)), t ∈ (l.filter (isNow rev)).map (·.1) := fun t ht => by
    obtain ⟨u, _, hu⟩ := List.mem_flatMap.1 ht
    have hat := (List.mem_filter.1 hu).2
    unfold atA at hat
    rw [List.any_eq_true] at hat
    obtain ⟨s, hs, hh⟩ := hat
    exact List.mem_map.2 ⟨(t, s.1, s.2), List.mem_filter.2 ⟨p.mem_iff.2 ((mem_flat_get h.good).2 hs), hh⟩, rfl⟩
  have := nodup_length hnd hsub
  rwa [List.length_map] at this
end Go.Proofs.YtojjnfhgldjgbaaGreatDoor.Store
end
section
set_option linter.unusedVariables false
set_option linter.unusedSimpArgs false
namespace Go.Por
open Go.RowKit
/-- '==' of two whole structs. -/
theorem wpList_eqS {P : Program} {ops : Array Oper} {rest : List Oper} {o : Oper} {a : Act} {w : World} {Q : Exit → Act → World → Prop} (hgd : o.guard = none) (t : TypeId) (x y : Operand) (ty : TypeId) (ho : o.op = .binOp .eql t x y ty) (xs ys : Array Value)
    (hx : a.eval x = .agg xs) (hy : a.eval y = .agg ys) (hg : P.eqGuardType P.depth t = false) (r : Bool) (he : (Op.equal t (.agg xs) (.agg ys)).run P w = .ok r w) (h : wpList P ops Q rest (a.put o.dst (.bool r)) w) : wpList P ops Q (o :: rest) a w := by
  refine wpList_plain hgd fun K' hK' => ?_
  unfold Oper.wp execOp
  simp only [ho, Sem.run_bind, run_eqGuard_agg w .eql t x y xs ys hg, hx, hy, binOp, he, Result.andThen_ok]
  exact hK' _ _ h
end Go.Por
namespace Go.Proofs.YtojjnfhgldjgbaaGreatDoor.Store
open Go.RowKit Go.Por Go.Sort Go.Proofs.YtojjnfhgldjgbaaGreatDoor.Watch Go.Por.Tupl
theorem row_tup {W : World} {Q : Nat} {a b : Int} {t0 t1 t2 : ByteArray} {t : TypeId} (h : W.heap[Q]? = some (.cells #[.string t0, .string t1, .string t2, .int .i64 a, .int .i64 b] t (0, 0))) : W.rangeAt Q 0 [.string t0, .string t1, .string t2] := fun j u hu => by
  rw [Nat.zero_add]
  exact cell_of h (show #[Value.string t0, .string t1, .string t2, .int .i64 a, .int .i64 b][j]? = some u by
    match j with
    | 0 => simpa using hu
    | 1 => simpa using hu
    | 2 => simpa using hu
    | j + 3 => simp at hu)
theorem isNow_iff {rev : Int} {r : RowT} : isNow rev r = true ↔ r.2.1 ≤ rev ∧ (r.2.2 = 0 ∨ rev < r.2.2) := by
  unfold isNow
  rw [Bool.and_eq_true, Bool.or_eq_true, decide_eq_true_iff, decide_eq_true_iff, decide_eq_true_iff]
theorem isNow_yes {rev : Int} {t : Tup} {a b : Int} (h : a ≤ rev) (k : b = 0 ∨ rev < b) : isNow rev (t, a, b) = true := isNow_iff.2 ⟨h, k⟩
theorem usersL_len (sp : Sp) (rev : Int) (l : List Tup) : (usersL sp rev l).length ≤ l.length := by unfold usersL; rw [List.length_map]; exact List.length_filter_le _ _
theorem ofL_len (sp : Sp) (rev : Int) (l : List Tup) : (ofL sp rev l).length ≤ l.length := List.length_filter_le _ _
theorem infoOp0 : (Tryz.prog.info? 59).map (·.size) = some 8 := by kernel_rfl
theorem own_shape {α : Type} {f : α → List Value} {c : Nat} {w : World} {E : TypeId} {v : Value} {l : List α} (h : OwnS f c w E v l) : ∃ ao n cap, v = .slice ao n cap ∧ l.length = n ∧ (0 < n → ∃ g, ao = some ⟨g, 0, none⟩) := by
  rcases h.form with ⟨rfl, rfl⟩ | ⟨g, cap, rfl, h1, _⟩
  · exact ⟨none, 0, 0, rfl, rfl, fun h => absurd h (Nat.lt_irrefl _)⟩
  · exact ⟨_, _, cap, rfl, rfl, fun _ => ⟨g, rfl⟩⟩
theorem own_below {α : Type} {f : α → List Value} {c : Nat} {w w' : World} {E : TypeId} {v : Value} {l : List α} (h : OwnS f c w E v l) (hb : Below w.heap.size w w') : OwnS f c w' E v l :=
  h.mod (S := fun _ => False) (Mod.of_below hb _) (fun _ _ h => h)
def kU1 : ByteArray := { data := #[117, 115, 101, 114, 58, 97, 110, 110] }
def kU2 : ByteArray := { data := #[117, 115, 101, 114, 58, 98, 111, 98] }
def kU3 : ByteArray := { data := #[103, 114, 111, 117, 112, 58, 103, 35, 109, 101, 109, 98, 101, 114] }
theorem three_at {k : Nat} {u : ByteArray} (h : [kU1, kU2, kU3][k]? = some u) : #[Value.string { data := #[117, 115, 101, 114, 58, 97, 110, 110] }, Value.string { data := #[117, 115, 101, 114, 58, 98, 111, 98] }, Value.string { data := #[103, 114, 111, 117, 112, 58, 103, 35, 109, 101, 109, 98, 101, 114] }][k]? = some (.string u) := by
  match k with
  | 0 => simp at h; rw [← h]; rfl
  | 1 => simp at h; rw [← h]; rfl
  | 2 => simp at h; rw [← h]; rfl
  | k + 3 => simp at h
/-- How many tuples the first so many of the three users have. -/
def sumU (sp : Sp) (lu : List (ByteArray × List Tup)) (rev : Int) (k : Nat) : Nat := (([kU1, kU2, kU3].take k).map (fun u => (ofL sp rev (aget lu u)).length)).sum
theorem sumU_next (sp : Sp) (lu : List (ByteArray × List Tup)) (rev : Int) {k : Nat} {u : ByteArray} (h : [kU1, kU2, kU3][k]? = some u) : sumU sp lu rev (k + 1) = sumU sp lu rev k + (ofL sp rev (aget lu u)).length := by
  unfold sumU
  rw [List.take_add_one, h, Option.toList_some, List.map_append, List.sum_append]
  simp
theorem sumU_le (sp : Sp) (lu : List (ByteArray × List Tup)) (rev : Int) (hl : ∀ u, (aget lu u).length ≤ 1048576) : ∀ {k : Nat}, k ≤ 3 → sumU sp lu rev k ≤ k * 1048576
  | 0, _ => Nat.zero_le _
  | k + 1, hk => by
    obtain ⟨u, hu⟩ : ∃ u, [kU1, kU2, kU3][k]? = some u := ⟨_, List.getElem?_eq_getElem (show k < 3 by omega)⟩
    rw [sumU_next sp lu rev hu]
    have h1 := sumU_le sp lu rev hl (k := k) (by omega)
    have h2 := ofL_len sp rev (aget lu u)
    have h3 := hl u
    omega
set_option maxRecDepth 100000 in
set_option maxHeartbeats 3200000 in
theorem both_any {w : World} {v : Value} {ops : List OpR} (h : OpsIs w v ops) (rev : Int) :
    Calls Tryz.prog 7 #[v, .int .i64 rev] w fun e w' => e = .returned (.bool true) ∧ Below w.heap.size w w' := by
  obtain ⟨ao, ca, rfl, _⟩ := h.rd.form
  obtain ⟨n, hn⟩ : ∃ n, ops.length = n := ⟨_, rfl⟩
  obtain ⟨B, hB⟩ : ∃ B, w.heap.size = B := ⟨_, rfl⟩
  obtain ⟨ml, hml⟩ : ∃ ml, mutsOf ops = ml := ⟨_, rfl⟩
  have htot : total ml ≤ 1048576 := by rw [← hml]; exact Nat.le_trans (mutsOf_tot ops) h.tot
  have hlen : n ≤ 1048576 := by rw [← hn]; exact h.len
  rw [hn] at h ⊢
  rw [hB]
  have HH := Lib.hid (And.intro h (And.intro hn (And.intro hB (And.intro hml (And.intro htot hlen)))))
  have hn1 : (n : Int) ≤ 1048576 := by omega
  have hn2 : (0 : Int) ≤ (n : Int) := by omega
  clear h hn hB hml htot hlen
  go_enter Tryz.func7, Tryz.ntmps7
  go_wp2_with fail
  refine (awake_any _).mono ?_
  rintro e w0 ⟨rfl, b0⟩
  have z0 := b0.size
  have H0 := Lib.hid (And.intro (HH.out.1.below b0) (And.intro (show Below B w w0 by rw [← HH.out.2.2.1]; exact b0) (show B ≤ w0.heap.size by have := HH.out.2.2.1; omega)))
  clear b0 z0
  go_wp2_with fail
  refine (new_any _).mono ?_
  rintro e w1 ⟨s, rfl, ⟨O, U, M, MO, MU, lm, lo, lu, h1, e1, e2, e3⟩, b1⟩
  have hsh : Short 0 lm lo lu := ⟨fun k => by rw [e1]; exact Nat.le_refl _, fun k => by rw [e2]; exact Nat.le_refl _, fun k => by rw [e3]; exact Nat.le_refl _⟩
  have z1 := b1.size
  have H1 := Lib.hid (And.intro h1 (And.intro (And.intro e1 (And.intro e2 e3)) (And.intro (H0.out.2.1.trans (b1.mono H0.out.2.2)) (And.intro hsh (And.intro z1 (H0.out.1.below b1))))))
  clear h1 e1 e2 e3 b1 hsh z1
  go_wp2
  go_loopg [35] n (fun gg vi wx => ∃ (t : Nat) (lmx : List (Tup × (Value × List Span))) (lox : List (PairT × (Value × List Tup))) (lux : List (ByteArray × (Value × List Tup))), t + gg = n ∧ vi = .int .i64 (t : Int) ∧ StMem wx s O U M MO MU (grew (fun b => w0.heap.size ≤ b ∧ b < w1.heap.size) w1 wx) lmx lox lux 0 ∧ (smc lmx, smc lox, smc lux) = runN ([], [], []) 0 (ml.take t) ∧ Short (total (ml.take t)) lmx lox lux ∧ Mod (fun b => w0.heap.size ≤ b ∧ b < w1.heap.size) w1 wx)
  case atStart =>
    refine ⟨0, lm, lo, lu, by omega, rfl, H1.out.1.weaken (fun b hb => .inl hb) (fun b hb => ?_), ?_, H1.out.2.2.2.1.mono (Nat.zero_le _), Mod.refl _ _⟩
    · rcases hb with hb | hb <;> omega
    · rw [H1.out.2.1.1, H1.out.2.1.2.1, H1.out.2.1.2.2]; rfl
  case round =>
    obtain ⟨t, lmx, lox, lux, htg, rfl, hSx, hrun, hsh, hmod⟩ := hrel
    by_cases hc : t < n
    · have hci : (t : Int) < (n : Int) := by omega
      have ht0 : (0 : Int) ≤ (t : Int) := by omega
      have htb : (t : Int) < 9223372036854775807 := by omega
      obtain ⟨o, hx⟩ : ∃ x, ops[t]? = some x := ⟨_, List.getElem?_eq_getElem (by rw [HH.out.2.1]; exact hc)⟩
      have hne : ops ≠ [] := List.ne_nil_of_mem (List.mem_of_getElem? hx)
      have hmx : ml[t]? = some o.muts := by rw [← HH.out.2.2.2.1]; unfold mutsOf; rw [List.getElem?_map, hx]; rfl
      have hrd := H1.out.2.2.2.2.2.rd.mod (by decide) opC_len hmod (fun k hk e => by have h2 := read_blk HH.out.1.rd (by decide) opC_len hne hk; have h3 := HH.out.2.2.1; have h4 := H0.out.2.2; omega)
      obtain ⟨b2, o2, rfl, r2, lt2⟩ := hrd.lt (by decide) opC_len hx
      have hop := HH.out.1.each _ (List.mem_of_getElem? hx)
      have hm1 := (H1.out.2.2.2.2.2.each _ (List.mem_of_getElem? hx)).rm
      have hvb : o.muts ≠ [] → ∀ k, o.vm.ownBlock = some k → k < B := fun hne k hk => by have h2 := read_blk hop.rm (by decide) mutC_len hne hk; have h3 := HH.out.2.2.1; omega
      have hm2 : ReadS mutC 4 wr o.vm o.muts := by
        by_cases hmm : o.muts = []
        · obtain ⟨ao', ca', e, _⟩ := hop.rm.form
          rw [hmm, e, hmm]
          exact ⟨ao', ca', rfl, Nat.zero_le _, by simp⟩
        · exact hm1.mod (by decide) mutC_len hmod (fun k hk e => by have h2 := hvb hmm k hk; have h4 := H0.out.2.2; omega)
      obtain ⟨am, nm, cm, em⟩ : ∃ a n c, o.vm = .slice a n c := by obtain ⟨a, c, e, _⟩ := hop.rm.form; exact ⟨a, _, c, e⟩
      obtain ⟨ar, nr, cr, er⟩ : ∃ a n c, o.vr = .slice a n c := by obtain ⟨a, c, e, _⟩ := hop.rr.form; exact ⟨a, _, c, e⟩
      obtain ⟨ab, nb, cb, eb⟩ : ∃ a n c, o.vo = .slice a n c := by obtain ⟨a, c, e, _⟩ := hop.ro.form; exact ⟨a, _, c, e⟩
      have hopc : opC o = [.int .i64 o.kind, .int .i64 o.rev, .slice am nm cm, .slice ar nr cr, .slice ab nb cb, .string o.tup.1, .string o.tup.2.1, .string o.tup.2.2] := by unfold opC; rw [em, er, eb]
      rw [hopc] at r2
      rw [em] at hm2 hvb
      have htk := runN_take hmx ([], [], [])
      have htt := total_take hmx
      have hle := total_le ml (t + 1)
      have HE := Lib.hid (And.intro htg (And.intro hSx (And.intro hrun (And.intro hsh (And.intro hmod (And.intro hc (And.intro hm2 (And.intro hvb (And.intro hop.om (And.intro htk (And.intro htt (And.intro hle r2))))))))))))
      clear htg hSx hrun hsh hmod hc hx hne hmx hrd r2 lt2 hop hm1 hvb hm2 htk htt hle em er eb hopc
      go_upto_region 7 with (first
        | (refine wpList_load_mid rfl 59 (.tmp 38) rfl b2 (o2 + t * 8) rfl [.int .i64 o.kind, .int .i64 o.rev, .slice am nm cm, .slice ar nr cr, .slice ab nb cb, .string o.tup.1, .string o.tup.2.1, .string o.tup.2.2] _ HE.out.2.2.2.2.2.2.2.2.2.2.2.2 Tryz.underlying59 rfl infoOp0 ?_))
      obtain ⟨Q, hQ⟩ : ∃ Q, wr.heap.size = Q := ⟨_, rfl⟩
      have hQb := block_new wr (.cells #[.int .i64 o.kind, .int .i64 o.rev, .slice am nm cm, .slice ar nr cr, .slice ab nb cb, .string o.tup.1, .string o.tup.2.1, .string o.tup.2.2] 59)
      have m7 : Mod (fun _ => False) wr (wr.alloc (.cells #[.int .i64 o.kind, .int .i64 o.rev, .slice am nm cm, .slice ar nr cr, .slice ab nb cb, .string o.tup.1, .string o.tup.2.1, .string o.tup.2.2] 59)) := (Mod.refl _ wr).alloc _
      have s7 : (wr.alloc (.cells #[.int .i64 o.kind, .int .i64 o.rev, .slice am nm cm, .slice ar nr cr, .slice ab nb cb, .string o.tup.1, .string o.tup.2.1, .string o.tup.2.2] 59)).heap.size = wr.heap.size + 1 := by rw [World.size_alloc]
      rw [hQ] at hQb ⊢
      generalize hW7 : wr.alloc (.cells #[.int .i64 o.kind, .int .i64 o.rev, .slice am nm cm, .slice ar nr cr, .slice ab nb cb, .string o.tup.1, .string o.tup.2.1, .string o.tup.2.2] 59) = W7 at *
      have y2 : W7.cell? ⟨Q, 2, none⟩ = some (.slice am nm cm) := cell_of hQb rfl
      have HJ := Lib.hid (And.intro (HE.out.2.1.mod m7 (fun _ _ h => h)) (And.intro m7 s7))
      clear hQb m7 s7 hQ hW7
      go_wp2_with fail
      clear y2
      refine (apply_mem HJ.out.1 HE.out.2.2.2.1 (HE.out.2.2.2.2.2.2.1.mod (S := fun _ => False) (by decide) mutC_len HJ.out.2.1 (fun _ _ h => h)) (fun hne k hk hF => by
        have h1 := HE.out.2.2.2.2.2.2.2.1 hne k hk
        have h2 := H1.out.2.2.2.2.1
        have h3 := H0.out.2.2
        rcases hF with hF | hF <;> omega) HE.out.2.2.2.2.2.2.2.2.1 (by have h1 := HH.out.2.2.2.2.1; have h2 := HE.out.2.2.2.2.2.2.2.2.2.2.1; have h3 := HE.out.2.2.2.2.2.2.2.2.2.2.2.1; omega) _).mono ?_
      rintro e w5 ⟨rfl, lm5, lo5, lu5, h5, p5, s5, m5⟩
      have HF := Lib.hid (And.intro h5 (And.intro p5 (And.intro s5 m5)))
      clear h5 p5 s5 m5
      go_wp2
      go_roundg (gk - 1)
      case measure => have h1 := HE.out.1; have h2 := HE.out.2.2.2.2.2.1; omega
      case rel =>
        obtain ⟨e1, e2, e3, e4, e5, e6, e7, e8, e9, e10, e11, e12, e13⟩ := HE.out
        obtain ⟨f1, f2, f3, f4⟩ := HF.out
        obtain ⟨j1, j2, j3⟩ := HJ.out
        have z2 := e5.size
        have z3 := f4.size
        refine ⟨t + 1, lm5, lo5, lu5, by omega, by go_num, f1.weaken (fun b hb => ?_) (fun b hb => ?_), ?_, ?_, (e5.trans' (j2.mono (fun _ _ h => h.elim))).trans f4 (fun b hb => ?_)⟩
        · rcases hb with (hb | hb) | hb
          · exact .inl hb
          · exact .inr ⟨hb.1, by omega⟩
          · exact .inr ⟨by omega, hb.2⟩
        · have h2 := H1.out.2.2.2.2.1
          rcases hb with hb | hb <;> omega
        · rw [e10, ← e3, f2]
          unfold run3
          rfl
        · rw [e11]; exact f3
        · rcases hb with hb | hb
          · exact .inl hb
          · exact .inr hb.1
    · have hci : ¬ (t : Int) < (n : Int) := by omega
      have hmn : ml.length = n := by rw [← HH.out.2.2.2.1]; unfold mutsOf; rw [List.length_map, HH.out.2.1]
      rw [List.take_of_length_le (by omega)] at hrun hsh
      have hinv := runN_inv ml (x := ([], [], [])) 0 Inv.nil
      have hfl := runN_len ml (x := ([], [], [])) 0 Inv.nil
      rw [← hrun] at hinv hfl
      have e0 : (flatA (([], [], []) : St3).1).length = 0 := rfl
      rw [e0] at hfl
      have hfl' : (flatA (smc lmx)).length ≤ 1048576 := by have h1 := HH.out.2.2.2.2.1; simp only at hfl; omega
      have bw : Below B w wr := H1.out.2.2.1.trans (hmod.to_below (by have h1 := H0.out.2.2; have h2 := H1.out.2.2.2.2.1; omega) (fun k hk => by have h1 := H0.out.2.2; omega))
      have hBw : B ≤ wr.heap.size := by have h1 := H0.out.2.2; have h2 := H1.out.2.2.2.2.1; have h3 := hmod.size; omega
      have HE := Lib.hid (And.intro hSx (And.intro hinv (And.intro hfl' (And.intro (show Short 1048576 lmx lox lux from hsh.mono HH.out.2.2.2.2.1) (And.intro bw hBw)))))
      clear htg hSx hrun hsh hmod hc hmn hinv hfl e0 hfl' bw hBw
      by_cases hr : rev < 0
      · have hrd : readA 0 rev = 1 := by unfold readA; rw [if_pos hr]
        have HR := Lib.hid hrd
        clear hrd
        go_wp2_with fail
        refine (users_mem HE.out.1 HE.out.2.2.2.1 (by decide) _ _ rev).mono ?_
        rintro e w5 ⟨v5, rfl, _, b5, _⟩
        rw [HR.out]
        have HF := Lib.hid (HE.out.2.2.2.2.1.trans (b5.mono HE.out.2.2.2.2.2))
        clear b5
        go_wp2
        go_ret
        exact ⟨rfl, HF.out⟩
      · have hr0 : 0 ≤ rev := by omega
        have hrd : readA 0 rev = 0 := by unfold readA; rw [if_neg hr, if_neg hr]
        have HR := Lib.hid hrd
        clear hrd
        go_wp2_with fail
        refine (rows_mem HE.out.1 (by have := HE.out.2.2.1; omega) (fun r hr => by have := flat_bounds HE.out.2.1.good r hr; omega)).mono ?_
        rintro e w5 ⟨v5, rfl, l, p5, s5, o5, b5, n5⟩
        obtain ⟨ao5, n5l, cap5, rfl, hn5, hg5⟩ := own_shape o5
        have hl5 : n5l ≤ 1048576 := by rw [← hn5, p5.length_eq]; exact HE.out.2.2.1
        have z5 := b5.size
        have H5 := Lib.hid (And.intro p5 (And.intro o5 (And.intro hn5 (And.intro hg5 (And.intro hl5 (And.intro (HE.out.1.below b5) (And.intro (HE.out.2.2.2.2.1.trans (b5.mono HE.out.2.2.2.2.2)) (show B ≤ w5.heap.size by have := HE.out.2.2.2.2.2; omega))))))))
        have hl51 : (n5l : Int) ≤ 1048576 := by omega
        clear p5 s5 o5 b5 n5 hn5 hg5 hl5 z5
        go_wp2
        go_loopg [10, 60] n5l (fun gg v10 vi wx => ∃ t : Nat, t + gg = n5l ∧ vi = .int .i64 (t : Int) ∧ v10 = .int .i64 (nowN rev (l.take t) : Int) ∧ Below w5.heap.size w5 wx)
        case atStart => exact ⟨0, by omega, rfl, rfl, Below.refl _ _⟩
        case round =>
          obtain ⟨t, htg, rfl, rfl, hbel⟩ := hrel
          by_cases hc : t < n5l
          · have hci : (t : Int) < (n5l : Int) := by omega
            have ht0 : (0 : Int) ≤ (t : Int) := by omega
            have htb : (t : Int) < 9223372036854775807 := by omega
            obtain ⟨⟨⟨t0, t1, t2⟩, a, bu⟩, hx⟩ : ∃ x, l[t]? = some x := ⟨_, List.getElem?_eq_getElem (by rw [H5.out.2.2.1]; exact hc)⟩
            obtain ⟨g5, rfl⟩ := H5.out.2.2.2.1 (by omega)
            have hrange := OwnS.range rowC_len' (own_below H5.out.2.1 hbel) hx
            have hbnd := flat_bounds HE.out.2.1.good _ (H5.out.1.mem_iff.1 (List.mem_of_getElem? hx))
            have htake := nowN_take rev l hx
            have hle := nowN_le rev l t
            obtain ⟨N, hN⟩ : ∃ N, nowN rev (l.take t) = N := ⟨_, rfl⟩
            rw [hN] at htake hle ⊢
            have hN0 : (0 : Int) ≤ (N : Int) := by omega
            have hN1 : (N : Int) ≤ 1048576 := by omega
            simp only at hbnd
            have HI := Lib.hid (And.intro hbel (And.intro hrange (And.intro hbnd (And.intro htake (And.intro htg hc)))))
            clear hbel hrange hbnd htake htg hc hx hN hle
            go_upto_region 16 with (first
              | (refine wpList_load_mid rfl 63 (.tmp 62) rfl g5 (t * 5) rfl (rowC ((t0, t1, t2), a, bu)) _ HI.out.2.1 Tryz.underlying63 rfl infoRow0 ?_; unfold rowC))
            obtain ⟨Q, hQ⟩ : ∃ Q, wr.heap.size = Q := ⟨_, rfl⟩
            have hQb := block_new wr (.cells #[.string t0, .string t1, .string t2, .int .i64 a, .int .i64 bu] 63)
            have b7 : Below w5.heap.size w5 (wr.alloc (.cells #[.string t0, .string t1, .string t2, .int .i64 a, .int .i64 bu] 63)) := HI.out.1.trans ((Below.refl _ wr).alloc HI.out.1.size _)
            rw [hQ] at hQb ⊢
            generalize hW7 : wr.alloc (.cells #[.string t0, .string t1, .string t2, .int .i64 a, .int .i64 bu] 63) = W7 at *
            have HJ := Lib.hid (And.intro hQb (And.intro b7 (H5.out.2.2.2.2.2.1.below b7)))
            clear hQb b7 hQ hW7
            obtain ⟨hb, hhb⟩ : ∃ hb, atA (smc lmx) (t0, t1, t2) rev = hb := ⟨_, rfl⟩
            go_wp2_with (first
              | (refine wpList_load_mid rfl 41 (.tmp 66) rfl Q 0 rfl [.string t0, .string t1, .string t2] _ (row_tup HJ.out.1) Tryz.underlying41 rfl infoTup0 ?_))
            refine (has_mem HJ.out.2.2 (t0, t1, t2) rev (Nat.le_trans (HE.out.2.2.2.1.m _) (by decide))).mono ?_
            rintro e w8 ⟨rfl, b8⟩
            rw [HR.out, hhb, show (decide ((0 : Int) = 0) && hb) = hb by simp]
            have hQ8 := (Mod.of_below b8 (fun _ => False)).old HJ.out.1 id
            have y0 : w8.cell? ⟨Q, 0, none⟩ = some (.string t0) := cell_of hQ8 rfl
            have y1 : w8.cell? ⟨Q, 1, none⟩ = some (.string t1) := cell_of hQ8 rfl
            have H8 := Lib.hid (And.intro hQ8 (And.intro (HJ.out.2.1.trans (b8.mono HJ.out.2.1.size)) (HJ.out.2.2.below b8)))
            clear b8 hQ8
            go_wp2_with fail
            clear y0 y1
            refine (users_mem H8.out.2.2 HE.out.2.2.2.1 (by decide) t0 t1 rev).mono ?_
            rintro e w9 ⟨v9, rfl, o9, b9, _⟩
            rw [HR.out] at o9 ⊢
            rw [if_pos rfl] at o9
            have huc := users_count HE.out.2.1 rev (t0, t1, t2)
            simp only at huc
            rw [hhb] at huc
            obtain ⟨U, hU⟩ : ∃ U, sortB (usersL (smc lmx) rev (aget (smc lox) (t0, t1))) = U := ⟨_, rfl⟩
            have hUl : U.length ≤ 1048576 := by rw [← hU, (sortB_perm _).length_eq]; exact Nat.le_trans (usersL_len _ _ _) (HE.out.2.2.2.1.o _)
            rw [hU] at o9 huc
            obtain ⟨aoU, nU, capU, rfl, hnU, hgU⟩ := own_shape o9
            rw [hnU] at hUl
            have hQ9 := (Mod.of_below b9 (fun _ => False)).old H8.out.1 id
            have y2 : w9.cell? ⟨Q, 2, none⟩ = some (.string t2) := cell_of hQ9 rfl
            have H9 := Lib.hid (And.intro hQ9 (And.intro (H8.out.2.1.trans (b9.mono H8.out.2.1.size)) (And.intro (H8.out.2.2.below b9) (And.intro o9 (And.intro hnU (And.intro hgU (And.intro hUl huc)))))))
            have hU1 : (nU : Int) ≤ 1048576 := by omega
            clear b9 hQ9 o9 hnU hgU hUl huc hU
            go_wp2_with fail
            clear y2
            refine (of_mem H9.out.2.2.1 HE.out.2.2.2.1 (by decide) t2 rev).mono ?_
            rintro e w10 ⟨v10, rfl, o10, b10, _⟩
            rw [HR.out] at o10 ⊢
            rw [if_pos rfl] at o10
            have hoc := of_count HE.out.2.1 rev (t0, t1, t2)
            simp only at hoc
            rw [hhb] at hoc
            obtain ⟨V, hV⟩ : ∃ V, (ofL (smc lmx) rev (aget (smc lux) t2)).mergeSort tle = V := ⟨_, rfl⟩
            have hVl : V.length ≤ 1048576 := by rw [← hV, List.length_mergeSort]; exact Nat.le_trans (ofL_len _ _ _) (HE.out.2.2.2.1.u _)
            rw [hV] at o10 hoc
            obtain ⟨aoV, nV, capV, rfl, hnV, hgV⟩ := own_shape o10
            rw [hnV] at hVl
            have hQ10 := (Mod.of_below b10 (fun _ => False)).old H9.out.1 id
            have H10 := Lib.hid (And.intro hQ10 (And.intro (H9.out.2.1.trans (b10.mono H9.out.2.1.size)) (And.intro (own_below H9.out.2.2.2.1 b10) (And.intro o10 (And.intro hnV (And.intro hgV (And.intro hVl hoc)))))))
            have hV1 : (nV : Int) ≤ 1048576 := by omega
            have y2 : w10.cell? ⟨Q, 2, none⟩ = some (.string t2) := cell_of hQ10 rfl
            obtain ⟨ci, hci2⟩ : ∃ ci : Int, (if hb = true then 1 else 0) = ci := ⟨_, rfl⟩
            have HCI := Lib.hid (And.intro hci2 hhb)
            clear b10 hQ10 o10 hnV hgV hVl hoc hV hci2 hhb
            go_upto_block 4 with fail
            go_cut [19] (fun s19 wx => s19 = .int .i64 ci ∧ wx = w10)
            case first =>
              go_wp2_with fail
              go_loopg [19, 105] nU (fun gg v19 vi wx => ∃ k : Nat, k + gg = nU ∧ vi = .int .i64 (k : Int) ∧ v19 = .int .i64 (cntL t2 (U.take k) : Int) ∧ wx = w10)
              case atStart => exact ⟨0, by omega, rfl, rfl, rfl⟩
              case round =>
                obtain ⟨k, hkg, rfl, rfl, rfl⟩ := hrel
                by_cases hck : k < nU
                · have hki : (k : Int) < (nU : Int) := by omega
                  have hk0 : (0 : Int) ≤ (k : Int) := by omega
                  obtain ⟨x, hx⟩ : ∃ x, U[k]? = some x := ⟨_, List.getElem?_eq_getElem (by rw [H9.out.2.2.2.2.1]; exact hck)⟩
                  obtain ⟨gU, rfl⟩ := H9.out.2.2.2.2.2.1 (by omega)
                  have hcx := OwnS.range strC_len H10.out.2.2.1 hx 0 (.string x) rfl
                  rw [Nat.mul_one, Nat.add_zero] at hcx
                  have hct := cntL_take t2 U hx
                  have hcl := cntL_le t2 (U.take k)
                  rw [List.length_take] at hcl
                  obtain ⟨C, hC⟩ : ∃ C, cntL t2 (U.take k) = C := ⟨_, rfl⟩
                  rw [hC] at hct hcl ⊢
                  have hC0 : (0 : Int) ≤ (C : Int) := by omega
                  have hC1 : (C : Int) ≤ 1048576 := by omega
                  have HX := Lib.hid (And.intro hct (And.intro hkg hck))
                  clear hct hkg hck hx hcl hC
                  by_cases hxe : x = t2
                  · have hbx : (x.toList == t2.toList) = true := by rw [bytes_beq, decide_eq_true hxe]
                    have HXE := Lib.hid hxe
                    clear hxe
                    go_wp2
                    go_roundg (gk - 1)
                    case measure => have h1 := HX.out.2; omega
                    case rel => exact ⟨k + 1, by have h1 := HX.out.2; omega, by go_num, by rw [HX.out.1, if_pos HXE.out]; go_num, rfl⟩
                  · have hbx : (x.toList == t2.toList) = false := by rw [bytes_beq, decide_eq_false hxe]
                    have HXE := Lib.hid hxe
                    clear hxe
                    go_wp2
                    go_roundg (gk - 1)
                    case measure => have h1 := HX.out.2; omega
                    case rel => exact ⟨k + 1, by have h1 := HX.out.2; omega, by go_num, by rw [HX.out.1, if_neg HXE.out]; rfl, rfl⟩
                · have hki : ¬ (k : Int) < (nU : Int) := by omega
                  rw [List.take_of_length_le (by rw [H9.out.2.2.2.2.1]; omega)]
                  clear hkg hck
                  go_wp2
                  go_meet
                  refine ⟨?_, rfl⟩
                  rw [H9.out.2.2.2.2.2.2.2, ← HCI.out.1]
                  split <;> rfl
            case rest =>
              obtain ⟨rfl, rfl⟩ := hcut
              clear y2
              go_upto_block 6 with fail
              go_cut [20] (fun s20 wx => s20 = .int .i64 ci ∧ Below wc.heap.size wc wx)
              case first =>
                go_wp2_with fail
                go_loopg [20, 119] nV (fun gg v20 vi wx => ∃ k : Nat, k + gg = nV ∧ vi = .int .i64 (k : Int) ∧ v20 = .int .i64 (cntL (t0, t1, t2) (V.take k) : Int) ∧ Below wc.heap.size wc wx)
                case atStart => exact ⟨0, by omega, rfl, rfl, Below.refl _ _⟩
                case round =>
                  obtain ⟨k, hkg, rfl, rfl, hkb⟩ := hrel
                  by_cases hck : k < nV
                  · have hki : (k : Int) < (nV : Int) := by omega
                    have hk0 : (0 : Int) ≤ (k : Int) := by omega
                    obtain ⟨⟨x0, x1, x2⟩, hx⟩ : ∃ x, V[k]? = some x := ⟨_, List.getElem?_eq_getElem (by rw [H10.out.2.2.2.2.1]; exact hck)⟩
                    obtain ⟨gV, rfl⟩ := H10.out.2.2.2.2.2.1 (by omega)
                    have hcx := OwnS.range tupC_len (own_below H10.out.2.2.2.1 hkb) hx
                    have hct := cntL_take (t0, t1, t2) V hx
                    have hcl := cntL_le (t0, t1, t2) (V.take k)
                    rw [List.length_take] at hcl
                    obtain ⟨C, hC⟩ : ∃ C, cntL (t0, t1, t2) (V.take k) = C := ⟨_, rfl⟩
                    rw [hC] at hct hcl ⊢
                    have hC0 : (0 : Int) ≤ (C : Int) := by omega
                    have hC1 : (C : Int) ≤ 1048576 := by omega
                    have HX := Lib.hid (And.intro hct (And.intro hkg (And.intro hck (And.intro hcx hkb))))
                    clear hct hkg hck hx hcl hC hcx hkb
                    go_upto_region 31 with (first
                      | (refine wpList_load_mid rfl 41 (.tmp 121) rfl gV (k * 3) rfl (tupC (x0, x1, x2)) _ HX.out.2.2.2.1 Tryz.underlying41 rfl infoTup0 ?_; unfold tupC))
                    obtain ⟨Z, hZ⟩ : ∃ Z, wr.heap.size = Z := ⟨_, rfl⟩
                    have hZb := block_new wr (.cells #[.string x0, .string x1, .string x2] 41)
                    have bZ : Below wc.heap.size wc (wr.alloc (.cells #[.string x0, .string x1, .string x2] 41)) := HX.out.2.2.2.2.trans ((Below.refl _ wr).alloc HX.out.2.2.2.2.size _)
                    rw [hZ] at hZb ⊢
                    generalize hWZ : wr.alloc (.cells #[.string x0, .string x1, .string x2] 41) = WZ at *
                    have hQZ := (Mod.of_below bZ (fun _ => False)).old H10.out.1 id
                    obtain ⟨bb, hbb⟩ : ∃ bb, decide ((x0, x1, x2) = (t0, t1, t2)) = bb := ⟨_, rfl⟩
                    have heq := eqTup (x0, x1, x2) (t0, t1, t2) WZ
                    rw [hbb] at heq
                    have HJ2 := Lib.hid (And.intro hZb (And.intro bZ (And.intro hQZ (And.intro heq hbb))))
                    clear hZb bZ hZ hWZ hQZ heq hbb
                    cases bb
                    all_goals
                      go_upto_if 126 with (first
                        | (refine wpList_load_mid rfl 41 (.tmp 24) rfl Z 0 rfl [.string x0, .string x1, .string x2] _ (row_range HJ2.out.1) Tryz.underlying41 rfl infoTup0 ?_)
                        | (refine wpList_load_mid rfl 41 (.tmp 124) rfl Q 0 rfl [.string t0, .string t1, .string t2] _ (row_tup HJ2.out.2.2.1) Tryz.underlying41 rfl infoTup0 ?_; simp only [Act.put, List.setIfInBounds_toArray, List.set_cons_zero, List.set_cons_succ]; refine wpList_eqS rfl 41 (.tmp 123) (.tmp 125) _ rfl (tupC (x0, x1, x2)).toArray (tupC (t0, t1, t2)).toArray ?hx ?hy ?hg _ HJ2.out.2.2.2.1 ?_; (case hx => rfl); (case hy => rfl); (case hg => kernel_rfl); simp only [Act.put, List.setIfInBounds_toArray, List.set_cons_zero, List.set_cons_succ]))
                      go_wp2
                      go_roundg (gk - 1)
                      case measure => have h1 := HX.out.2.1; have h2 := HX.out.2.2.1; omega
                      case rel =>
                        have h1 := HX.out.2.1
                        have h2 := HX.out.2.2.1
                        refine ⟨k + 1, by omega, by go_num, ?_, HJ2.out.2.1⟩
                        rw [HX.out.1]
                        first
                          | (rw [if_pos (of_decide_eq_true HJ2.out.2.2.2.2)]; go_num)
                          | (rw [if_neg (of_decide_eq_false HJ2.out.2.2.2.2)]; rfl)
                  · have hki : ¬ (k : Int) < (nV : Int) := by omega
                    rw [List.take_of_length_le (by rw [H10.out.2.2.2.2.1]; omega)]
                    have HB2 := Lib.hid hkb
                    clear hkg hck hkb
                    go_wp2
                    go_meet
                    refine ⟨?_, HB2.out⟩
                    rw [H10.out.2.2.2.2.2.2.2, ← HCI.out.1]
                    split <;> rfl
              case rest =>
                obtain ⟨rfl, hbw⟩ := hcut
                have hQw := (Mod.of_below hbw (fun _ => False)).old H10.out.1 id
                have y3 : wc.cell? ⟨Q, 3, none⟩ = some (.int .i64 a) := cell_of hQw rfl
                have y4 : wc.cell? ⟨Q, 4, none⟩ = some (.int .i64 bu) := cell_of hQw rfl
                have hbx := H10.out.2.1.trans (hbw.mono H10.out.2.1.size)
                have HW := Lib.hid hbx
                clear hbw hQw hbx
                have hci3 := HCI.out.1
                cases hb
                all_goals
                  simp only [if_true, if_false, Bool.false_eq_true] at hci3
                  subst hci3
                  by_cases ha : a ≤ rev
                  · by_cases hb0 : bu = 0
                    · have HZ := Lib.hid (And.intro ha hb0)
                      subst hb0
                      go_wp2
                      go_roundg (gk - 1)
                      case measure => have h1 := HI.out.2.2.2.2.1; have h2 := HI.out.2.2.2.2.2; omega
                      case rel =>
                        refine ⟨t + 1, by have h1 := HI.out.2.2.2.2.1; have h2 := HI.out.2.2.2.2.2; omega, by go_num, ?_, HW.out⟩
                        rw [HI.out.2.2.2.1, if_pos (isNow_yes HZ.out.1 (.inl rfl))]
                        go_num
                    · have hbq : (bu != 0) = true := by simp [bne, hb0]
                      have hbq2 : (bu == 0) = false := by simp [hb0]
                      have hlt : ¬ bu ≤ a := by have h1 := HI.out.2.2.1; omega
                      by_cases hb1 : rev < bu
                      · have HZ := Lib.hid (And.intro ha hb1)
                        go_wp2
                        go_roundg (gk - 1)
                        case measure => have h1 := HI.out.2.2.2.2.1; have h2 := HI.out.2.2.2.2.2; omega
                        case rel =>
                          refine ⟨t + 1, by have h1 := HI.out.2.2.2.2.1; have h2 := HI.out.2.2.2.2.2; omega, by go_num, ?_, HW.out⟩
                          rw [HI.out.2.2.2.1, if_pos (isNow_yes HZ.out.1 (.inr HZ.out.2))]
                          go_num
                      · have HZ := Lib.hid (And.intro ha (And.intro hb0 hb1))
                        go_wp2
                        go_roundg (gk - 1)
                        case measure => have h1 := HI.out.2.2.2.2.1; have h2 := HI.out.2.2.2.2.2; omega
                        case rel =>
                          refine ⟨t + 1, by have h1 := HI.out.2.2.2.2.1; have h2 := HI.out.2.2.2.2.2; omega, by go_num, ?_, HW.out⟩
                          rw [HI.out.2.2.2.1, if_neg (fun e => by have h1 := isNow_iff.1 e; have h2 := HZ.out; simp only at h1; omega)]
                          rfl
                  · by_cases hb0 : bu = 0
                    · have HZ := Lib.hid ha
                      subst hb0
                      go_wp2
                      go_roundg (gk - 1)
                      case measure => have h1 := HI.out.2.2.2.2.1; have h2 := HI.out.2.2.2.2.2; omega
                      case rel =>
                        refine ⟨t + 1, by have h1 := HI.out.2.2.2.2.1; have h2 := HI.out.2.2.2.2.2; omega, by go_num, ?_, HW.out⟩
                        rw [HI.out.2.2.2.1, if_neg (fun e => by have h1 := isNow_iff.1 e; have h2 := HZ.out; simp only at h1; omega)]
                        rfl
                    · have hbq : (bu != 0) = true := by simp [bne, hb0]
                      have hlt : ¬ bu ≤ a := by have h1 := HI.out.2.2.1; omega
                      have HZ := Lib.hid ha
                      go_wp2
                      go_roundg (gk - 1)
                      case measure => have h1 := HI.out.2.2.2.2.1; have h2 := HI.out.2.2.2.2.2; omega
                      case rel =>
                        refine ⟨t + 1, by have h1 := HI.out.2.2.2.2.1; have h2 := HI.out.2.2.2.2.2; omega, by go_num, ?_, HW.out⟩
                        rw [HI.out.2.2.2.1, if_neg (fun e => by have h1 := isNow_iff.1 e; have h2 := HZ.out; simp only at h1; omega)]
                        rfl
          · have hci : ¬ (t : Int) < (n5l : Int) := by omega
            have hle := nowN_le rev l n5l
            rw [List.take_of_length_le (by rw [H5.out.2.2.1]; omega)] at hle ⊢
            obtain ⟨N, hN⟩ : ∃ N, nowN rev l = N := ⟨_, rfl⟩
            rw [hN] at hle ⊢
            have hN0 : (0 : Int) ≤ (N : Int) := by omega
            have hN1 : (N : Int) ≤ 1048576 := by have := H5.out.2.2.2.2.1; omega
            have hsm := of_small HE.out.2.1 rev (us := [kU1, kU2, kU3]) (by decide) H5.out.1
            rw [hN] at hsm
            have HI := Lib.hid (And.intro hbel hsm)
            clear hbel hsm hN hle htg hc
            have hRb := block_new wr (.cells #[.string { data := #[117, 115, 101, 114, 58, 97, 110, 110] }, .string { data := #[117, 115, 101, 114, 58, 98, 111, 98] }, .string { data := #[103, 114, 111, 117, 112, 58, 103, 35, 109, 101, 109, 98, 101, 114] }] 9)
            have bR : Below w5.heap.size w5 (wr.alloc (.cells #[.string { data := #[117, 115, 101, 114, 58, 97, 110, 110] }, .string { data := #[117, 115, 101, 114, 58, 98, 111, 98] }, .string { data := #[103, 114, 111, 117, 112, 58, 103, 35, 109, 101, 109, 98, 101, 114] }] 9)) := HI.out.1.trans ((Below.refl _ wr).alloc HI.out.1.size _)
            obtain ⟨R, hR⟩ : ∃ R, wr.heap.size = R := ⟨_, rfl⟩
            rw [hR] at hRb
            go_wp2
            (try rw [hR])
            generalize hW0 : wr.alloc (.cells #[.string { data := #[117, 115, 101, 114, 58, 97, 110, 110] }, .string { data := #[117, 115, 101, 114, 58, 98, 111, 98] }, .string { data := #[103, 114, 111, 117, 112, 58, 103, 35, 109, 101, 109, 98, 101, 114] }] 9) = W0 at *
            have HRB := Lib.hid (And.intro hRb (And.intro bR bR.size))
            clear hRb bR hR hW0
            go_loopg [25, 178] 3 (fun gg v25 vi wx => ∃ k : Nat, k + gg = 3 ∧ vi = .int .i64 (k : Int) ∧ v25 = .int .i64 (sumU (smc lmx) (smc lux) rev k : Int) ∧ Below w5.heap.size w5 wx ∧ Below W0.heap.size W0 wx)
            case atStart => exact ⟨0, by omega, rfl, rfl, HRB.out.2.1, Below.refl _ _⟩
            case round =>
              obtain ⟨k, hkg, rfl, rfl, hkb, hk0b⟩ := hrel
              by_cases hck : k < 3
              · have hki : (k : Int) < 3 := by omega
                have hk0 : (0 : Int) ≤ (k : Int) := by omega
                obtain ⟨u, hu⟩ : ∃ u, [kU1, kU2, kU3][k]? = some u := ⟨_, List.getElem?_eq_getElem (show k < 3 from hck)⟩
                have hRk := (Mod.of_below hk0b (fun _ => False)).old HRB.out.1 id
                have ck : wr.cell? ⟨R, k, none⟩ = some (.string u) := cell_of hRk (three_at hu)
                have hst := sumU_next (smc lmx) (smc lux) rev hu
                have hsl := sumU_le (smc lmx) (smc lux) rev (fun u => HE.out.2.2.2.1.u u) (show k ≤ 3 by omega)
                obtain ⟨C, hC⟩ : ∃ C, sumU (smc lmx) (smc lux) rev k = C := ⟨_, rfl⟩
                rw [hC] at hst hsl ⊢
                have hC0 : (0 : Int) ≤ (C : Int) := by omega
                have hC1 : (C : Int) ≤ 3145728 := by omega
                have HX := Lib.hid (And.intro hst (And.intro hkg (And.intro hck (And.intro hkb hk0b))))
                clear hst hsl hC hkg hck hkb hk0b hRk hu
                go_wp2_with fail
                clear ck
                refine (of_mem (H5.out.2.2.2.2.2.1.below HX.out.2.2.2.1) HE.out.2.2.2.1 (by decide) u rev).mono ?_
                rintro e w13 ⟨v13, rfl, o13, b13, _⟩
                rw [HR.out] at o13 ⊢
                rw [if_pos rfl] at o13
                obtain ⟨ao13, n13, cap13, rfl, hn13, _⟩ := own_shape o13
                rw [List.length_mergeSort] at hn13
                have hnl13 : (n13 : Int) ≤ 1048576 := by
                  have h1 := ofL_len (smc lmx) rev (aget (smc lux) u)
                  have h2 := HE.out.2.2.2.1.u u
                  omega
                have hn130 : (0 : Int) ≤ (n13 : Int) := by omega
                have HY := Lib.hid (And.intro hn13 (And.intro (HX.out.2.2.2.1.trans (b13.mono HX.out.2.2.2.1.size)) (HX.out.2.2.2.2.trans (b13.mono HX.out.2.2.2.2.size))))
                clear o13 b13 hn13
                go_wp2
                go_roundg (gk - 1)
                case measure => have h1 := HX.out.2.1; have h2 := HX.out.2.2.1; omega
                case rel => exact ⟨k + 1, by have h1 := HX.out.2.1; have h2 := HX.out.2.2.1; omega, by go_num, by rw [HX.out.1, HY.out.1]; go_num, HY.out.2⟩
              · have hki : ¬ (k : Int) < 3 := by omega
                have hk3 : k = 3 := by omega
                subst hk3
                have hsm := HI.out.2
                have hsu : sumU (smc lmx) (smc lux) rev 3 ≤ N := hsm
                obtain ⟨C, hC⟩ : ∃ C, sumU (smc lmx) (smc lux) rev 3 = C := ⟨_, rfl⟩
                rw [hC] at hsu ⊢
                have hCN : (C : Int) ≤ (N : Int) := by omega
                have HX := Lib.hid hkb
                clear hkg hck hkb hk0b hsm hsu hC
                go_wp2
                go_ret
                exact ⟨rfl, H5.out.2.2.2.2.2.2.1.trans (HX.out.mono H5.out.2.2.2.2.2.2.2)⟩
end Go.Proofs.YtojjnfhgldjgbaaGreatDoor.Store
end
