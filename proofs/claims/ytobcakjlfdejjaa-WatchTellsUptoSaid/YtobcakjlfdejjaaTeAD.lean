/- The law WatchTells of the watch, where what came in is of bulk at most 1048576: what raw rows say changes between two re: part 30 of 31: what it leans on. -/
import Derived.Test.YtobcakjlfdejjaaRows
import Derived.OpenShut
import Derived.SizedLaws
import Derived.Test.YtobcakjlfdejjaaTeA
import Derived.Test.YtobcakjlfdejjaaTeB
import Derived.Test.YtobcakjlfdejjaaTeC
import Derived.Test.YtobcakjlfdejjaaTeD
import Derived.Test.YtobcakjlfdejjaaTeE
import Derived.Test.YtobcakjlfdejjaaTeF
import Derived.Test.YtobcakjlfdejjaaTeG
import Derived.Test.YtobcakjlfdejjaaTeH
import Derived.Test.YtobcakjlfdejjaaTeI
import Derived.Test.YtobcakjlfdejjaaTeJ
import Derived.Test.YtobcakjlfdejjaaTeK
import Derived.Test.YtobcakjlfdejjaaTeL
import Derived.Test.YtobcakjlfdejjaaTeM
import Derived.Test.YtobcakjlfdejjaaTeN
import Derived.Test.YtobcakjlfdejjaaTeO
import Derived.Test.YtobcakjlfdejjaaTeP
import Derived.Test.YtobcakjlfdejjaaTeQ
import Derived.Test.YtobcakjlfdejjaaTeR
import Derived.Test.YtobcakjlfdejjaaTeS
import Derived.Test.YtobcakjlfdejjaaTeT
import Derived.Test.YtobcakjlfdejjaaTeU
import Derived.Test.YtobcakjlfdejjaaTeV
import Derived.Test.YtobcakjlfdejjaaTeW
import Derived.Test.YtobcakjlfdejjaaTeX
import Derived.Test.YtobcakjlfdejjaaTeY
import Derived.Test.YtobcakjlfdejjaaTeZ
import Derived.Test.YtobcakjlfdejjaaTeAA
import Derived.Test.YtobcakjlfdejjaaTeAB
import Derived.Test.YtobcakjlfdejjaaTeAC
section
set_option linter.unusedVariables false
set_option linter.unusedSimpArgs false
namespace Go.Proofs.Ytobcakjlfdejjaa.PWatchTellsR
open Go.RowKit Go.Por Go.Sort Go.Proofs.Ytobcakjlfdejjaa.Watch Go.Proofs.YtobcakjlfdejjaaW.PrintWords Go.Proofs.Ytobcakjlfdejjaa.PWatchTells

abbrev SpC := S43
abbrev SpD := S59
abbrev SpR := S39
def spC (x : Chg) : SpC := ⟨x.1, ⟨x.2.1, spT x.2.2⟩⟩
def spD (x : Chg) : SpD := ⟨x.1, x.2.1, spT x.2.2⟩
def spR (x : RowT) : SpR := ⟨spT x.1, x.2.1, x.2.2⟩
theorem rdC {l : List Chg} {t : Nat} {x : Chg} (hx : l[t]? = some x) : rd_T43 (l.map spC) (t : Int) = spC x := by
  unfold rd_T43
  rw [Int.toNat_natCast, List.getD_eq_getElem?_getD, List.getElem?_map, hx]
  rfl
theorem rdD {l : List Chg} {t : Nat} {x : Chg} (hx : l[t]? = some x) : rd_T59 (l.map spD) (t : Int) = spD x := by
  unfold rd_T59
  rw [Int.toNat_natCast, List.getD_eq_getElem?_getD, List.getElem?_map, hx]
  rfl
theorem rdR {l : List RowT} {t : Nat} {x : RowT} (hx : l[t]? = some x) : rd_T39 (l.map spR) (t : Int) = spR x := by
  unfold rd_T39
  rw [Int.toNat_natCast, List.getD_eq_getElem?_getD, List.getElem?_map, hx]
  rfl
theorem plain_l (l : List Chg) (hl : l.length < 2199023255552) : ∀ (d i k : Nat), i + d = l.length → d < k →
    porterlaw22_plain.l0 k ((l.take i).map spD) (l.map spC) (l.length : Int) (i : Int) = some (l.map spD)
  | 0, i, k + 1, hi, _ => by
    rw [porterlaw22_plain.l0, if_neg (by omega), List.take_of_length_le (by omega)]
  | d + 1, i, k + 1, hi, hk => by
    obtain ⟨x, hx⟩ : ∃ x, l[i]? = some x := ⟨_, List.getElem?_eq_getElem (by omega)⟩
    have ih := plain_l l hl d (i + 1) k (by omega) (by omega)
    rw [take_at hx, List.map_append] at ih
    rw [porterlaw22_plain.l0, if_pos (by omega), if_pos (by omega), if_pos (by rw [List.length_map]; omega), if_pos (by rw [List.length_map, List.length_take]; omega), rdC hx, wrap_succ (by omega)]
    exact ih
theorem plain_f (l : List Chg) (hl : l.length < 2199023255552) {k : Nat} (hk : l.length < k) : porterlaw22_plain.f k (l.map spC) = some (l.map spD) := by
  have h := plain_l l hl l.length 0 k (by omega) hk
  rw [List.take_zero, List.map_nil] at h
  unfold porterlaw22_plain.f
  rw [List.length_map]
  exact h
theorem bneD (x y : Chg) : ((!((spD x).f0 == (spD y).f0) || (!((spD x).f1 == (spD y).f1) || ((!((spD x).f2.f0.toList == (spD y).f2.f0.toList) || (!((spD x).f2.f1.toList == (spD y).f2.f1.toList) || (!((spD x).f2.f2.toList == (spD y).f2.f2.toList))))))) = true) ↔ x ≠ y := by
  obtain ⟨x0, x1, x2, x3, x4⟩ := x
  obtain ⟨y0, y1, y2, y3, y4⟩ := y
  simp only [spD, spT, bytes_beq, ne_eq, Prod.mk.injEq]
  by_cases h0 : x0 = y0 <;> by_cases h1 : x1 = y1 <;> by_cases h2 : x2 = y2 <;> by_cases h3 : x3 = y3 <;> by_cases h4 : x4 = y4 <;> simp_all
theorem same_l (a b : List Chg) (hab : a.length = b.length) (hl : a.length < 2199023255552) : ∀ (d i k : Nat), i + d = a.length → d < k →
    porterlaw22_same.l0 k (b.map spD) (a.map spD) (a.length : Int) (i : Int) = some (decide (a.drop i = b.drop i))
  | 0, i, k + 1, hi, _ => by
    rw [porterlaw22_same.l0, if_neg (by omega), List.drop_eq_nil_of_le (by omega), List.drop_eq_nil_of_le (by omega)]
    rfl
  | d + 1, i, k + 1, hi, hk => by
    obtain ⟨x, hx⟩ : ∃ x, a[i]? = some x := ⟨_, List.getElem?_eq_getElem (by omega)⟩
    obtain ⟨y, hy⟩ : ∃ y, b[i]? = some y := ⟨_, List.getElem?_eq_getElem (by omega)⟩
    have ih := same_l a b hab hl d (i + 1) k (by omega) (by omega)
    rw [porterlaw22_same.l0, if_pos (by omega), if_pos (by omega), if_pos (by rw [List.length_map]; omega), if_pos (by rw [List.length_map]; omega), rdD hx, rdD hy, drop_at hx, drop_at hy]
    by_cases hxy : x = y
    · rw [if_neg (fun h => (bneD x y).1 h hxy), wrap_succ (by omega), ih]
      refine congrArg some ?_
      rw [decide_eq_decide, List.cons.injEq]
      exact ⟨fun h => ⟨hxy, h⟩, fun h => h.2⟩
    · rw [if_pos ((bneD x y).2 hxy), decide_eq_false (fun h => hxy (List.cons.inj h).1)]
theorem same_f (a b : List Chg) (hl : a.length < 2199023255552) {k : Nat} (hk : a.length < k) : porterlaw22_same.f k (a.map spC) (b.map spD) = some (decide (a = b)) := by
  unfold porterlaw22_same.f
  rw [plain_f a hl hk, bind_at, List.length_map, List.length_map]
  by_cases hab : a.length = b.length
  · rw [if_pos (by omega)]
    exact same_l a b hab hl a.length 0 k (by omega) hk
  · rw [if_neg (by omega), decide_eq_false (fun h => hab (by rw [h]))]
theorem there_f (r : RowT) (rev : Int) : porterref07_There.f r.1.1 r.1.2.1 r.1.2.2 r.2.1 r.2.2 rev = some (isAt rev r) := by
  unfold porterref07_There.f isAt
  by_cases h1 : r.2.1 ≤ rev
  · rw [if_pos h1, decide_eq_true h1]
    by_cases h2 : r.2.2 = 0
    · rw [if_pos h2, decide_eq_true h2]; rfl
    · rw [if_neg h2, decide_eq_false h2]; rfl
  · rw [if_neg h1, decide_eq_false h1]; rfl
theorem thereL_cons (r : RowT) (rows : List RowT) (rev : Int) : thereL (r :: rows) rev = (if isAt rev r then [r.1] else []) ++ thereL rows rev := by
  unfold thereL
  by_cases h : isAt rev r = true
  · rw [List.filter_cons_of_pos h, if_pos h]; rfl
  · rw [List.filter_cons_of_neg h, if_neg h]; rfl
theorem at_l (rows : List RowT) (rev wm : Int) (hl : rows.length < 2199023255552) : ∀ (d i k : Nat) (out : List Tup), i + d = rows.length → out.Pairwise tlt → out.length ≤ i → out.length + 2 * d < k →
    porterref07_At.l0 k rev (out.map spT) (i : Int) (rows.map spR) wm = some ((insAll out (thereL (rows.drop i) rev)).map spT)
  | 0, i, k + 1, out, hi, _, _, _ => by
    rw [porterref07_At.l0, if_neg (by rw [List.length_map]; omega), List.drop_eq_nil_of_le (by omega)]
    rfl
  | d + 1, i, k + 1, out, hi, hr, ho, hk => by
    obtain ⟨x, hx⟩ : ∃ x, rows[i]? = some x := ⟨_, List.getElem?_eq_getElem (by omega)⟩
    rw [porterref07_At.l0, if_pos (by rw [List.length_map]; omega), if_pos (by omega), rdR hx, drop_at hx, thereL_cons]
    show ((porterref07_There.f x.1.1 x.1.2.1 x.1.2.2 x.2.1 x.2.2 rev).bind _) = _
    rw [there_f, bind_at]
    by_cases ha : isAt rev x = true
    · rw [if_pos ha, if_pos ha]
      have hw := with_f out x.1 hr (by omega) (k := k) (by omega)
      show ((porterref05_With.f k (out.map spT) x.1.1 x.1.2.1 x.1.2.2).bind _) = _
      have hin := insT_len x.1 out
      rw [hw, bind_at, wrap_succ (by omega), at_l rows rev wm hl d (i + 1) k (insT x.1 out) (by omega) (insT_rising x.1 hr) (by omega) (by omega)]
      rfl
    · rw [if_neg ha, if_neg ha, wrap_succ (by omega), at_l rows rev wm hl d (i + 1) k out (by omega) hr (by omega) (by omega)]
      rfl
theorem at_f (rows : List RowT) (rev wm : Int) (hl : rows.length < 2199023255552) {k : Nat} (hk : 2 * rows.length < k) : porterref07_At.f k (rows.map spR) wm rev = some ((atL rows rev).map spT) := by
  have h := at_l rows rev wm hl rows.length 0 k [] (by omega) List.Pairwise.nil (Nat.le_refl _) (by simpa using hk)
  rw [List.drop_zero, atL_ins] at h
  exact h
theorem cmpInt_zero (a b : Int) : Lib.compareInt a b = 0 ↔ a = b := by
  unfold Lib.compareInt
  split
  · omega
  · split <;> omega
theorem ccmp_true (c b : Chg) : ltOf ccmp c b = true ↔ c.1 < b.1 ∨ c.1 = b.1 ∧ ltOf tcmp c.2.2 b.2.2 = true := by
  have h1 : Lib.compareInt c.1 b.1 < 0 ↔ c.1 < b.1 := by
    have k := cmpInt_neg c.1 b.1
    unfold ltOf at k
    rwa [decide_eq_true_iff] at k
  have h2 : Lib.compareInt c.1 b.1 = 0 ↔ c.1 = b.1 := cmpInt_zero c.1 b.1
  unfold ltOf
  rw [decide_eq_true_iff, decide_eq_true_iff]
  show or2v (Lib.compareInt c.1 b.1) (tcmp c.2.2 b.2.2) < 0 ↔ _
  unfold or2v
  by_cases h : c.1 = b.1
  · rw [if_pos (h2.2 h)]
    constructor
    · exact fun k => .inr ⟨h, k⟩
    · rintro (k | ⟨_, k⟩)
      · omega
      · exact k
  · rw [if_neg (fun e => h (h2.1 e)), h1]
    constructor
    · exact fun k => .inl k
    · rintro (k | ⟨k, _⟩)
      · exact k
      · exact absurd k h
/-- What put makes where it has found the place. -/
theorem put_end (l : List Chg) (c : Chg) (n : Nat) (hn : n ≤ l.length) (hl : l.length + 1 < 2199023255552) :
    ((some (([] : List SpD) : List SpD)).bind fun y157 => (if 0 ≤ (n : Int) then (if (n : Int) ≤ ((l.map spD).length : Int) then ((some ((l.map spD).take (n : Int).toNat : List SpD)).bind fun y160 => (if y157.length + y160.length < 2199023255552 then ((some (y157 ++ y160 : List SpD)).bind fun y164 => (if y164.length < 2199023255552 then ((some (y164 ++ [(⟨c.1, c.2.1, (⟨c.2.2.1, c.2.2.2.1, c.2.2.2.2⟩ : SpT)⟩ : SpD)] : List SpD)).bind fun y167 => ((some ((l.map spD).drop (n : Int).toNat : List SpD)).bind fun y170 => (if y167.length + y170.length < 2199023255552 then (some (y167 ++ y170)) else (none)))) else (none))) else (none))) else (none)) else (none))) = some ((l.take n ++ c :: l.drop n).map spD) := by
  have h1 : ((l.map spD).take n).length ≤ l.length := by rw [List.length_take, List.length_map]; omega
  have h2 : (l.map spD).length = l.length := List.length_map _
  rw [bind_at, if_pos (by omega), if_pos (by omega), bind_at, Int.toNat_natCast, List.nil_append, if_pos (by rw [List.length_nil]; omega), bind_at, if_pos (by omega), bind_at, bind_at, if_pos (by simp only [List.length_append, List.length_singleton, List.length_take, List.length_drop]; omega)]
  refine congrArg some ?_
  rw [List.map_append, List.map_cons, List.map_take, List.map_drop, List.append_assoc]
  rfl
theorem put_l (l : List Chg) (c : Chg) (hl : l.length + 1 < 2199023255552) : ∀ (n k : Nat), n ≤ l.length → n < k → (∀ b ∈ l.drop n, ltOf ccmp c b = true) →
    ∃ A B r, porterref22_put.l0 k (l.map spD) (n : Int) c.1 c.2.1 c.2.2.1 c.2.2.2.1 c.2.2.2.2 = some (r.map spD) ∧ PutAt c l r A B
  | 0, k + 1, hn, _, hb => by
    refine ⟨l.take 0, l.drop 0, l.take 0 ++ c :: l.drop 0, ?_, ⟨(List.take_append_drop _ _).symm, rfl, hb, fun a h => by simp at h⟩⟩
    rw [porterref22_put.l0, if_neg (by omega)]
    exact put_end l c 0 (by omega) hl
  | n + 1, k + 1, hn, hk, hb => by
    obtain ⟨x, hx⟩ : ∃ x, l[n]? = some x := ⟨_, List.getElem?_eq_getElem (by omega)⟩
    have hw : wrap64 (((n + 1 : Nat) : Int) - 1) = (n : Int) := by rw [wrap_small (by omega) (by omega)]; omega
    have hstop : ltOf ccmp c x = false → PutAt c l (l.take (n + 1) ++ c :: l.drop (n + 1)) (l.take (n + 1)) (l.drop (n + 1)) := fun hf => ⟨(List.take_append_drop _ _).symm, rfl, hb, fun a h => by
      rw [take_at hx, List.getLast?_append, List.getLast?_singleton] at h
      simp only [Option.some_or, Option.some.injEq] at h
      rw [← h]; exact hf⟩
    have hgo : ltOf ccmp c x = true → ∀ b ∈ l.drop n, ltOf ccmp c b = true := fun ht b hm => by
      rw [drop_at hx] at hm
      rcases List.mem_cons.1 hm with e | hm
      · rw [e]; exact ht
      · exact hb b hm
    rw [porterref22_put.l0, if_pos (by omega), hw, if_pos (by omega), if_pos (by rw [List.length_map]; omega), rdD hx]
    by_cases h1 : c.1 < x.1
    · rw [if_pos (show c.1 < (spD x).f0 from h1)]
      exact put_l l c hl n k (by omega) (by omega) (hgo ((ccmp_true c x).2 (.inl h1)))
    · rw [if_neg (show ¬ c.1 < (spD x).f0 from h1)]
      by_cases h2 : c.1 = x.1
      · rw [if_pos (show c.1 = (spD x).f0 from h2)]
        have hle := less_f c.2.2 x.2.2
        show ∃ A B r, ((porterref05_Less.f c.2.2.1 c.2.2.2.1 c.2.2.2.2 x.2.2.1 x.2.2.2.1 x.2.2.2.2).bind _) = _ ∧ _
        rw [hle, bind_at]
        by_cases h3 : ltOf tcmp c.2.2 x.2.2 = true
        · rw [if_pos h3]
          exact put_l l c hl n k (by omega) (by omega) (hgo ((ccmp_true c x).2 (.inr ⟨h2, h3⟩)))
        · rw [if_neg h3]
          refine ⟨_, _, _, put_end l c (n + 1) hn hl, hstop ?_⟩
          cases e : ltOf ccmp c x with
          | false => rfl
          | true =>
            rcases (ccmp_true c x).1 e with k | ⟨_, k⟩
            · exact absurd k h1
            · exact absurd k h3
      · rw [if_neg (show ¬ c.1 = (spD x).f0 from h2)]
        refine ⟨_, _, _, put_end l c (n + 1) hn hl, hstop ?_⟩
        cases e : ltOf ccmp c x with
        | false => rfl
        | true =>
          rcases (ccmp_true c x).1 e with k | ⟨k, _⟩
          · exact absurd k h1
          · exact absurd k h2
theorem put_f (l : List Chg) (c : Chg) (hl : l.length + 1 < 2199023255552) {k : Nat} (hk : l.length < k) (hs : Stab.Sorted (ltOf ccmp) l) :
    ∃ r, porterref22_put.f k (l.map spD) c.1 c.2.1 c.2.2.1 c.2.2.2.1 c.2.2.2.2 = some (r.map spD) ∧ Stab.Sorted (ltOf ccmp) r ∧ Stab.Stab (ltOf ccmp) (l ++ [c]) r ∧ r.length = l.length + 1 := by
  obtain ⟨A, B, r, h1, h2⟩ := put_l l c hl l.length k (Nat.le_refl _) hk (fun b hb => by rw [List.drop_length] at hb; cases hb)
  refine ⟨r, ?_, h2.sorted hs, h2.stab, h2.len⟩
  unfold porterref22_put.f
  rw [List.length_map]
  exact h1
theorem stab_step {l r : List Chg} {L : List Chg} {c : Chg} (h : Stab.Stab (ltOf ccmp) L l) (k : Stab.Stab (ltOf ccmp) (l ++ [c]) r) : Stab.Stab (ltOf ccmp) (L ++ [c]) r := (Stab.Stab.append h (Stab.Stab.refl [c])).trans k
theorem changes_l (rows : List RowT) (fr up : Int) (hl : 2 * rows.length + 2 < 2199023255552) : ∀ (d i k : Nat) (out : List Chg), i + d = rows.length → Stab.Sorted (ltOf ccmp) out → Stab.Stab (ltOf ccmp) (outL fr up (rows.take i)) out → out.length ≤ 2 * i → 2 * rows.length + 3 * d + 4 < k →
    ∃ r, porterref22_Changes.l0 k (rows.map spR) fr up (out.map spD) (i : Int) = some (r.map spD) ∧ Stab.Sorted (ltOf ccmp) r ∧ Stab.Stab (ltOf ccmp) (outL fr up rows) r
  | 0, i, k + 1, out, hi, hs, ht, _, _ => by
    rw [List.take_of_length_le (by omega)] at ht
    refine ⟨out, ?_, hs, ht⟩
    rw [porterref22_Changes.l0, if_neg (by rw [List.length_map]; omega)]
  | d + 1, i, k + 3, out, hi, hs, ht, ho, hk => by
    obtain ⟨x, hx⟩ : ∃ x, rows[i]? = some x := ⟨_, List.getElem?_eq_getElem (by omega)⟩
    have hsucc := outL_succ fr up rows i x hx
    have hw := wrap_succ (i := i) (by omega)
    -- the two halves of a round
    have hB : ∀ (m : Nat) (o : List Chg), 2 * rows.length + 3 * d + 4 < m → Stab.Sorted (ltOf ccmp) o → Stab.Stab (ltOf ccmp) (outL fr up (rows.take (i + 1))) o → o.length ≤ 2 * (i + 1) →
        ∃ r, porterref22_Changes.l0 m (rows.map spR) fr up (o.map spD) (wrap64 ((i : Int) + 1)) = some (r.map spD) ∧ Stab.Sorted (ltOf ccmp) r ∧ Stab.Stab (ltOf ccmp) (outL fr up rows) r := fun m o hm h1 h2 h3 => by
      rw [hw]
      exact changes_l rows fr up hl d (i + 1) m o (by omega) h1 h2 h3 hm
    rw [porterref22_Changes.l0, if_pos (by rw [List.length_map]; omega), if_pos (by omega), rdR hx]
    by_cases hz : x.2.2 = 0
    · rw [if_pos (show (spR x).f2 = 0 from hz), porterref22_Changes.j1, if_neg (by simp)]
      have ha : rowAdd fr up x = addL fr up x.2.1 false x.1 := by
        unfold rowAdd
        rw [if_neg (fun h => h.1 hz), if_neg (fun h => h hz), List.append_nil]
      rw [ha] at hsucc
      by_cases h1 : fr < x.2.1
      · rw [if_pos (show fr < (spR x).f1 from h1), porterref22_Changes.j2]
        by_cases h2 : x.2.1 ≤ up
        · rw [if_pos (show decide ((spR x).f1 ≤ up) = true from decide_eq_true h2)]
          have hadd : addL fr up x.2.1 false x.1 = [(x.2.1, false, x.1)] := if_pos ⟨h1, h2⟩
          rw [hadd] at hsucc
          obtain ⟨r, e, s1, s2, s3⟩ := put_f out (x.2.1, false, x.1) (by omega) (k := k) (by omega) hs
          show ∃ r, ((porterref22_put.f k (out.map spD) x.2.1 false x.1.1 x.1.2.1 x.1.2.2).bind _) = _ ∧ _
          rw [e, bind_at, if_pos (show (spR x).f2 = 0 from hz)]
          exact hB k r (by omega) s1 (by rw [hsucc]; exact stab_step ht s2) (by omega)
        · rw [if_neg (show ¬ decide ((spR x).f1 ≤ up) = true from by rw [decide_eq_true_iff]; exact h2), if_pos (show (spR x).f2 = 0 from hz)]
          have hadd : addL fr up x.2.1 false x.1 = [] := if_neg (fun h => h2 h.2)
          rw [hadd, List.append_nil] at hsucc
          exact hB k out (by omega) hs (by rw [hsucc]; exact ht) (by omega)
      · rw [if_neg (show ¬ fr < (spR x).f1 from h1), porterref22_Changes.j2, if_neg (by simp), if_pos (show (spR x).f2 = 0 from hz)]
        have hadd : addL fr up x.2.1 false x.1 = [] := if_neg (fun h => h1 h.1)
        rw [hadd, List.append_nil] at hsucc
        exact hB k out (by omega) hs (by rw [hsucc]; exact ht) (by omega)
    · rw [if_neg (show ¬ (spR x).f2 = 0 from hz)]
      by_cases hle : x.2.2 ≤ x.2.1
      · rw [porterref22_Changes.j1, if_pos (show decide ((spR x).f2 ≤ (spR x).f1) = true from decide_eq_true hle)]
        have ha : rowAdd fr up x = [] := if_pos ⟨hz, hle⟩
        rw [ha, List.append_nil] at hsucc
        exact hB (k + 1) out (by omega) hs (by rw [hsucc]; exact ht) (by omega)
      · rw [porterref22_Changes.j1, if_neg (show ¬ decide ((spR x).f2 ≤ (spR x).f1) = true from by rw [decide_eq_true_iff]; exact hle)]
        have ha : rowAdd fr up x = addL fr up x.2.1 false x.1 ++ addL fr up x.2.2 true x.1 := by
          unfold rowAdd
          rw [if_neg (fun h => hle h.2), if_pos hz]
        rw [ha] at hsucc
        -- the second half, whatever the first has made
        have hC : ∀ (o : List Chg), Stab.Sorted (ltOf ccmp) o → Stab.Stab (ltOf ccmp) (outL fr up (rows.take i) ++ addL fr up x.2.1 false x.1) o → o.length ≤ 2 * i + 1 →
            ∃ r, (if x.2.2 = 0 then (porterref22_Changes.l0 k (rows.map spR) fr up (o.map spD) (wrap64 ((i : Int) + 1))) else (if fr < x.2.2 then (if x.2.2 ≤ up then ((porterref22_put.f k (o.map spD) x.2.2 true x.1.1 x.1.2.1 x.1.2.2).bind fun t222 => (porterref22_Changes.l0 k (rows.map spR) fr up t222 (wrap64 ((i : Int) + 1)))) else (porterref22_Changes.l0 k (rows.map spR) fr up (o.map spD) (wrap64 ((i : Int) + 1)))) else (porterref22_Changes.l0 k (rows.map spR) fr up (o.map spD) (wrap64 ((i : Int) + 1))))) = some (r.map spD) ∧ Stab.Sorted (ltOf ccmp) r ∧ Stab.Stab (ltOf ccmp) (outL fr up rows) r := fun o s1 s2 s3 => by
          rw [← List.append_assoc] at hsucc
          rw [if_neg hz]
          by_cases h3 : fr < x.2.2
          · rw [if_pos h3]
            by_cases h4 : x.2.2 ≤ up
            · rw [if_pos h4]
              have hadd : addL fr up x.2.2 true x.1 = [(x.2.2, true, x.1)] := if_pos ⟨h3, h4⟩
              rw [hadd] at hsucc
              obtain ⟨r, e, q1, q2, q3⟩ := put_f o (x.2.2, true, x.1) (by omega) (k := k) (by omega) s1
              show ∃ r, ((porterref22_put.f k (o.map spD) x.2.2 true x.1.1 x.1.2.1 x.1.2.2).bind _) = _ ∧ _
              rw [e, bind_at]
              exact hB k r (by omega) q1 (by rw [hsucc]; exact stab_step s2 q2) (by omega)
            · rw [if_neg h4]
              have hadd : addL fr up x.2.2 true x.1 = [] := if_neg (fun h => h4 h.2)
              rw [hadd, List.append_nil] at hsucc
              exact hB k o (by omega) s1 (by rw [hsucc]; exact s2) (by omega)
          · rw [if_neg h3]
            have hadd : addL fr up x.2.2 true x.1 = [] := if_neg (fun h => h3 h.1)
            rw [hadd, List.append_nil] at hsucc
            exact hB k o (by omega) s1 (by rw [hsucc]; exact s2) (by omega)
        by_cases h1 : fr < x.2.1
        · rw [if_pos (show fr < (spR x).f1 from h1), porterref22_Changes.j2]
          by_cases h2 : x.2.1 ≤ up
          · rw [if_pos (show decide ((spR x).f1 ≤ up) = true from decide_eq_true h2)]
            have hadd : addL fr up x.2.1 false x.1 = [(x.2.1, false, x.1)] := if_pos ⟨h1, h2⟩
            obtain ⟨r, e, s1, s2, s3⟩ := put_f out (x.2.1, false, x.1) (by omega) (k := k) (by omega) hs
            show ∃ r, ((porterref22_put.f k (out.map spD) x.2.1 false x.1.1 x.1.2.1 x.1.2.2).bind _) = _ ∧ _
            rw [e, bind_at]
            exact hC r s1 (by rw [hadd]; exact stab_step ht s2) (by omega)
          · rw [if_neg (show ¬ decide ((spR x).f1 ≤ up) = true from by rw [decide_eq_true_iff]; exact h2)]
            have hadd : addL fr up x.2.1 false x.1 = [] := if_neg (fun h => h2 h.2)
            exact hC out hs (by rw [hadd, List.append_nil]; exact ht) (by omega)
        · rw [if_neg (show ¬ fr < (spR x).f1 from h1), porterref22_Changes.j2, if_neg (by simp)]
          have hadd : addL fr up x.2.1 false x.1 = [] := if_neg (fun h => h1 h.1)
          exact hC out hs (by rw [hadd, List.append_nil]; exact ht) (by omega)
theorem changes_f (rows : List RowT) (fr up : Int) (hl : 2 * rows.length + 2 < 2199023255552) {k : Nat} (hk : 5 * rows.length + 4 < k) :
    ∃ r, porterref22_Changes.f k (rows.map spR) fr up = some (r.map spD) ∧ Stab.Sorted (ltOf ccmp) r ∧ Stab.Stab (ltOf ccmp) (outL fr up rows) r :=
  changes_l rows fr up hl rows.length 0 k [] (by omega) List.Pairwise.nil (Stab.Stab.refl _) (Nat.le_refl _) (by omega)
end Go.Proofs.Ytobcakjlfdejjaa.PWatchTellsR
end
section
namespace Go.Por
open Go.RowKit Go.Proofs.YtobcakjlfdejjaaW.PrintWords

section
variable {α : Type} {f : α → List Value} {c : Nat}
theorem reps_flat (hf : ∀ x, (f x).length = c) : ∀ {ps : List α} {cs : List Value}, Reps (fun p cs => cs = f p) c ps cs ↔ cs = ps.flatMap f
  | [], cs => by
    constructor
    · intro h
      have := h.1
      simpa using this
    · rintro rfl
      exact Reps.none _ _
  | p :: ps, cs => by
    constructor
    · intro h
      have h0 : cs.take c = f p := by simpa using h.2 0 p rfl
      have hl : cs.length = (ps.length + 1) * c := h.1
      have h1 : cs.drop c = ps.flatMap f := (reps_flat hf).1 ⟨by rw [List.length_drop, hl, Nat.add_mul]; omega, fun j q hq => by
        have := h.2 (j + 1) q hq
        rw [Nat.add_mul, Nat.one_mul, Nat.add_comm, ← List.drop_drop] at this
        exact this⟩
      rw [← List.take_append_drop c cs, h0, h1]
      rfl
    · rintro rfl
      have h1 := (reps_flat hf).2 (rfl : ps.flatMap f = ps.flatMap f)
      refine ⟨by rw [flat_length hf], fun j q hq => ?_⟩
      cases j with
      | zero =>
        simp only [List.getElem?_cons_zero, Option.some.injEq] at hq
        subst hq
        simp only [Nat.zero_mul, List.drop_zero, List.flatMap_cons]
        exact List.take_left' (hf p)
      | succ j =>
        have := h1.2 j q hq
        rw [Nat.add_mul, Nat.one_mul, Nat.add_comm, ← List.drop_drop, List.flatMap_cons, List.drop_left' (hf p)]
        exact this
theorem kd_flat {d : Kd α} {e : Nat} (hsz : d.sz = c) (hM : ∀ w base ok x cs, d.M w base ok x cs ↔ cs = f x) (hf : ∀ x, (f x).length = c) {w : World} {base : Nat} {ok : Nat → Prop} {v : Value} {xs : List α} :
    Kd.R d e w base ok v xs ↔ (∀ k, v.ownBlock = some k → ok k) ∧ w.ownsRow base e c v xs.length (xs.flatMap f) := by
  subst hsz
  constructor
  · rintro ⟨h1, inner, h2, h3⟩
    refine ⟨h1, ?_⟩
    rw [← (reps_flat hf).1 (h3.imp_ (fun p cs h => (hM _ _ _ _ _).1 h))]
    exact h2
  · rintro ⟨h1, h2⟩
    exact ⟨h1, _, h2, ((reps_flat hf).2 rfl).imp_ (fun p cs h => (hM _ _ _ _ _).2 h)⟩
end
end Go.Por
end
section
set_option linter.unusedVariables false
set_option linter.unusedSimpArgs false
namespace Go.Por
open Go.RowKit Go.Proofs.YtobcakjlfdejjaaW.PrintWords

theorem addr_add (b o k : Nat) : (⟨b, o, none⟩ : Addr).add k = ⟨b, o + k, none⟩ := by
  unfold Addr.add
  split
  · rename_i e; rw [e, Nat.add_zero]
  · rfl
section
variable {α β : Type} {f : α → List Value} {c : Nat} {d : Kd β} {g : α → β} {w : World} {A : Option Addr} {n cap : Nat} {l : List α} {v : Value} {e base : Nat} {ok : Nat → Prop}
theorem C_of_read (hsz : d.sz = c) (hK : ∀ w x, d.K w (g x) (f x)) (hl : ∀ x, (f x).length = c) (h : ReadS f c w (.slice A n cap) l) : Kd.C d w A (l.map g).length (l.map g) := by
  obtain ⟨ao, cap', h1, h2, h3⟩ := h
  simp only [Value.slice.injEq] at h1
  obtain ⟨rfl, rfl, rfl⟩ := h1
  subst hsz
  refine ⟨rfl, by rw [List.length_map]; exact h2, fun hp => ?_⟩
  rw [List.length_map] at hp
  obtain ⟨b, o, cs, rfl, _, _, _⟩ := h3 0 l[0] (List.getElem?_eq_getElem hp)
  refine ⟨_, rfl, fun j p hj => ?_⟩
  rw [List.getElem?_map] at hj
  cases hx : l[j]? with
  | none => rw [hx] at hj; cases hj
  | some x =>
    rw [hx] at hj
    simp only [Option.map_some, Option.some.injEq] at hj
    subst hj
    obtain ⟨b', o', cs, e, hlc, hcell, rfl⟩ := h3 j x hx
    simp only [Option.some.injEq, Addr.mk.injEq, and_true] at e
    obtain ⟨rfl, rfl⟩ := e
    refine ⟨f x, hl x, hK w x, fun i u hu => ?_⟩
    rw [addr_add, ← Nat.add_assoc]
    exact hcell i u hu
theorem own_of_R {f' : β → List Value} (hsz : d.sz = c) (hM : ∀ w base ok x cs, d.M w base ok x cs ↔ cs = f' x) (hl : ∀ x, (f' x).length = c) (hg : ∀ x, f' (g x) = f x) (h : Kd.R d e w base ok v (l.map g)) : OwnS f c w e v l ∧ ∀ k, v.ownBlock = some k → base ≤ k := by
  have h1 := ((kd_flat hsz hM hl).1 h).2
  refine ⟨?_, fun k hk => own_base h1 k hk⟩
  unfold OwnS
  have e1 : (l.map g).flatMap f' = l.flatMap f := by
    rw [List.flatMap_map]
    congr 1
    funext x
    exact hg x
  rw [e1, List.length_map] at h1
  exact own_weaken h1 (Nat.zero_le _)
end
end Go.Por
end
section
set_option linter.unusedVariables false
set_option linter.unusedSimpArgs false
namespace Go.Proofs.Ytobcakjlfdejjaa.Watch
open Go.RowKit Go.Por Go.ChangeShapes Go.WideShapes

theorem cellsI64 : Try.prog.cellsOf 2 = 1 := by kernel_rfl
theorem cellsStr : Try.prog.cellsOf 9 = 1 := by kernel_rfl
theorem cellsTup : Try.prog.cellsOf 37 = 3 := by kernel_rfl
theorem cellsRow : Try.prog.cellsOf 39 = 5 := by kernel_rfl
section
variable {H : Type} {enc : TypeId × Value → H} {w : World} {spare : Nat → Bool} {held : Bool}
set_option maxRecDepth 10000 in
theorem open_tup (fuel : Nat) (cs : List Value) (y : DataW H × List MemPlace) (h : DataW.trod enc Try.prog w 0 spare held fuel 37 cs = some y) : ∃ x, cs = tupC x := by
  obtain ⟨xs, n, _, _, hlen, hxl, hf⟩ := DataW.trod_struct Try.underlying37 h
  rw [cellsTup] at hlen
  have g0 := hf 0 _ rfl
  have g1 := hf 1 _ rfl
  have g2 := hf 2 _ rfl
  have hxl' : xs.length = 3 := hxl
  clear hxl hf h
  match cs, hlen, xs, hxl' with
  | [v0, v1, v2], _, [y0, y1, y2], _ =>
    simp [cellsStr] at g0 g1 g2
    obtain ⟨a, ha, _⟩ := DataW.trod_string Try.underlying9 g0
    obtain ⟨b, hb, _⟩ := DataW.trod_string Try.underlying9 g1
    obtain ⟨s, hs, _⟩ := DataW.trod_string Try.underlying9 g2
    simp at ha hb hs
    subst ha hb hs
    exact ⟨(a, b, s), rfl⟩
set_option maxRecDepth 10000 in
theorem open_rowC (fuel : Nat) (cs : List Value) (y : DataW H × List MemPlace) (h : DataW.trod enc Try.prog w 0 spare held fuel 39 cs = some y) : ∃ x, cs = rowC x := by
  obtain ⟨xs, n, _, _, hlen, hxl, hf⟩ := DataW.trod_struct Try.underlying39 h
  rw [cellsRow] at hlen
  have g0 := hf 0 _ rfl
  have g1 := hf 1 _ rfl
  have g2 := hf 2 _ rfl
  have hxl' : xs.length = 3 := hxl
  clear hxl hf h
  match cs, hlen, xs, hxl' with
  | [v0, v1, v2, v3, v4], _, [y0, y1, y2], _ =>
    simp [cellsTup, cellsI64] at g0 g1 g2
    obtain ⟨⟨a, b, s⟩, ha⟩ := open_tup _ _ _ g0
    obtain ⟨c, hc, _⟩ := DataW.trod_int Try.underlying2 g1
    obtain ⟨d, hd, _⟩ := DataW.trod_int Try.underlying2 g2
    simp [tupC] at ha hc hd
    obtain ⟨rfl, rfl, rfl⟩ := ha
    subst hc hd
    exact ⟨((a, b, s), c, d), rfl⟩
theorem open_rows {fuel : Nat} {cs : List Value} {y : DataW H × List MemPlace} (h : DataW.trod enc Try.prog w 0 spare held fuel 22 cs = some y) : ∃ v xs, cs = [v] ∧ SliceIs 5 (fun _ cs x => cs = rowC x) w v xs :=
  open_SliceIs Try.underlying22 cellsRow (by omega) open_rowC h
end
end Go.Proofs.Ytobcakjlfdejjaa.Watch
end
section
set_option linter.unusedVariables false
set_option linter.unusedSimpArgs false
namespace Go.Proofs.Ytobcakjlfdejjaa.Watch
open Go.RowKit Go.Por Go.ChangeShapes Go.WideShapes

theorem bulk_one {H : Type} (d : DataW H) : 1 ≤ Rows.uptoBulk d := by
  cases d with
  | lit l => cases l <;> simp [Rows.uptoBulk]
  | nil => simp [Rows.uptoBulk]
  | ptr d => simp [Rows.uptoBulk]
  | slice elems spare => simp [Rows.uptoBulk]
  | agg parts => simp [Rows.uptoBulk]
  | iface t d => simp [Rows.uptoBulk]
  | map entries => simp [Rows.uptoBulk]
  | held h => simp [Rows.uptoBulk]
theorem bulk_part {H : Type} {d : DataW H} {l : List (DataW H)} (h : d ∈ l) : Rows.uptoBulk d ≤ Rows.uptoBulkAll l := by
  induction l with
  | nil => cases h
  | cons x r ih =>
    simp only [Rows.uptoBulkAll]
    rcases List.mem_cons.1 h with e | e
    · subst e; omega
    · have := ih e; omega
theorem bulk_len {H : Type} (l : List (DataW H)) : l.length ≤ Rows.uptoBulkAll l := by
  induction l with
  | nil => simp [Rows.uptoBulkAll]
  | cons x r ih => have := bulk_one x; simp only [Rows.uptoBulkAll, List.length_cons]; omega
theorem bulk_slice {H : Type} (elems spare : List (DataW H)) : elems.length ≤ Rows.uptoBulk (.slice elems spare) := by
  have h1 := bulk_len elems
  simp only [Rows.uptoBulk]
  omega
/-- A slice's length is within its capacity. -/
def CapOk (v : Value) : Prop := ∀ ao n cap, v = .slice ao n cap → n ≤ cap
section
variable {H : Type} {enc : TypeId × Value → H} {w : World} {spare : Nat → Bool} {held : Bool}
theorem slice_bulk {α : Type} {c : Nat} {f : α → List Value} {t e : TypeId} (hu : Try.prog.underlying t = some (.slice e)) {ds : List (DataW H)} (hk : Rows.uptoSmall H ds = true) {v : Value} {d : DataW H} {p : List MemPlace} {ms : List α} (hd : d ∈ ds)
    (h : DataW.Trod enc Try.prog w 0 spare held t v d p) (hs : SliceIs c (fun _ cs x => cs = f x) w v ms) : ms.length ≤ 1048576 ∧ CapOk v := by
  obtain ⟨ao, cap, rfl, _, _⟩ := hs
  obtain ⟨fuel, hf⟩ := h
  have hb : Rows.uptoBulkAll ds ≤ 1048576 := of_decide_eq_true hk
  have hp := bulk_part hd
  rcases Go.Deep.open_slice hu (show DataW.trod enc Try.prog w 0 spare held fuel t [.slice ao ms.length cap] = some (d, p) from hf) with ⟨h, _⟩ | ⟨a, len, cap', m, n', D, Pl, h, _, _, _, _, hx, _⟩
  · simp at h
    obtain ⟨h1, h0, h2⟩ := h
    have h3 : ms.length = 0 := by rw [h0]; rfl
    exact ⟨by omega, fun a b c e => by simp only [Value.slice.injEq] at e; omega⟩
  · rename_i hlc _ _ _
    simp at h
    have hdd := (Prod.mk.inj hx).1
    rw [hdd] at hp
    have := bulk_slice ((List.range len).map D) ((List.range (m - len)).map fun j => D (len + j))
    rw [List.length_map, List.length_range] at this
    refine ⟨by omega, fun a' b' c' e => ?_⟩
    simp only [Value.slice.injEq] at e
    omega
theorem rows_bulk {ds : List (DataW H)} (hk : Rows.uptoSmall H ds = true) {v : Value} {d : DataW H} {p : List MemPlace} {ms : List RowT} (hd : d ∈ ds)
    (h : DataW.Trod enc Try.prog w 0 spare held 22 v d p) (hs : SliceIs 5 (fun _ cs x => cs = rowC x) w v ms) : ms.length ≤ 1048576 ∧ CapOk v := slice_bulk Try.underlying22 hk hd h hs
end
end Go.Proofs.Ytobcakjlfdejjaa.Watch
end
