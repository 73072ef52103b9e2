/- The law WatchDoes of the watch, where what came in is of bulk at most 1048576: raw changes done to raw tuples, the rows : part 37 of 38: what it leans on. -/
import Derived.Test.YtobcakjlfdejjaaRows
import Derived.OpenShut
import Derived.SizedLaws
import Derived.Test.YtobcakjlfdejjaaDoA
import Derived.Test.YtobcakjlfdejjaaDoB
import Derived.Test.YtobcakjlfdejjaaDoC
import Derived.Test.YtobcakjlfdejjaaDoD
import Derived.Test.YtobcakjlfdejjaaDoE
import Derived.Test.YtobcakjlfdejjaaDoF
import Derived.Test.YtobcakjlfdejjaaDoG
import Derived.Test.YtobcakjlfdejjaaDoH
import Derived.Test.YtobcakjlfdejjaaDoI
import Derived.Test.YtobcakjlfdejjaaDoJ
import Derived.Test.YtobcakjlfdejjaaDoK
import Derived.Test.YtobcakjlfdejjaaDoL
import Derived.Test.YtobcakjlfdejjaaDoM
import Derived.Test.YtobcakjlfdejjaaDoN
import Derived.Test.YtobcakjlfdejjaaDoO
import Derived.Test.YtobcakjlfdejjaaDoP
import Derived.Test.YtobcakjlfdejjaaDoQ
import Derived.Test.YtobcakjlfdejjaaDoR
import Derived.Test.YtobcakjlfdejjaaDoS
import Derived.Test.YtobcakjlfdejjaaDoT
import Derived.Test.YtobcakjlfdejjaaDoU
import Derived.Test.YtobcakjlfdejjaaDoV
import Derived.Test.YtobcakjlfdejjaaDoW
import Derived.Test.YtobcakjlfdejjaaDoX
import Derived.Test.YtobcakjlfdejjaaDoY
import Derived.Test.YtobcakjlfdejjaaDoZ
import Derived.Test.YtobcakjlfdejjaaDoAA
import Derived.Test.YtobcakjlfdejjaaDoAB
import Derived.Test.YtobcakjlfdejjaaDoAC
import Derived.Test.YtobcakjlfdejjaaDoAD
import Derived.Test.YtobcakjlfdejjaaDoAE
import Derived.Test.YtobcakjlfdejjaaDoAF
import Derived.Test.YtobcakjlfdejjaaDoAG
import Derived.Test.YtobcakjlfdejjaaDoAH
import Derived.Test.YtobcakjlfdejjaaDoAI
import Derived.Test.YtobcakjlfdejjaaDoAJ
section
set_option linter.unusedVariables false
set_option linter.unusedSimpArgs false
namespace Go.Proofs.Ytobcakjlfdejjaa.PWatchDoesR
open Go.RowKit Go.Por Go.Sort Go.Proofs.Ytobcakjlfdejjaa.Watch Go.Proofs.YtobcakjlfdejjaaW.PrintWords Go.Proofs.Ytobcakjlfdejjaa.PWatchDoes

theorem bneTT (x y : Tup) : ((!(x.1.toList == y.1.toList) || (!(x.2.1.toList == y.2.1.toList) || (!(x.2.2.toList == y.2.2.toList)))) = true) ↔ x ≠ y := by
  obtain ⟨x0, x1, x2⟩ := x
  obtain ⟨y0, y1, y2⟩ := y
  simp only [bytes_beq, ne_eq, Prod.mk.injEq]
  by_cases h0 : x0 = y0 <;> by_cases h1 : x1 = y1 <;> by_cases h2 : x2 = y2 <;> simp_all
theorem cmpInt_neg' (a b : Int) : Lib.compareInt a b < 0 ↔ a < b := by
  unfold Lib.compareInt
  split
  · rename_i h; simp [h]
  · split <;> simp <;> omega
theorem rcmp_true (a b : RowT) : ltOf rcmp a b = true ↔ if a.1 ≠ b.1 then ltOf tcmp a.1 b.1 = true else a.2.1 < b.2.1 := by
  have h2 : tcmp a.1 b.1 = 0 ↔ a.1 = b.1 := tcmp_zero
  have h1 := cmpInt_neg' a.2.1 b.2.1
  unfold ltOf
  rw [decide_eq_true_iff]
  show or2v (tcmp a.1 b.1) (Lib.compareInt a.2.1 b.2.1) < 0 ↔ _
  unfold or2v
  by_cases h : a.1 = b.1
  · rw [if_pos (h2.2 h), if_neg (fun k => k h), h1]
  · rw [if_neg (fun e => h (h2.1 e)), if_pos h, decide_eq_true_iff]
theorem before_f (a b : RowT) : porterref07_Before.f a.1.1 a.1.2.1 a.1.2.2 a.2.1 a.2.2 b.1.1 b.1.2.1 b.1.2.2 b.2.1 b.2.2 = some (ltOf rcmp a b) := by
  unfold porterref07_Before.f
  have hr := rcmp_true a b
  by_cases h : a.1 = b.1
  · rw [if_neg (fun k => (bneTT a.1 b.1).1 k h)]
    rw [if_neg (fun k => k h)] at hr
    refine congrArg some ?_
    rw [Bool.eq_iff_iff, decide_eq_true_iff, hr]
  · rw [if_pos ((bneTT a.1 b.1).2 h), less_f, bind_at]
    rw [if_pos h] at hr
    refine congrArg some ?_
    rw [Bool.eq_iff_iff, hr]

/-- The last place at which a tuple is open. -/
def scanO (t : Tup) : List RowT → Nat → Int → Int
  | [], _, cur => cur
  | r :: rs, i, cur => scanO t rs (i + 1) (if isOpen t r then (i : Int) else cur)
theorem scan_miss' {t : Tup} : ∀ (rs : List RowT) (i : Nat) (cur : Int), (∀ r ∈ rs, isOpen t r = false) → scanO t rs i cur = cur
  | [], _, _, _ => rfl
  | r :: rs, i, cur, h => by
    rw [scanO, h r List.mem_cons_self, scan_miss' rs (i + 1) _ (fun r hr => h r (List.mem_cons_of_mem _ hr))]
    rfl
theorem scan_hit' {t : Tup} {out : List RowT} {i : Nat} (h : ∀ j r, out[j]? = some r → (isOpen t r = true ↔ j = i)) : ∀ (d j : Nat) (cur : Int), j + d = out.length → i < out.length → scanO t (out.drop j) j cur = if j ≤ i then (i : Int) else cur
  | 0, j, cur, hj, hi => by
    rw [List.drop_eq_nil_of_le (by omega), scanO, if_neg (by omega)]
  | d + 1, j, cur, hj, hi => by
    obtain ⟨x, hx⟩ : ∃ x, out[j]? = some x := ⟨_, List.getElem?_eq_getElem (by omega)⟩
    rw [drop_at hx, scanO, scan_hit' h d (j + 1) _ (by omega) hi]
    have hx' := h j x hx
    by_cases e : j = i
    · subst e
      rw [if_neg (by omega), if_pos (hx'.2 rfl), if_pos (Nat.le_refl _)]
    · have hn : ¬ isOpen t x = true := fun k => e (hx'.1 k)
      rw [if_neg hn]
      by_cases hle : j ≤ i
      · rw [if_pos hle, if_pos (by omega)]
      · rw [if_neg hle, if_neg (by omega)]
theorem told_hit {out : List RowT} {lm : List (Tup × Nat)} (H : Watch.Told out lm) (hn : (lm.map Prod.fst).Nodup) {t : Tup} {i : Nat} (h : (t, i) ∈ lm) : i < out.length ∧ ∀ j r, out[j]? = some r → (isOpen t r = true ↔ j = i) := by
  obtain ⟨r0, e0, e1, e2⟩ := (H t i).1 h
  refine ⟨(List.getElem?_eq_some_iff.1 e0).1, fun j r hr => ?_⟩
  constructor
  · intro ho
    simp only [isOpen, Bool.and_eq_true, decide_eq_true_eq] at ho
    exact nodup_snd hn ((H t j).2 ⟨r, hr, ho.1, ho.2⟩) h
  · rintro rfl
    rw [e0] at hr
    cases hr
    simp [isOpen, e1, e2]
theorem told_miss {out : List RowT} {lm : List (Tup × Nat)} (H : Watch.Told out lm) {t : Tup} (h : t ∉ lm.map Prod.fst) : ∀ r ∈ out, isOpen t r = false := fun r hr => by
  cases ho : isOpen t r with
  | false => rfl
  | true =>
    obtain ⟨i, hi⟩ := List.getElem?_of_mem hr
    simp only [isOpen, Bool.and_eq_true, decide_eq_true_eq] at ho
    exact absurd (List.mem_map.2 ⟨(t, i), (H t i).2 ⟨r, hi, ho.1, ho.2⟩, rfl⟩) h
theorem shut_zero {out : List RowT} {lm : List (Tup × Nat)} (H : Watch.Told out lm) {t : Tup} {i : Nat} (h : (t, i) ∈ lm) : shutAt out i 0 = out := by
  obtain ⟨r0, e0, e1, e2⟩ := (H t i).1 h
  rw [shutAt_some e0]
  have e : (r0.1, r0.2.1, (0 : Int)) = r0 := by rw [← e2]
  rw [e]
  obtain ⟨hi, hr⟩ := List.getElem?_eq_some_iff.1 e0
  rw [← hr]
  exact List.set_getElem_self hi

/-! Inserting from the back. -/
structure InsAt (c : RowT) (l r : List RowT) (A B : List RowT) : Prop where
  l_eq : l = A ++ B
  r_eq : r = A ++ c :: B
  behind : ∀ b ∈ B, ltOf rcmp c b = true
  ahead : ∀ a, A.getLast? = some a → ltOf rcmp c a = false
theorem InsAt.sorted {c : RowT} {l r A B : List RowT} (h : InsAt c l r A B) (hs : Stab.Sorted (ltOf rcmp) l) : Stab.Sorted (ltOf rcmp) r := by
  rw [h.l_eq] at hs
  rw [h.r_eq]
  refine Stab.Sorted.append hs.left (List.pairwise_cons.2 ⟨fun b hb => Stab.SWO.asymm' rowSwo (h.behind b hb), hs.right⟩) (fun a ha b hb => ?_)
  rcases List.mem_cons.1 hb with e | hb
  · rw [e]
    rcases List.eq_nil_or_concat A with k | ⟨A', z, k⟩
    · rw [k] at ha; cases ha
    · have hz := h.ahead z (by rw [k]; simp)
      have hs1 := hs.left
      rw [k] at ha hs1
      rw [List.concat_eq_append] at ha hs1
      rcases List.mem_append.1 ha with ha | ha
      · exact rowSwo.ntrans _ _ _ hz (Stab.Sorted.cross hs1 a ha z (by simp))
      · rw [List.mem_singleton.1 ha]; exact hz
  · exact hs.cross a ha b hb
theorem InsAt.stab {c : RowT} {l r A B : List RowT} (h : InsAt c l r A B) : Stab.Stab (ltOf rcmp) (l ++ [c]) r := by
  rw [h.l_eq, h.r_eq, List.append_assoc]
  refine Stab.Stab.append (Stab.Stab.refl A) (Stab.Stab.swap rowSwo (X := B) (Y := [c]) (fun x hx y hy => ?_))
  rw [List.mem_singleton.1 hy]
  cases e : Stab.eqv (ltOf rcmp) x c with
  | false => rfl
  | true =>
    have h1 := (Stab.eqv_iff.1 e).2
    rw [h.behind x hx] at h1
    cases h1
theorem InsAt.len {c : RowT} {l r A B : List RowT} (h : InsAt c l r A B) : r.length = l.length + 1 := by
  rw [h.l_eq, h.r_eq]
  simp only [List.length_append, List.length_cons]
  omega
theorem rows3 (out : List RowT) (j : Nat) (c : RowT) (hc : out[j]? = some c) (l : List RowT) (hl : l.length + 1 < 2199023255552) (R : List SpR) (M : Nat)
    (hM : ∀ A B r, InsAt c l r A B → ∀ k, M ≤ k → porterref22_Rows.l2 k (out.map spR) (r.map spR) (wrap64 ((j : Int) + 1)) = some R) : ∀ (n k : Nat), n ≤ l.length → M + n + 1 ≤ k → (∀ b ∈ l.drop n, ltOf rcmp c b = true) →
    porterref22_Rows.l3 k (out.map spR) (l.map spR) (j : Int) (n : Int) = some R
  | 0, k + 1, hn, hk, hb => by
    have hj : j < out.length := (List.getElem?_eq_some_iff.1 hc).1
    have h1 : ((l.map spR).take 0).length ≤ l.length := by rw [List.length_take]; omega
    have h2 : (l.map spR).length = l.length := List.length_map _
    rw [porterref22_Rows.l3, if_neg (by omega), bind_at, if_pos (by omega), if_pos (by omega), bind_at, List.nil_append, if_pos (by simp), bind_at, if_pos (by omega), if_pos (by rw [List.length_map]; omega), rdR hc, if_pos (by simp), bind_at, bind_at, if_pos (by simp only [List.length_append, List.length_singleton, List.length_take, List.length_drop]; simp; omega)]
    have h := hM [] l (c :: l) ⟨rfl, rfl, by rw [List.drop_zero] at hb; exact hb, fun a h => by simp at h⟩ k (by omega)
    exact h
  | n + 1, k + 1, hn, hk, hb => by
    have hj : j < out.length := (List.getElem?_eq_some_iff.1 hc).1
    obtain ⟨x, hx⟩ : ∃ x, l[n]? = some x := ⟨_, List.getElem?_eq_getElem (by omega)⟩
    have hw : wrap64 (((n + 1 : Nat) : Int) - 1) = (n : Int) := by rw [wrap_small (by omega) (by omega)]; omega
    rw [porterref22_Rows.l3, if_pos (by omega), if_pos (by omega), if_pos (by rw [List.length_map]; omega), hw, if_pos (by omega), if_pos (by rw [List.length_map]; omega), rdR hc, rdR hx]
    show ((porterref07_Before.f c.1.1 c.1.2.1 c.1.2.2 c.2.1 c.2.2 x.1.1 x.1.2.1 x.1.2.2 x.2.1 x.2.2).bind _) = _
    rw [before_f, bind_at]
    by_cases h : ltOf rcmp c x = true
    · rw [if_pos h]
      refine rows3 out j c hc l hl R M hM n k (by omega) (by omega) (fun b hm => ?_)
      rw [drop_at hx] at hm
      rcases List.mem_cons.1 hm with e | hm
      · rw [e]; exact h
      · exact hb b hm
    · have h1 : ((l.map spR).take (n + 1)).length ≤ l.length := by rw [List.length_take, List.length_map]; omega
      have h2 : (l.map spR).length = l.length := List.length_map _
      rw [if_neg h, bind_at, if_pos (by omega), if_pos (by omega), bind_at, Int.toNat_natCast, List.nil_append, if_pos (by rw [List.length_nil]; omega), bind_at, if_pos (by omega), bind_at, bind_at, if_pos (by simp only [List.length_append, List.length_singleton, List.length_take, List.length_drop]; omega)]
      have h3 := hM (l.take (n + 1)) (l.drop (n + 1)) (l.take (n + 1) ++ c :: l.drop (n + 1)) ⟨(List.take_append_drop _ _).symm, rfl, hb, fun a ha => by
        rw [take_at hx, List.getLast?_append, List.getLast?_singleton] at ha
        simp only [Option.some_or, Option.some.injEq] at ha
        rw [← ha]
        cases e : ltOf rcmp c x with
        | false => rfl
        | true => exact absurd e h⟩ k (by omega)
      rw [List.map_append, List.map_cons, List.map_take, List.map_drop] at h3
      refine Eq.trans ?_ h3
      rw [List.append_assoc]
      rfl
theorem rows2 (out : List RowT) (hol : out.length + 1 < 2199023255552) : ∀ (d j : Nat) (l : List RowT), j + d = out.length → l.length = j → Stab.Sorted (ltOf rcmp) l → Stab.Stab (ltOf rcmp) (out.take j) l →
    ∃ R M, (∀ k, M ≤ k → porterref22_Rows.l2 k (out.map spR) (l.map spR) (j : Int) = some (R.map spR)) ∧ Stab.Sorted (ltOf rcmp) R ∧ Stab.Stab (ltOf rcmp) out R
  | 0, j, l, hj, hl, hs, ht => by
    rw [List.take_of_length_le (by omega)] at ht
    refine ⟨l, 1, fun k hk => ?_, hs, ht⟩
    obtain ⟨k, rfl⟩ : ∃ m, k = m + 1 := ⟨k - 1, by omega⟩
    rw [porterref22_Rows.l2, if_neg (by rw [List.length_map]; omega)]
  | d + 1, j, l, hj, hl, hs, ht => by
    obtain ⟨c, hc⟩ : ∃ c, out[j]? = some c := ⟨_, List.getElem?_eq_getElem (by omega)⟩
    -- the place is determined: put first, then the rest
    have hex : ∀ n, n ≤ l.length → (∀ b ∈ l.drop n, ltOf rcmp c b = true) → ∃ A B r, InsAt c l r A B := by
      intro n
      induction n with
      | zero => exact fun _ hb => ⟨[], l, c :: l, rfl, rfl, by rw [List.drop_zero] at hb; exact hb, fun a h => by simp at h⟩
      | succ n ih =>
        intro hn hb
        obtain ⟨x, hx⟩ : ∃ x, l[n]? = some x := ⟨_, List.getElem?_eq_getElem (by omega)⟩
        by_cases h : ltOf rcmp c x = true
        · refine ih (by omega) (fun b hm => ?_)
          rw [drop_at hx] at hm
          rcases List.mem_cons.1 hm with e | hm
          · rw [e]; exact h
          · exact hb b hm
        · exact ⟨l.take (n + 1), l.drop (n + 1), _, (List.take_append_drop _ _).symm, rfl, hb, fun a ha => by
            rw [take_at hx, List.getLast?_append, List.getLast?_singleton] at ha
            simp only [Option.some_or, Option.some.injEq] at ha
            rw [← ha]
            cases e : ltOf rcmp c x with
            | false => rfl
            | true => exact absurd e h⟩
    obtain ⟨A, B, r, hi⟩ := hex l.length (Nat.le_refl _) (fun b hb => by rw [List.drop_length] at hb; cases hb)
    have hst : ∀ {r A B}, InsAt c l r A B → Stab.Stab (ltOf rcmp) (out.take (j + 1)) r := fun hi => by
      rw [take_at hc]
      exact (Stab.Stab.append ht (Stab.Stab.refl [c])).trans hi.stab
    obtain ⟨R, M, hM, h1, h2⟩ := rows2 out hol d (j + 1) r (by omega) (by rw [hi.len, hl]) (hi.sorted hs) (hst hi)
    refine ⟨R, M + l.length + 2, fun k hk => ?_, h1, h2⟩
    obtain ⟨k, rfl⟩ : ∃ m, k = m + 1 := ⟨k - 1, by omega⟩
    rw [porterref22_Rows.l2, if_pos (by rw [List.length_map]; omega), List.length_map]
    refine rows3 out j c hc l (by omega) (R.map spR) M (fun A' B' r' hi' k hk => ?_) l.length k (Nat.le_refl _) (by omega) (fun b hb => by rw [List.drop_length] at hb; cases hb)
    have e : r' = r := Stab.uniq rowSwo r' r (hi'.sorted hs) (hi.sorted hs) (hi'.stab.symm.trans hi.stab)
    rw [e, wrap_succ (by omega)]
    exact hM k hk
/-- A change done, whatever the scan has told. -/
theorem rows1 (cs : List Chg) (i : Nat) (hi : i < 4611686018427387904) (c : Chg) (out : List RowT) (hol : out.length + 1 < 2199023255552) (lm : List (Tup × Nat)) (H : Watch.Told out lm) (hn : (lm.map Prod.fst).Nodup) (R : List SpR) (M : Nat)
    (hM : ∀ k, M ≤ k → porterref22_Rows.l0 k (cs.map spD) ((stepR out c).map spR) (wrap64 ((i : Int) + 1)) = some R) : ∀ (d j k : Nat) (cur : Int), j + d = out.length → M + d + 3 ≤ k → scanO c.2.2 (out.drop j) j cur = scanO c.2.2 out 0 (-1) →
    porterref22_Rows.l1 k (cs.map spD) (out.map spR) (i : Int) cur (j : Int) c.1 c.2.1 c.2.2.1 c.2.2.2.1 c.2.2.2.2 = some R
  | 0, j, k + 2, cur, hj, hk, hsc => by
    rw [List.drop_eq_nil_of_le (by omega), scanO] at hsc
    subst hsc
    rw [porterref22_Rows.l1, if_neg (by rw [List.length_map]; omega)]
    by_cases ht : c.2.2 ∈ lm.map Prod.fst
    · obtain ⟨⟨t, m⟩, hm, e⟩ := List.mem_map.1 ht
      simp only at e
      subst e
      obtain ⟨hml, huni⟩ := told_hit H hn hm
      have hs := scan_hit' huni out.length 0 (-1) (by omega) hml
      rw [List.drop_zero, if_pos (Nat.zero_le _)] at hs
      have hst : stepR out c = if c.2.1 then shutAt out m c.1 else out := by
        unfold stepR
        rw [H.hit hn hm]
        cases c.2.1 <;> rfl
      rw [hst] at hM
      rw [hs]
      by_cases hd : c.2.1 = true
      · rw [if_pos hd] at hM
        obtain ⟨r0, e0, e1, e2⟩ := (H c.2.2 m).1 hm
        rw [if_pos hd, porterref22_Rows.j2, if_pos (by rw [decide_eq_true_iff]; omega), if_pos (by omega), if_pos (by rw [List.length_map]; omega), bind_at, if_pos hd, rdR e0, Int.toNat_natCast]
        have h := hM k (by omega)
        rw [shutAt_some e0, List.map_set] at h
        exact h
      · rw [if_neg hd] at hM
        rw [if_neg hd, porterref22_Rows.j2, if_neg (by simp), if_neg hd, if_neg (by omega)]
        exact hM k (by omega)
    · have hs := scan_miss' (t := c.2.2) out 0 (-1) (told_miss H ht)
      have hst : stepR out c = if c.2.1 then out else out ++ [(c.2.2, c.1, 0)] := by
        unfold stepR
        rw [H.miss ht]
        cases c.2.1 <;> rfl
      rw [hst] at hM
      rw [hs]
      by_cases hd : c.2.1 = true
      · rw [if_pos hd] at hM
        rw [if_pos hd, porterref22_Rows.j2, if_neg (by rw [decide_eq_true_iff]; omega), if_pos hd]
        exact hM k (by omega)
      · rw [if_neg hd] at hM
        rw [if_neg hd, porterref22_Rows.j2, if_neg (by simp), if_neg hd, if_pos (by omega), if_pos (by rw [List.length_map]; omega)]
        have h := hM k (by omega)
        rw [List.map_append] at h
        exact h
  | d + 1, j, k + 1, cur, hj, hk, hsc => by
    obtain ⟨x, hx⟩ : ∃ x, out[j]? = some x := ⟨_, List.getElem?_eq_getElem (by omega)⟩
    rw [drop_at hx, scanO] at hsc
    have ih := fun cur' h => rows1 cs i hi c out hol lm H hn R M hM d (j + 1) k cur' (by omega) (by omega) h
    have hb : (((spR x).f0.f0.toList == c.2.2.1.toList && ((spR x).f0.f1.toList == c.2.2.2.1.toList && ((spR x).f0.f2.toList == c.2.2.2.2.toList))) = true) ↔ x.1 = c.2.2 := beqT x.1 c.2.2
    rw [porterref22_Rows.l1, if_pos (by rw [List.length_map]; omega), if_pos (by omega), rdR hx, wrap_succ (by omega)]
    by_cases h1 : x.1 = c.2.2
    · rw [if_pos (hb.2 h1)]
      by_cases h2 : x.2.2 = 0
      · have ho : isOpen c.2.2 x = true := by simp [isOpen, h1, h2]
        rw [if_pos (show (spR x).f2 = 0 from h2)]
        rw [if_pos ho] at hsc
        exact ih _ hsc
      · have ho : ¬ isOpen c.2.2 x = true := by simp [isOpen, h2]
        rw [if_neg (show ¬ (spR x).f2 = 0 from h2)]
        rw [if_neg ho] at hsc
        exact ih _ hsc
    · have ho : ¬ isOpen c.2.2 x = true := by simp [isOpen, h1]
      rw [if_neg (fun h => h1 (hb.1 h))]
      rw [if_neg ho] at hsc
      exact ih _ hsc
theorem rows0 (cs : List Chg) (hcl : cs.length + 1 < 2199023255552) : ∀ (d i : Nat) (out : List RowT) (lm : List (Tup × Nat)), i + d = cs.length → out.length ≤ i → Watch.Told out lm → (lm.map Prod.fst).Nodup →
    ∃ R M, (∀ k, M ≤ k → porterref22_Rows.l0 k (cs.map spD) (out.map spR) (i : Int) = some (R.map spR)) ∧ Stab.Sorted (ltOf rcmp) R ∧ Stab.Stab (ltOf rcmp) ((cs.drop i).foldl stepR out) R
  | 0, i, out, lm, hi, ho, H, hn => by
    obtain ⟨R, M, hM, h1, h2⟩ := rows2 out (by omega) out.length 0 [] (by omega) rfl List.Pairwise.nil (Stab.Stab.refl _)
    rw [List.drop_eq_nil_of_le (by omega)]
    refine ⟨R, M + 1, fun k hk => ?_, h1, h2⟩
    obtain ⟨k, rfl⟩ : ∃ m, k = m + 1 := ⟨k - 1, by omega⟩
    rw [porterref22_Rows.l0, if_neg (by rw [List.length_map]; omega)]
    exact hM k (by omega)
  | d + 1, i, out, lm, hi, ho, H, hn => by
    obtain ⟨c, hc⟩ : ∃ c, cs[i]? = some c := ⟨_, List.getElem?_eq_getElem (by omega)⟩
    have hle := stepR_le out c
    obtain ⟨lm', H', hn'⟩ : ∃ lm', Watch.Told (stepR out c) lm' ∧ (lm'.map Prod.fst).Nodup := by
      obtain ⟨rev, del, t⟩ := c
      by_cases ht : t ∈ lm.map Prod.fst
      · obtain ⟨⟨t', m⟩, hm, rfl⟩ := List.mem_map.1 ht
        have hh := H.hit hn hm
        cases del with
        | true =>
          have es : stepR out (rev, true, t') = shutAt out m rev := by unfold stepR; simp only; rw [hh]
          by_cases h0 : rev = 0
          · rw [es, h0, shut_zero H hm]; exact ⟨lm, H, hn⟩
          · rw [es]; exact ⟨_, H.shut hn hm h0, List.Nodup.sublist (List.Sublist.map _ List.filter_sublist) hn⟩
        | false =>
          have es : stepR out (rev, false, t') = out := by unfold stepR; simp only; rw [hh]
          rw [es]; exact ⟨lm, H, hn⟩
      · have hh := H.miss ht
        cases del with
        | true =>
          have es : stepR out (rev, true, t) = out := by unfold stepR; simp only; rw [hh]
          rw [es]; exact ⟨lm, H, hn⟩
        | false =>
          have es : stepR out (rev, false, t) = out ++ [(t, rev, 0)] := by unfold stepR; simp only; rw [hh]
          rw [es]
          refine ⟨_, H.new ht rev, ?_⟩
          rw [List.map_append, List.nodup_append]
          refine ⟨hn, by simp, fun a ha b hb => ?_⟩
          simp only [List.map_cons, List.map_nil, List.mem_singleton] at hb
          rw [hb]
          rintro rfl
          exact ht ha
    obtain ⟨R, M, hM, h1, h2⟩ := rows0 cs hcl d (i + 1) (stepR out c) lm' (by omega) (by omega) H' hn'
    rw [drop_at hc, List.foldl_cons]
    refine ⟨R, M + out.length + 4, fun k hk => ?_, h1, h2⟩
    obtain ⟨k, rfl⟩ : ∃ m, k = m + 1 := ⟨k - 1, by omega⟩
    rw [porterref22_Rows.l0, if_pos (by rw [List.length_map]; omega), if_pos (by omega), rdD hc]
    exact rows1 cs i (by omega) c out (by omega) lm H hn (R.map spR) M (fun k hk => by rw [wrap_succ (by omega)]; exact hM k hk) out.length 0 k (-1) (by omega) (by omega) rfl
theorem rows_f (cs : List Chg) (hcl : cs.length + 1 < 2199023255552) : ∃ k R, porterref22_Rows.f k (cs.map spD) = some (R.map spR) ∧ Stab.Sorted (ltOf rcmp) R ∧ Stab.Stab (ltOf rcmp) (rowsF cs) R := by
  obtain ⟨R, M, hM, h1, h2⟩ := rows0 cs hcl cs.length 0 [] [] (by omega) (Nat.le_refl _) (fun t i => by simp) (List.nodup_nil)
  exact ⟨M, R, hM M (Nat.le_refl _), h1, h2⟩
end Go.Proofs.Ytobcakjlfdejjaa.PWatchDoesR
end
section
namespace Go.Por
open Go.RowKit Go.Proofs.YtobcakjlfdejjaaW.PrintWords

section
variable {α : Type} {f : α → List Value} {c : Nat}
theorem reps_flat (hf : ∀ x, (f x).length = c) : ∀ {ps : List α} {cs : List Value}, Reps (fun p cs => cs = f p) c ps cs ↔ cs = ps.flatMap f
  | [], cs => by
    constructor
    · intro h
      have := h.1
      simpa using this
    · rintro rfl
      exact Reps.none _ _
  | p :: ps, cs => by
    constructor
    · intro h
      have h0 : cs.take c = f p := by simpa using h.2 0 p rfl
      have hl : cs.length = (ps.length + 1) * c := h.1
      have h1 : cs.drop c = ps.flatMap f := (reps_flat hf).1 ⟨by rw [List.length_drop, hl, Nat.add_mul]; omega, fun j q hq => by
        have := h.2 (j + 1) q hq
        rw [Nat.add_mul, Nat.one_mul, Nat.add_comm, ← List.drop_drop] at this
        exact this⟩
      rw [← List.take_append_drop c cs, h0, h1]
      rfl
    · rintro rfl
      have h1 := (reps_flat hf).2 (rfl : ps.flatMap f = ps.flatMap f)
      refine ⟨by rw [flat_length hf], fun j q hq => ?_⟩
      cases j with
      | zero =>
        simp only [List.getElem?_cons_zero, Option.some.injEq] at hq
        subst hq
        simp only [Nat.zero_mul, List.drop_zero, List.flatMap_cons]
        exact List.take_left' (hf p)
      | succ j =>
        have := h1.2 j q hq
        rw [Nat.add_mul, Nat.one_mul, Nat.add_comm, ← List.drop_drop, List.flatMap_cons, List.drop_left' (hf p)]
        exact this
theorem kd_flat {d : Kd α} {e : Nat} (hsz : d.sz = c) (hM : ∀ w base ok x cs, d.M w base ok x cs ↔ cs = f x) (hf : ∀ x, (f x).length = c) {w : World} {base : Nat} {ok : Nat → Prop} {v : Value} {xs : List α} :
    Kd.R d e w base ok v xs ↔ (∀ k, v.ownBlock = some k → ok k) ∧ w.ownsRow base e c v xs.length (xs.flatMap f) := by
  subst hsz
  constructor
  · rintro ⟨h1, inner, h2, h3⟩
    refine ⟨h1, ?_⟩
    rw [← (reps_flat hf).1 (h3.imp_ (fun p cs h => (hM _ _ _ _ _).1 h))]
    exact h2
  · rintro ⟨h1, h2⟩
    exact ⟨h1, _, h2, ((reps_flat hf).2 rfl).imp_ (fun p cs h => (hM _ _ _ _ _).2 h)⟩
end
end Go.Por
end
section
set_option linter.unusedVariables false
set_option linter.unusedSimpArgs false
namespace Go.Por
open Go.RowKit Go.Proofs.YtobcakjlfdejjaaW.PrintWords

theorem addr_add (b o k : Nat) : (⟨b, o, none⟩ : Addr).add k = ⟨b, o + k, none⟩ := by
  unfold Addr.add
  split
  · rename_i e; rw [e, Nat.add_zero]
  · rfl
section
variable {α β : Type} {f : α → List Value} {c : Nat} {d : Kd β} {g : α → β} {w : World} {A : Option Addr} {n cap : Nat} {l : List α} {v : Value} {e base : Nat} {ok : Nat → Prop}
theorem C_of_read (hsz : d.sz = c) (hK : ∀ w x, d.K w (g x) (f x)) (hl : ∀ x, (f x).length = c) (h : ReadS f c w (.slice A n cap) l) : Kd.C d w A (l.map g).length (l.map g) := by
  obtain ⟨ao, cap', h1, h2, h3⟩ := h
  simp only [Value.slice.injEq] at h1
  obtain ⟨rfl, rfl, rfl⟩ := h1
  subst hsz
  refine ⟨rfl, by rw [List.length_map]; exact h2, fun hp => ?_⟩
  rw [List.length_map] at hp
  obtain ⟨b, o, cs, rfl, _, _, _⟩ := h3 0 l[0] (List.getElem?_eq_getElem hp)
  refine ⟨_, rfl, fun j p hj => ?_⟩
  rw [List.getElem?_map] at hj
  cases hx : l[j]? with
  | none => rw [hx] at hj; cases hj
  | some x =>
    rw [hx] at hj
    simp only [Option.map_some, Option.some.injEq] at hj
    subst hj
    obtain ⟨b', o', cs, e, hlc, hcell, rfl⟩ := h3 j x hx
    simp only [Option.some.injEq, Addr.mk.injEq, and_true] at e
    obtain ⟨rfl, rfl⟩ := e
    refine ⟨f x, hl x, hK w x, fun i u hu => ?_⟩
    rw [addr_add, ← Nat.add_assoc]
    exact hcell i u hu
theorem own_of_R {f' : β → List Value} (hsz : d.sz = c) (hM : ∀ w base ok x cs, d.M w base ok x cs ↔ cs = f' x) (hl : ∀ x, (f' x).length = c) (hg : ∀ x, f' (g x) = f x) (h : Kd.R d e w base ok v (l.map g)) : OwnS f c w e v l ∧ ∀ k, v.ownBlock = some k → base ≤ k := by
  have h1 := ((kd_flat hsz hM hl).1 h).2
  refine ⟨?_, fun k hk => own_base h1 k hk⟩
  unfold OwnS
  have e1 : (l.map g).flatMap f' = l.flatMap f := by
    rw [List.flatMap_map]
    congr 1
    funext x
    exact hg x
  rw [e1, List.length_map] at h1
  exact own_weaken h1 (Nat.zero_le _)
end
end Go.Por
end
section
set_option linter.unusedVariables false
set_option linter.unusedSimpArgs false
namespace Go.Proofs.Ytobcakjlfdejjaa.Watch
open Go.RowKit Go.Por Go.ChangeShapes Go.WideShapes

theorem cellsI64 : Try.prog.cellsOf 2 = 1 := by kernel_rfl
theorem cellsBool : Try.prog.cellsOf 4 = 1 := by kernel_rfl
theorem cellsStr : Try.prog.cellsOf 9 = 1 := by kernel_rfl
theorem cellsTup : Try.prog.cellsOf 37 = 3 := by kernel_rfl
theorem cellsMut : Try.prog.cellsOf 41 = 4 := by kernel_rfl
theorem cellsChg : Try.prog.cellsOf 43 = 5 := by kernel_rfl
section
variable {H : Type} {enc : TypeId × Value → H} {w : World} {spare : Nat → Bool} {held : Bool}
set_option maxRecDepth 10000 in
theorem open_tup (fuel : Nat) (cs : List Value) (y : DataW H × List MemPlace) (h : DataW.trod enc Try.prog w 0 spare held fuel 37 cs = some y) : ∃ x, cs = tupC x := by
  obtain ⟨xs, n, _, _, hlen, hxl, hf⟩ := DataW.trod_struct Try.underlying37 h
  rw [cellsTup] at hlen
  have g0 := hf 0 _ rfl
  have g1 := hf 1 _ rfl
  have g2 := hf 2 _ rfl
  have hxl' : xs.length = 3 := hxl
  clear hxl hf h
  match cs, hlen, xs, hxl' with
  | [v0, v1, v2], _, [y0, y1, y2], _ =>
    simp [cellsStr] at g0 g1 g2
    obtain ⟨a, ha, _⟩ := DataW.trod_string Try.underlying9 g0
    obtain ⟨b, hb, _⟩ := DataW.trod_string Try.underlying9 g1
    obtain ⟨s, hs, _⟩ := DataW.trod_string Try.underlying9 g2
    simp at ha hb hs
    subst ha hb hs
    exact ⟨(a, b, s), rfl⟩
set_option maxRecDepth 10000 in
theorem open_mutC (fuel : Nat) (cs : List Value) (y : DataW H × List MemPlace) (h : DataW.trod enc Try.prog w 0 spare held fuel 41 cs = some y) : ∃ x, cs = mutC x := by
  obtain ⟨xs, n, _, _, hlen, hxl, hf⟩ := DataW.trod_struct Try.underlying41 h
  rw [cellsMut] at hlen
  have g0 := hf 0 _ rfl
  have g1 := hf 1 _ rfl
  have hxl' : xs.length = 2 := hxl
  clear hxl hf h
  match cs, hlen, xs, hxl' with
  | [v0, v1, v2, v3], _, [y0, y1], _ =>
    simp [cellsTup, cellsBool] at g0 g1
    obtain ⟨c, hc, _⟩ := DataW.trod_bool Try.underlying4 g0
    obtain ⟨⟨a, b, s⟩, ha⟩ := open_tup _ _ _ g1
    simp [tupC] at ha hc
    obtain ⟨rfl, rfl, rfl⟩ := ha
    subst hc
    exact ⟨(c, a, b, s), rfl⟩
set_option maxRecDepth 10000 in
theorem open_chgC (fuel : Nat) (cs : List Value) (y : DataW H × List MemPlace) (h : DataW.trod enc Try.prog w 0 spare held fuel 43 cs = some y) : ∃ x, cs = chgC x := by
  obtain ⟨xs, n, _, _, hlen, hxl, hf⟩ := DataW.trod_struct Try.underlying43 h
  rw [cellsChg] at hlen
  have g0 := hf 0 _ rfl
  have g1 := hf 1 _ rfl
  have hxl' : xs.length = 2 := hxl
  clear hxl hf h
  match cs, hlen, xs, hxl' with
  | [v0, v1, v2, v3, v4], _, [y0, y1], _ =>
    simp [cellsMut, cellsI64] at g0 g1
    obtain ⟨c, hc, _⟩ := DataW.trod_int Try.underlying2 g0
    obtain ⟨⟨d, a, b, s⟩, ha⟩ := open_mutC _ _ _ g1
    simp [mutC] at ha hc
    obtain ⟨rfl, rfl, rfl, rfl⟩ := ha
    subst hc
    exact ⟨(c, d, a, b, s), rfl⟩
theorem open_tups {fuel : Nat} {cs : List Value} {y : DataW H × List MemPlace} (h : DataW.trod enc Try.prog w 0 spare held fuel 30 cs = some y) : ∃ v xs, cs = [v] ∧ SliceIs 3 (fun _ cs x => cs = tupC x) w v xs :=
  open_SliceIs Try.underlying30 cellsTup (by omega) open_tup h
theorem open_chgs {fuel : Nat} {cs : List Value} {y : DataW H × List MemPlace} (h : DataW.trod enc Try.prog w 0 spare held fuel 25 cs = some y) : ∃ v xs, cs = [v] ∧ SliceIs 5 (fun _ cs x => cs = chgC x) w v xs :=
  open_SliceIs Try.underlying25 cellsChg (by omega) open_chgC h
end
end Go.Proofs.Ytobcakjlfdejjaa.Watch
end
section
set_option linter.unusedVariables false
set_option linter.unusedSimpArgs false
namespace Go.Proofs.Ytobcakjlfdejjaa.Watch
open Go.RowKit Go.Por Go.ChangeShapes Go.WideShapes

theorem bulk_one {H : Type} (d : DataW H) : 1 ≤ Rows.uptoBulk d := by
  cases d with
  | lit l => cases l <;> simp [Rows.uptoBulk]
  | nil => simp [Rows.uptoBulk]
  | ptr d => simp [Rows.uptoBulk]
  | slice elems spare => simp [Rows.uptoBulk]
  | agg parts => simp [Rows.uptoBulk]
  | iface t d => simp [Rows.uptoBulk]
  | map entries => simp [Rows.uptoBulk]
  | held h => simp [Rows.uptoBulk]
theorem bulk_part {H : Type} {d : DataW H} {l : List (DataW H)} (h : d ∈ l) : Rows.uptoBulk d ≤ Rows.uptoBulkAll l := by
  induction l with
  | nil => cases h
  | cons x r ih =>
    simp only [Rows.uptoBulkAll]
    rcases List.mem_cons.1 h with e | e
    · subst e; omega
    · have := ih e; omega
theorem bulk_len {H : Type} (l : List (DataW H)) : l.length ≤ Rows.uptoBulkAll l := by
  induction l with
  | nil => simp [Rows.uptoBulkAll]
  | cons x r ih => have := bulk_one x; simp only [Rows.uptoBulkAll, List.length_cons]; omega
theorem bulk_slice {H : Type} (elems spare : List (DataW H)) : elems.length ≤ Rows.uptoBulk (.slice elems spare) := by
  have h1 := bulk_len elems
  simp only [Rows.uptoBulk]
  omega
/-- A slice's length is within its capacity. -/
def CapOk (v : Value) : Prop := ∀ ao n cap, v = .slice ao n cap → n ≤ cap
section
variable {H : Type} {enc : TypeId × Value → H} {w : World} {spare : Nat → Bool} {held : Bool}
theorem slice_bulk {α : Type} {c : Nat} {f : α → List Value} {t e : TypeId} (hu : Try.prog.underlying t = some (.slice e)) {ds : List (DataW H)} (hk : Rows.uptoSmall H ds = true) {v : Value} {d : DataW H} {p : List MemPlace} {ms : List α} (hd : d ∈ ds)
    (h : DataW.Trod enc Try.prog w 0 spare held t v d p) (hs : SliceIs c (fun _ cs x => cs = f x) w v ms) : ms.length ≤ 1048576 ∧ CapOk v := by
  obtain ⟨ao, cap, rfl, _, _⟩ := hs
  obtain ⟨fuel, hf⟩ := h
  have hb : Rows.uptoBulkAll ds ≤ 1048576 := of_decide_eq_true hk
  have hp := bulk_part hd
  rcases Go.Deep.open_slice hu (show DataW.trod enc Try.prog w 0 spare held fuel t [.slice ao ms.length cap] = some (d, p) from hf) with ⟨h, _⟩ | ⟨a, len, cap', m, n', D, Pl, h, _, _, _, _, hx, _⟩
  · simp at h
    obtain ⟨h1, h0, h2⟩ := h
    have h3 : ms.length = 0 := by rw [h0]; rfl
    exact ⟨by omega, fun a b c e => by simp only [Value.slice.injEq] at e; omega⟩
  · rename_i hlc _ _ _
    simp at h
    have hdd := (Prod.mk.inj hx).1
    rw [hdd] at hp
    have := bulk_slice ((List.range len).map D) ((List.range (m - len)).map fun j => D (len + j))
    rw [List.length_map, List.length_range] at this
    refine ⟨by omega, fun a' b' c' e => ?_⟩
    simp only [Value.slice.injEq] at e
    omega
theorem tups_bulk {ds : List (DataW H)} (hk : Rows.uptoSmall H ds = true) {v : Value} {d : DataW H} {p : List MemPlace} {ms : List Tup} (hd : d ∈ ds)
    (h : DataW.Trod enc Try.prog w 0 spare held 30 v d p) (hs : SliceIs 3 (fun _ cs x => cs = tupC x) w v ms) : ms.length ≤ 1048576 ∧ CapOk v := slice_bulk Try.underlying30 hk hd h hs
theorem chgs_bulk {ds : List (DataW H)} (hk : Rows.uptoSmall H ds = true) {v : Value} {d : DataW H} {p : List MemPlace} {ms : List Chg} (hd : d ∈ ds)
    (h : DataW.Trod enc Try.prog w 0 spare held 25 v d p) (hs : SliceIs 5 (fun _ cs x => cs = chgC x) w v ms) : ms.length ≤ 1048576 ∧ CapOk v := slice_bulk Try.underlying25 hk hd h hs
end
end Go.Proofs.Ytobcakjlfdejjaa.Watch
end
