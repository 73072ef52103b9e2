/- The law WatchDoes of the watch, where what came in is of bulk at most 1048576: raw changes done to raw tuples, the rows : part 35 of 38: what it leans on. -/
import Derived.Test.YtobcakjlfdejjaaDoA
import Derived.Test.YtobcakjlfdejjaaDoB
import Derived.Test.YtobcakjlfdejjaaDoC
import Derived.Test.YtobcakjlfdejjaaDoD
import Derived.Test.YtobcakjlfdejjaaDoE
import Derived.Test.YtobcakjlfdejjaaDoF
import Derived.Test.YtobcakjlfdejjaaDoG
import Derived.Test.YtobcakjlfdejjaaDoH
import Derived.Test.YtobcakjlfdejjaaDoI
import Derived.Test.YtobcakjlfdejjaaDoJ
import Derived.Test.YtobcakjlfdejjaaDoK
import Derived.Test.YtobcakjlfdejjaaDoL
import Derived.Test.YtobcakjlfdejjaaDoM
import Derived.Test.YtobcakjlfdejjaaDoN
import Derived.Test.YtobcakjlfdejjaaDoO
import Derived.Test.YtobcakjlfdejjaaDoP
import Derived.Test.YtobcakjlfdejjaaDoQ
import Derived.Test.YtobcakjlfdejjaaDoR
import Derived.Test.YtobcakjlfdejjaaDoS
import Derived.Test.YtobcakjlfdejjaaDoT
import Derived.Test.YtobcakjlfdejjaaDoU
import Derived.Test.YtobcakjlfdejjaaDoV
import Derived.Test.YtobcakjlfdejjaaDoW
import Derived.Test.YtobcakjlfdejjaaDoX
import Derived.Test.YtobcakjlfdejjaaDoY
import Derived.Test.YtobcakjlfdejjaaDoZ
import Derived.Test.YtobcakjlfdejjaaDoAA
import Derived.Test.YtobcakjlfdejjaaDoAB
import Derived.Test.YtobcakjlfdejjaaDoAC
import Derived.Test.YtobcakjlfdejjaaDoAD
import Derived.Test.YtobcakjlfdejjaaDoAE
import Derived.Test.YtobcakjlfdejjaaDoAF
import Derived.Test.YtobcakjlfdejjaaDoAG
import Derived.Test.YtobcakjlfdejjaaDoAH
section
set_option linter.unusedVariables false
set_option linter.unusedSimpArgs false
namespace Go.Proofs.Ytobcakjlfdejjaa.PWatchDoesR
open Go.RowKit Go.Por Go.Sort Go.Proofs.Ytobcakjlfdejjaa.Watch Go.Proofs.YtobcakjlfdejjaaW.PrintWords Go.Proofs.Ytobcakjlfdejjaa.PWatchDoes

/-! The tuples behind changes. -/
def refStep (out : List Tup) (c : Chg) : List Tup := if c.2.1 then kdel out c.2.2 else insT c.2.2 out
theorem refStep_rising {out : List Tup} (h : out.Pairwise tlt) (c : Chg) : (refStep out c).Pairwise tlt := by
  unfold refStep
  split
  · exact List.Pairwise.filter _ h
  · exact insT_rising _ h
theorem refStep_len (out : List Tup) (c : Chg) : (refStep out c).length ≤ out.length + 1 := by
  unfold refStep
  split
  · exact Nat.le_trans (List.length_filter_le _ _) (Nat.le_succ _)
  · exact insT_len _ _
theorem mem_kput (ks : List Tup) (t x : Tup) : x ∈ kput ks t ↔ x = t ∨ x ∈ ks := by
  unfold kput kputG
  split
  · rename_i h
    constructor
    · exact .inr
    · rintro (e | e)
      · rw [e]; exact h
      · exact e
  · rw [List.mem_append, List.mem_singleton]
    exact Or.comm
theorem mem_kdel (ks : List Tup) (t x : Tup) : x ∈ kdel ks t ↔ x ∈ ks ∧ x ≠ t := by
  unfold kdel
  rw [List.mem_filter, decide_eq_true_iff]
theorem mem_step {out ks : List Tup} (h : ∀ x, x ∈ out ↔ x ∈ ks) (c : Chg) (x : Tup) : x ∈ refStep out c ↔ x ∈ kstep ks c := by
  unfold refStep kstep
  split
  · rw [mem_kdel, mem_kdel, mem_kput, h x]
    constructor
    · exact fun ⟨a, b⟩ => ⟨.inr a, b⟩
    · exact fun ⟨a, b⟩ => ⟨a.resolve_left b, b⟩
  · rw [mem_insT, mem_kput, h x]
theorem mem_steps : ∀ (cs : List Chg) {out ks : List Tup} (h : ∀ x, x ∈ out ↔ x ∈ ks) (x : Tup), x ∈ cs.foldl refStep out ↔ x ∈ cs.foldl kstep ks
  | [], _, _, h, x => h x
  | c :: cs, _, _, h, x => mem_steps cs (mem_step h c) x
theorem steps_rising : ∀ (cs : List Chg) {out : List Tup}, out.Pairwise tlt → (cs.foldl refStep out).Pairwise tlt
  | [], _, h => h
  | c :: cs, _, h => steps_rising cs (refStep_rising h c)
theorem kput_nd {ks : List Tup} (h : ks.Nodup) (t : Tup) : (kput ks t).Nodup := by
  unfold kput kputG
  split
  · exact h
  · rename_i hn
    exact List.nodup_append.2 ⟨h, List.nodup_cons.2 ⟨by simp, List.nodup_nil⟩, fun a ha b hb e => hn (by rw [List.mem_singleton.1 hb] at e; rw [← e]; exact ha)⟩
theorem kstep_nd {ks : List Tup} (h : ks.Nodup) (c : Chg) : (kstep ks c).Nodup := by
  unfold kstep
  split
  · exact List.Nodup.sublist List.filter_sublist (kput_nd h _)
  · exact kput_nd h _
theorem kputs_nd : ∀ (ts : List Tup) {ks : List Tup}, ks.Nodup → (ts.foldl kput ks).Nodup
  | [], _, h => h
  | t :: ts, _, h => kputs_nd ts (kput_nd h t)
theorem ksteps_nd : ∀ (cs : List Chg) {ks : List Tup}, ks.Nodup → (cs.foldl kstep ks).Nodup
  | [], _, h => h
  | c :: cs, _, h => ksteps_nd cs (kstep_nd h c)
theorem mem_kputs (x : Tup) : ∀ (ts ks : List Tup), x ∈ ts.foldl kput ks ↔ x ∈ ts ∨ x ∈ ks
  | [], ks => by simp
  | t :: ts, ks => by
    rw [List.foldl_cons, mem_kputs x ts, mem_kput, List.mem_cons]
    constructor
    · rintro (h | h | h)
      · exact .inl (.inr h)
      · exact .inl (.inl h)
      · exact .inr h
    · rintro ((h | h) | h)
      · exact .inr (.inl h)
      · exact .inl h
      · exact .inr (.inr h)
theorem sort_rising {l : List Tup} (h : l.Nodup) : (l.mergeSort tle).Pairwise tlt := by
  have h1 := List.pairwise_mergeSort (le := tle) (fun a b c h k => tle_trans h k) tle_total l
  have h2 : (l.mergeSort tle).Nodup := (List.mergeSort_perm l tle).nodup_iff.2 h
  exact List.Pairwise.imp₂ (R := fun x y => tle x y = true) (S := fun x y => x ≠ y) (T := tlt) (fun x y a b => tle_ne.1 ⟨a, b⟩) h1 h2
theorem playL_rise (ts : List Tup) (cs : List Chg) : (playL ts cs).Pairwise tlt := sort_rising (ksteps_nd cs (kputs_nd ts List.nodup_nil))
theorem play_eq (ts : List Tup) (cs : List Chg) : cs.foldl refStep (insAll [] ts) = playL ts cs :=
  tlt_uniq (steps_rising cs (insAll_rising ts List.Pairwise.nil)) (playL_rise ts cs) (fun x => by
    unfold playL playK
    rw [List.mem_mergeSort]
    exact mem_steps cs (fun x => by rw [mem_insAll, mem_kputs]) x)

theorem bneT (x : Tup) (c : Chg) : ((!((spT x).f0.toList == (spD c).f2.f0.toList) || (!((spT x).f1.toList == (spD c).f2.f1.toList) || (!((spT x).f2.toList == (spD c).f2.f2.toList)))) = true) ↔ x ≠ c.2.2 := by
  obtain ⟨x0, x1, x2⟩ := x
  obtain ⟨_, _, y0, y1, y2⟩ := c
  simp only [spD, spT, bytes_beq, ne_eq, Prod.mk.injEq]
  by_cases h0 : x0 = y0 <;> by_cases h1 : x1 = y1 <;> by_cases h2 : x2 = y2 <;> simp_all
theorem play2 (cs : List Chg) (j : Nat) (c : Chg) (hc : cs[j]? = some c) (out : List Tup) (hb : out.length < 2932031007402) (r : List SpT) (M : Nat)
    (hM : ∀ k, M ≤ k → porterref22_Play.l1 k (cs.map spD) ((kdel out c.2.2).map spT) (wrap64 ((j : Int) + 1)) = some r) : ∀ (d i k : Nat), i + d = out.length → M + d + 1 ≤ k →
    porterref22_Play.l2 k (cs.map spD) (out.map spT) (j : Int) ((kdel (out.take i) c.2.2).map spT) (i : Int) = some r
  | 0, i, k + 1, hi, hk => by
    rw [porterref22_Play.l2, if_neg (by rw [List.length_map]; omega), List.take_of_length_le (by omega)]
    exact hM k (by omega)
  | d + 1, i, k + 1, hi, hk => by
    obtain ⟨x, hx⟩ : ∃ x, out[i]? = some x := ⟨_, List.getElem?_eq_getElem (by omega)⟩
    have hj : j < cs.length := (List.getElem?_eq_some_iff.1 hc).1
    have ih := play2 cs j c hc out hb r M hM d (i + 1) k (by omega) (by omega)
    have hle : ((kdel (out.take i) c.2.2).map spT).length ≤ out.length := by
      rw [List.length_map]
      exact Nat.le_trans (List.length_filter_le _ _) (by rw [List.length_take]; omega)
    have hkd : kdel (out.take (i + 1)) c.2.2 = kdel (out.take i) c.2.2 ++ (if x ≠ c.2.2 then [x] else []) := by
      unfold kdel
      rw [take_at hx, List.filter_append]
      congr 1
      by_cases h : x = c.2.2 <;> simp [h]
    rw [hkd] at ih
    rw [porterref22_Play.l2, if_pos (by rw [List.length_map]; omega), if_pos (by omega), if_pos (by omega), if_pos (by rw [List.length_map]; omega), rdT hx, rdD hc]
    by_cases hxc : x = c.2.2
    · rw [if_neg (fun h => (bneT x c).1 h hxc), wrap_succ (by omega)]
      rw [if_neg (fun h => h hxc), List.append_nil] at ih
      exact ih
    · rw [if_pos ((bneT x c).2 hxc), if_pos (by omega), wrap_succ (by omega)]
      rw [if_pos hxc, List.map_append] at ih
      exact ih
theorem play1 (cs : List Chg) (hcl : cs.length < 4611686018427387904) : ∀ (d j : Nat) (out : List Tup), j + d = cs.length → out.Pairwise tlt → out.length + d + 1 < 2932031007402 →
    ∃ M, ∀ k, M ≤ k → porterref22_Play.l1 k (cs.map spD) (out.map spT) (j : Int) = some (((cs.drop j).foldl refStep out).map spT)
  | 0, j, out, hj, hr, hb => ⟨1, fun k hk => by
    obtain ⟨k, rfl⟩ : ∃ m, k = m + 1 := ⟨k - 1, by omega⟩
    rw [porterref22_Play.l1, if_neg (by rw [List.length_map]; omega), List.drop_eq_nil_of_le (by omega)]
    rfl⟩
  | d + 1, j, out, hj, hr, hb => by
    obtain ⟨c, hc⟩ : ∃ c, cs[j]? = some c := ⟨_, List.getElem?_eq_getElem (by omega)⟩
    have hlen := refStep_len out c
    obtain ⟨M, hM⟩ := play1 cs hcl d (j + 1) (refStep out c) (by omega) (refStep_rising hr c) (by omega)
    rw [drop_at hc, List.foldl_cons]
    refine ⟨M + out.length + 3, fun k hk => ?_⟩
    obtain ⟨k, rfl⟩ : ∃ m, k = m + 1 := ⟨k - 1, by omega⟩
    rw [porterref22_Play.l1, if_pos (by rw [List.length_map]; omega), if_pos (by omega), rdD hc]
    by_cases hd : c.2.1 = true
    · have he : refStep out c = kdel out c.2.2 := if_pos hd
      rw [if_pos (show (spD c).f1 = true from hd)]
      rw [he] at hM ⊢
      have h := play2 cs j c hc out (by omega) _ M (fun k hk => by rw [wrap_succ (by omega)]; exact hM k hk) out.length 0 k (by omega) (by omega)
      exact h
    · have he : refStep out c = insT c.2.2 out := if_neg hd
      rw [if_neg (show ¬ (spD c).f1 = true from hd)]
      rw [he] at hM ⊢
      have hw := with_f out c.2.2 hr (by omega) (k := k) (by omega)
      show ((porterref05_With.f k (out.map spT) c.2.2.1 c.2.2.2.1 c.2.2.2.2).bind _) = _
      rw [hw, bind_at, wrap_succ (by omega)]
      exact hM k (by omega)
theorem play0 (ts : List Tup) (cs : List Chg) (hcl : cs.length < 4611686018427387904) (htl : ts.length < 4611686018427387904) : ∀ (d i : Nat) (out : List Tup), i + d = ts.length → out.Pairwise tlt → out.length + d + cs.length + 1 < 2932031007402 →
    ∃ M, ∀ k, M ≤ k → porterref22_Play.l0 k (ts.map spT) (cs.map spD) (out.map spT) (i : Int) = some ((cs.foldl refStep (insAll out (ts.drop i))).map spT)
  | 0, i, out, hi, hr, hb => by
    obtain ⟨M, hM⟩ := play1 cs hcl cs.length 0 out (by omega) hr (by omega)
    refine ⟨M + 1, fun k hk => ?_⟩
    obtain ⟨k, rfl⟩ : ∃ m, k = m + 1 := ⟨k - 1, by omega⟩
    rw [porterref22_Play.l0, if_neg (by rw [List.length_map]; omega), List.drop_eq_nil_of_le (by omega)]
    exact hM k (by omega)
  | d + 1, i, out, hi, hr, hb => by
    obtain ⟨x, hx⟩ : ∃ x, ts[i]? = some x := ⟨_, List.getElem?_eq_getElem (by omega)⟩
    have hlen := insT_len x out
    obtain ⟨M, hM⟩ := play0 ts cs hcl htl d (i + 1) (insT x out) (by omega) (insT_rising x hr) (by omega)
    refine ⟨M + out.length + 2, fun k hk => ?_⟩
    obtain ⟨k, rfl⟩ : ∃ m, k = m + 1 := ⟨k - 1, by omega⟩
    have hw := with_f out x hr (by omega) (k := k) (by omega)
    rw [porterref22_Play.l0, if_pos (by rw [List.length_map]; omega), if_pos (by omega), rdT hx, drop_at hx]
    show ((porterref05_With.f k (out.map spT) x.1 x.2.1 x.2.2).bind _) = _
    rw [hw, bind_at, wrap_succ (by omega)]
    exact hM k (by omega)
theorem play_f (ts : List Tup) (cs : List Chg) (hb : ts.length + cs.length + 1 < 2932031007402) : ∃ k, porterref22_Play.f k (ts.map spT) (cs.map spD) = some ((playL ts cs).map spT) := by
  obtain ⟨M, hM⟩ := play0 ts cs (by omega) (by omega) ts.length 0 [] (by omega) List.Pairwise.nil (by rw [List.length_nil]; omega)
  refine ⟨M, ?_⟩
  rw [← play_eq]
  exact hM M (Nat.le_refl _)

/-! What leads from tuples to others. -/
theorem in_l (l : List Tup) (t : Tup) (hl : l.length < 4611686018427387904) : ∀ (d i k : Nat), i + d = l.length → d < k → porterref22_in.l0 k (l.map spT) (i : Int) t.1 t.2.1 t.2.2 = some (tin t (l.drop i))
  | 0, i, k + 1, hi, _ => by
    rw [porterref22_in.l0, if_neg (by rw [List.length_map]; omega), List.drop_eq_nil_of_le (by omega)]
    rfl
  | d + 1, i, k + 1, hi, hk => by
    obtain ⟨x, hx⟩ : ∃ x, l[i]? = some x := ⟨_, List.getElem?_eq_getElem (by omega)⟩
    rw [porterref22_in.l0, if_pos (by rw [List.length_map]; omega), if_pos (by omega), rdT hx, drop_at hx]
    have e : tin t (x :: l.drop (i + 1)) = (decide (t = x) || tin t (l.drop (i + 1))) := rfl
    rw [e]
    by_cases hxt : x = t
    · rw [if_pos ((beqT x t).2 hxt), decide_eq_true hxt.symm]
      rfl
    · rw [if_neg (fun h => hxt ((beqT x t).1 h)), wrap_succ (by omega), decide_eq_false (fun h => hxt h.symm), Bool.false_or]
      exact in_l l t hl d (i + 1) k (by omega) (by omega)
theorem in_f (l : List Tup) (t : Tup) (hl : l.length < 4611686018427387904) {k : Nat} (hk : l.length < k) : porterref22_in.f k (l.map spT) t.1 t.2.1 t.2.2 = some (tin t l) := in_l l t hl l.length 0 k (by omega) hk
def refNet (a b all : List Tup) : List Mut := (all.filter (fun x => tin x a != tin x b)).map (fun x => (tin x a, x))
theorem refNet_succ (a b all : List Tup) (i : Nat) (x : Tup) (h : all[i]? = some x) : refNet a b (all.take (i + 1)) = refNet a b (all.take i) ++ (if tin x a != tin x b then [(tin x a, x)] else []) := by
  unfold refNet
  rw [take_at h, List.filter_append, List.map_append]
  congr 1
  by_cases h : (tin x a != tin x b) = true
  · rw [List.filter_cons_of_pos (by exact h), if_pos h]; rfl
  · rw [List.filter_cons_of_neg (by exact h), if_neg h]; rfl
theorem net2 (a b all : List Tup) (ha : a.length < 4611686018427387904) (hb : b.length < 4611686018427387904) (hl : all.length < 2513169434916) : ∀ (d i k : Nat), i + d = all.length → a.length + b.length + d + 1 < k →
    porterref22_Net.l2 k (a.map spT) (b.map spT) (all.map spT) ((refNet a b (all.take i)).map spM) (i : Int) = some ((refNet a b all).map spM)
  | 0, i, k + 1, hi, _ => by
    rw [porterref22_Net.l2, if_neg (by rw [List.length_map]; omega), List.take_of_length_le (by omega)]
  | d + 1, i, k + 1, hi, hk => by
    obtain ⟨x, hx⟩ : ∃ x, all[i]? = some x := ⟨_, List.getElem?_eq_getElem (by omega)⟩
    have ih := net2 a b all ha hb hl d (i + 1) k (by omega) (by omega)
    rw [refNet_succ a b all i x hx] at ih
    have hle : ((refNet a b (all.take i)).map spM).length ≤ all.length := by
      rw [List.length_map]
      unfold refNet
      rw [List.length_map]
      exact Nat.le_trans (List.length_filter_le _ _) (by rw [List.length_take]; omega)
    have h1 := in_f a x ha (k := k) (by omega)
    have h2 := in_f b x hb (k := k) (by omega)
    rw [porterref22_Net.l2, if_pos (by rw [List.length_map]; omega), if_pos (by omega), rdT hx]
    show ((porterref22_in.f k (a.map spT) x.1 x.2.1 x.2.2).bind _) = _
    rw [h1, bind_at]
    show ((porterref22_in.f k (b.map spT) x.1 x.2.1 x.2.2).bind _) = _
    rw [h2, bind_at]
    by_cases hn : (tin x a != tin x b) = true
    · rw [if_pos hn]
      show ((porterref22_in.f k (a.map spT) x.1 x.2.1 x.2.2).bind _) = _
      rw [h1, bind_at, if_pos (by omega), wrap_succ (by omega)]
      rw [if_pos hn, List.map_append] at ih
      exact ih
    · rw [if_neg hn, wrap_succ (by omega)]
      rw [if_neg hn, List.append_nil] at ih
      exact ih
theorem net1 (a b : List Tup) (ha : a.length < 4611686018427387904) (hb : b.length < 4611686018427387904) : ∀ (d i : Nat) (out : List Tup), i + d = b.length → out.Pairwise tlt → out.length + d + 1 < 2513169434916 →
    ∃ M, ∀ k, M ≤ k → porterref22_Net.l1 k (a.map spT) (b.map spT) (out.map spT) (i : Int) = some ((refNet a b (insAll out (b.drop i))).map spM)
  | 0, i, out, hi, hr, hl => by
    refine ⟨a.length + b.length + out.length + 3, fun k hk => ?_⟩
    obtain ⟨k, rfl⟩ : ∃ m, k = m + 1 := ⟨k - 1, by omega⟩
    rw [porterref22_Net.l1, if_neg (by rw [List.length_map]; omega), List.drop_eq_nil_of_le (by omega)]
    exact net2 a b out ha hb (by omega) out.length 0 k (by omega) (by omega)
  | d + 1, i, out, hi, hr, hl => by
    obtain ⟨x, hx⟩ : ∃ x, b[i]? = some x := ⟨_, List.getElem?_eq_getElem (by omega)⟩
    have hlen := insT_len x out
    obtain ⟨M, hM⟩ := net1 a b ha hb d (i + 1) (insT x out) (by omega) (insT_rising x hr) (by omega)
    refine ⟨M + out.length + 2, fun k hk => ?_⟩
    obtain ⟨k, rfl⟩ : ∃ m, k = m + 1 := ⟨k - 1, by omega⟩
    have hw := with_f out x hr (by omega) (k := k) (by omega)
    rw [porterref22_Net.l1, if_pos (by rw [List.length_map]; omega), if_pos (by omega), rdT hx, drop_at hx]
    show ((porterref05_With.f k (out.map spT) x.1 x.2.1 x.2.2).bind _) = _
    rw [hw, bind_at, wrap_succ (by omega)]
    exact hM k (by omega)
theorem net0 (a b : List Tup) (ha : a.length < 4611686018427387904) (hb : b.length < 4611686018427387904) : ∀ (d i : Nat) (out : List Tup), i + d = a.length → out.Pairwise tlt → out.length + d + b.length + 1 < 2513169434916 →
    ∃ M, ∀ k, M ≤ k → porterref22_Net.l0 k (a.map spT) (b.map spT) (out.map spT) (i : Int) = some ((refNet a b (insAll (insAll out (a.drop i)) b)).map spM)
  | 0, i, out, hi, hr, hl => by
    obtain ⟨M, hM⟩ := net1 a b ha hb b.length 0 out (by omega) hr (by omega)
    refine ⟨M + 1, fun k hk => ?_⟩
    obtain ⟨k, rfl⟩ : ∃ m, k = m + 1 := ⟨k - 1, by omega⟩
    rw [porterref22_Net.l0, if_neg (by rw [List.length_map]; omega), List.drop_eq_nil_of_le (by omega)]
    exact hM k (by omega)
  | d + 1, i, out, hi, hr, hl => by
    obtain ⟨x, hx⟩ : ∃ x, a[i]? = some x := ⟨_, List.getElem?_eq_getElem (by omega)⟩
    have hlen := insT_len x out
    obtain ⟨M, hM⟩ := net0 a b ha hb d (i + 1) (insT x out) (by omega) (insT_rising x hr) (by omega)
    refine ⟨M + out.length + 2, fun k hk => ?_⟩
    obtain ⟨k, rfl⟩ : ∃ m, k = m + 1 := ⟨k - 1, by omega⟩
    have hw := with_f out x hr (by omega) (k := k) (by omega)
    rw [porterref22_Net.l0, if_pos (by rw [List.length_map]; omega), if_pos (by omega), rdT hx, drop_at hx]
    show ((porterref05_With.f k (out.map spT) x.1 x.2.1 x.2.2).bind _) = _
    rw [hw, bind_at, wrap_succ (by omega)]
    exact hM k (by omega)
theorem lt_uniq {α : Type} {R : α → α → Prop} (irr : ∀ x, ¬ R x x) (trans : ∀ {x y z}, R x y → R y z → R x z) : ∀ {a b : List α}, a.Pairwise R → b.Pairwise R → (∀ x, x ∈ a ↔ x ∈ b) → a = b
  | [], [], _, _, _ => rfl
  | [], y :: b, _, _, h => absurd ((h y).2 List.mem_cons_self) (by simp)
  | x :: a, [], _, _, h => absurd ((h x).1 List.mem_cons_self) (by simp)
  | x :: a, y :: b, ha, hb, h => by
    obtain ⟨a1, a2⟩ := List.pairwise_cons.1 ha
    obtain ⟨b1, b2⟩ := List.pairwise_cons.1 hb
    have e : x = y := by
      rcases List.mem_cons.1 ((h x).1 List.mem_cons_self) with e | k1
      · exact e
      · rcases List.mem_cons.1 ((h y).2 List.mem_cons_self) with e | k2
        · exact e.symm
        · exact absurd (trans (b1 x k1) (a1 y k2)) (irr y)
    subst e
    rw [lt_uniq irr trans a2 b2 (fun z => ?_)]
    constructor
    · intro hz
      rcases List.mem_cons.1 ((h z).1 (List.mem_cons_of_mem _ hz)) with e | k
      · rw [e] at hz; exact absurd (a1 x hz) (irr x)
      · exact k
    · intro hz
      rcases List.mem_cons.1 ((h z).2 (List.mem_cons_of_mem _ hz)) with e | k
      · rw [e] at hz; exact absurd (b1 x hz) (irr x)
      · exact k
/-- Of a list in order, in which what stands level is the same, the compact one. -/
theorem compactP_rise {α : Type} [DecidableEq α] {lt : α → α → Bool} (hsw : SWO lt) : ∀ (l : List α) (p : Option α), l.Pairwise (fun x y => lt y x = false) → (∀ q, p = some q → ∀ x ∈ l, lt x q = false) → (∀ x ∈ l, ∀ y ∈ l, lt x y = false → lt y x = false → x = y) → (∀ q, p = some q → ∀ x ∈ l, lt x q = false → lt q x = false → x = q) →
    (compactP p l).Pairwise (fun x y => lt x y = true) ∧ (∀ x ∈ compactP p l, x ∈ l ∧ ∀ q, p = some q → x ≠ q) ∧ (∀ x ∈ l, x ∈ compactP p l ∨ p = some x)
  | [], p, _, _, _, _ => by simp [compactP]
  | y :: l, p, hs, hp, hu, hq => by
    obtain ⟨h1, h2⟩ := List.pairwise_cons.1 hs
    obtain ⟨i1, i2, i3⟩ := compactP_rise hsw l (some y) h2 (fun q e x hx => by cases e; exact h1 x hx) (fun x hx z hz => hu x (List.mem_cons_of_mem _ hx) z (List.mem_cons_of_mem _ hz)) (fun q e x hx a b => by cases e; exact hu x (List.mem_cons_of_mem _ hx) y List.mem_cons_self a b)
    have hlt : ∀ x ∈ compactP (some y) l, lt y x = true := fun x hx => by
      obtain ⟨hm, hne⟩ := i2 x hx
      cases e : lt y x with
      | true => rfl
      | false => exact absurd (hu x (List.mem_cons_of_mem _ hm) y List.mem_cons_self (h1 x hm) e) (hne y rfl)
    rw [compactP]
    by_cases hy : p = some y
    · rw [if_pos hy, List.nil_append]
      refine ⟨i1, fun x hx => ⟨List.mem_cons_of_mem _ (i2 x hx).1, fun q e => ?_⟩, fun x hx => ?_⟩
      · rw [hy] at e; cases e; exact (i2 x hx).2 y rfl
      · rcases List.mem_cons.1 hx with e | hx
        · rw [e]; exact .inr hy
        · rcases i3 x hx with k | k
          · exact .inl k
          · exact .inr (hy.trans k)
    · rw [if_neg hy]
      refine ⟨List.pairwise_append.2 ⟨List.pairwise_singleton _ _, i1, fun a ha b hb => by rw [List.mem_singleton.1 ha]; exact hlt b hb⟩, fun x hx => ?_, fun x hx => ?_⟩
      · rcases List.mem_append.1 hx with hx | hx
        · rw [List.mem_singleton.1 hx]
          exact ⟨List.mem_cons_self, fun q e k => hy (by rw [e, k])⟩
        · refine ⟨List.mem_cons_of_mem _ (i2 x hx).1, fun q e k => ?_⟩
          have a1 := hlt x hx
          rw [k] at a1
          have a2 := hp q e y List.mem_cons_self
          rw [a2] at a1
          cases a1
      · rcases List.mem_cons.1 hx with e | hx
        · rw [e]; exact .inl (List.mem_append.2 (.inl List.mem_cons_self))
        · rcases i3 x hx with k | k
          · exact .inl (List.mem_append.2 (.inr k))
          · cases k; exact .inl (List.mem_append.2 (.inl List.mem_cons_self))
theorem mem_netU (a b : List Tup) (m : Mut) : m ∈ netU a b ↔ (m.2 ∈ a ∧ m.2 ∉ b ∧ m.1 = true) ∨ (m.2 ∈ b ∧ m.2 ∉ a ∧ m.1 = false) := by
  obtain ⟨d, x⟩ := m
  have h : ∀ d' l m', (d, x) ∈ outOf d' l m' ↔ x ∈ l ∧ x ∉ m' ∧ d = d' := fun d' l m' => by
    unfold outOf
    rw [List.mem_map]
    constructor
    · rintro ⟨y, hy, e⟩
      obtain ⟨h1, h2⟩ := List.mem_filter.1 hy
      cases e
      refine ⟨h1, fun h3 => ?_, rfl⟩
      rw [tin_iff.2 h3] at h2
      cases h2
    · rintro ⟨h1, h2, rfl⟩
      refine ⟨x, List.mem_filter.2 ⟨h1, ?_⟩, rfl⟩
      cases e : tin x m' with
      | false => rfl
      | true => exact absurd (tin_iff.1 e) h2
  unfold netU
  rw [List.mem_append, h, h]
theorem tin_no {x : Tup} {l : List Tup} (h : x ∉ l) : tin x l = false := by
  cases e : tin x l with
  | false => rfl
  | true => exact absurd (tin_iff.1 e) h
theorem mem_refNet (a b all : List Tup) (hall : ∀ x, x ∈ all ↔ x ∈ a ∨ x ∈ b) (m : Mut) : m ∈ refNet a b all ↔ (m.2 ∈ a ∧ m.2 ∉ b ∧ m.1 = true) ∨ (m.2 ∈ b ∧ m.2 ∉ a ∧ m.1 = false) := by
  obtain ⟨d, x⟩ := m
  unfold refNet
  rw [List.mem_map]
  constructor
  · rintro ⟨y, hy, e⟩
    obtain ⟨h1, h2⟩ := List.mem_filter.1 hy
    obtain ⟨rfl, rfl⟩ := Prod.mk.inj e
    by_cases ha : y ∈ a
    · by_cases hb : y ∈ b
      · rw [tin_iff.2 ha, tin_iff.2 hb] at h2
        cases h2
      · exact .inl ⟨ha, hb, tin_iff.2 ha⟩
    · by_cases hb : y ∈ b
      · exact .inr ⟨hb, ha, tin_no ha⟩
      · exact absurd ((hall y).1 h1) (fun h => h.elim ha hb)
  · rintro (⟨h1, h2, h3⟩ | ⟨h1, h2, h3⟩)
    · exact ⟨x, List.mem_filter.2 ⟨(hall x).2 (.inl h1), by rw [tin_iff.2 h1, tin_no h2]; rfl⟩, Prod.ext ((tin_iff.2 h1).trans h3.symm) rfl⟩
    · exact ⟨x, List.mem_filter.2 ⟨(hall x).2 (.inr h1), by rw [tin_iff.2 h1, tin_no h2]; rfl⟩, Prod.ext ((tin_no h2).trans h3.symm) rfl⟩
theorem mlt_iff (x y : Mut) : ltOf mcmp x y = true ↔ tlt x.2 y.2 := by
  have := tupLt x.2 y.2
  unfold ltOf at *
  exact this
theorem net_eq {a b : List Tup} {l' : List Mut} (hp : l'.Perm (netU a b)) (hs : Stab.Sorted (ltOf mcmp) l') : compactL l' = refNet a b (insAll (insAll [] a) b) := by
  have hm : ∀ m, m ∈ l' ↔ (m.2 ∈ a ∧ m.2 ∉ b ∧ m.1 = true) ∨ (m.2 ∈ b ∧ m.2 ∉ a ∧ m.1 = false) := fun m => by rw [hp.mem_iff, mem_netU]
  have hall : ∀ x, x ∈ insAll (insAll [] a) b ↔ x ∈ a ∨ x ∈ b := fun x => by
    rw [mem_insAll, mem_insAll]
    simp [or_comm]
  obtain ⟨c1, c2, c3⟩ := compactP_rise mutSwo l' none hs (fun q e => by cases e) (fun x hx y hy h1 h2 => by
    have e2 : x.2 = y.2 := by
      rcases tlt_total x.2 y.2 with k | k | k
      · rw [(mlt_iff x y).2 k] at h1; cases h1
      · exact k
      · rw [(mlt_iff y x).2 k] at h2; cases h2
    have e1 : x.1 = y.1 := by
      rcases (hm x).1 hx with ⟨a1, a2, a3⟩ | ⟨a1, a2, a3⟩ <;> rcases (hm y).1 hy with ⟨b1, b2, b3⟩ | ⟨b1, b2, b3⟩
      · rw [a3, b3]
      · exact absurd (by rw [← e2]; exact a1) b2
      · exact absurd (by rw [← e2]; exact a1) b2
      · rw [a3, b3]
    exact Prod.ext e1 e2) (fun q e => by cases e)
  have hr : (refNet a b (insAll (insAll [] a) b)).Pairwise (fun x y => ltOf mcmp x y = true) := by
    unfold refNet
    rw [List.pairwise_map]
    refine List.Pairwise.imp (R := tlt) (fun h => (mlt_iff _ _).2 h) ?_
    exact List.Pairwise.filter _ (insAll_rising b (insAll_rising a List.Pairwise.nil))
  refine lt_uniq (R := fun x y => ltOf mcmp x y = true) (fun x h => by rw [mutSwo.irrefl x] at h; cases h) (fun {x y z} h k => mutSwo.trans x y z h k) c1 hr (fun m => ?_)
  rw [mem_refNet a b _ hall, ← hm]
  constructor
  · exact fun h => (c2 m h).1
  · exact fun h => (c3 m h).resolve_right (fun e => by cases e)
theorem net_f (a b : List Tup) (hb : a.length + b.length + 1 < 2513169434916) {l' : List Mut} (hp : l'.Perm (netU a b)) (hs : Stab.Sorted (ltOf mcmp) l') : ∃ k, porterref22_Net.f k (a.map spT) (b.map spT) = some ((compactL l').map spM) := by
  obtain ⟨M, hM⟩ := net0 a b (by omega) (by omega) a.length 0 [] (by omega) List.Pairwise.nil (by rw [List.length_nil]; omega)
  refine ⟨M, ?_⟩
  rw [net_eq hp hs]
  exact hM M (Nat.le_refl _)
end Go.Proofs.Ytobcakjlfdejjaa.PWatchDoesR
end
