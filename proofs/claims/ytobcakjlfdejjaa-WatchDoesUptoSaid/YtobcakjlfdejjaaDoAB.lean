/- The law WatchDoes of the watch, where what came in is of bulk at most 1048576: raw changes done to raw tuples, the rows : part 28 of 38: what it leans on. -/
import Derived.Sort.Walk0
import Derived.Test.YtobcakjlfdejjaaDoA
import Derived.Test.YtobcakjlfdejjaaDoB
import Derived.Test.YtobcakjlfdejjaaDoC
import Derived.Test.YtobcakjlfdejjaaDoD
import Derived.Test.YtobcakjlfdejjaaDoE
import Derived.Test.YtobcakjlfdejjaaDoF
import Derived.Test.YtobcakjlfdejjaaDoG
import Derived.Test.YtobcakjlfdejjaaDoH
import Derived.Test.YtobcakjlfdejjaaDoI
import Derived.Test.YtobcakjlfdejjaaDoJ
import Derived.Test.YtobcakjlfdejjaaDoK
import Derived.Test.YtobcakjlfdejjaaDoL
import Derived.Test.YtobcakjlfdejjaaDoM
import Derived.Test.YtobcakjlfdejjaaDoN
import Derived.Test.YtobcakjlfdejjaaDoO
import Derived.Test.YtobcakjlfdejjaaDoP
import Derived.Test.YtobcakjlfdejjaaDoQ
import Derived.Test.YtobcakjlfdejjaaDoR
import Derived.Test.YtobcakjlfdejjaaDoS
import Derived.Test.YtobcakjlfdejjaaDoT
import Derived.Test.YtobcakjlfdejjaaDoU
import Derived.Test.YtobcakjlfdejjaaDoV
import Derived.Test.YtobcakjlfdejjaaDoW
import Derived.Test.YtobcakjlfdejjaaDoX
import Derived.Test.YtobcakjlfdejjaaDoY
import Derived.Test.YtobcakjlfdejjaaDoZ
import Derived.Test.YtobcakjlfdejjaaDoAA
section
set_option linter.unusedVariables false
set_option linter.unusedSimpArgs false
namespace Go.Proofs.Ytobcakjlfdejjaa.PWatchDoesR
open Go.RowKit Go.Por Go.Sort Go.Proofs.Ytobcakjlfdejjaa.Watch Go.Proofs.YtobcakjlfdejjaaW.PrintWords Go.Proofs.Ytobcakjlfdejjaa.PWatchDoes

theorem bind_at {α β : Type} (a : α) (g : α → Option β) : (some a).bind g = g a := by
  cases h : g a with
  | none => exact h
  | some b => exact h
theorem wrap_small {i : Int} (h0 : -4611686018427387904 ≤ i) (h : i ≤ 4611686018427387904) : wrap64 i = i := by unfold wrap64; omega
theorem wrap_succ {i : Nat} (h : i < 4611686018427387904) : wrap64 ((i : Int) + 1) = ((i + 1 : Nat) : Int) := by rw [wrap_small (by omega) (by omega)]; omega
abbrev SpT := S37
def spT (x : Tup) : SpT := ⟨x.1, x.2.1, x.2.2⟩
theorem rdT {l : List Tup} {t : Nat} {x : Tup} (hx : l[t]? = some x) : rd_T37 (l.map spT) (t : Int) = spT x := by
  unfold rd_T37
  rw [Int.toNat_natCast, List.getD_eq_getElem?_getD, List.getElem?_map, hx]
  rfl
theorem drop_at {α : Type} {l : List α} {t : Nat} {x : α} (hx : l[t]? = some x) : l.drop t = x :: l.drop (t + 1) := by
  obtain ⟨h, e⟩ := List.getElem?_eq_some_iff.1 hx
  rw [List.drop_eq_getElem_cons h, e]
theorem take_at {α : Type} {l : List α} {t : Nat} {x : α} (hx : l[t]? = some x) : l.take (t + 1) = l.take t ++ [x] := by
  rw [List.take_add_one, hx]
  rfl
theorem list_iff {a b : ByteArray} : a.toList = b.toList ↔ a = b := ⟨toList_inj, fun h => by rw [h]⟩
theorem bless (a b : ByteArray) : Op.bytesLess a.toList b.toList = true ↔ blt a b := by
  rw [bytesLess_eq, ByteArray.toList_eq, ByteArray.toList_eq, decide_eq_true_iff]
  exact Iff.rfl
theorem less_f (x y : Tup) : porterref05_Less.f x.1 x.2.1 x.2.2 y.1 y.2.1 y.2.2 = some (ltOf tcmp x y) := by
  unfold porterref05_Less.f
  by_cases h0 : x.1 = y.1
  · rw [if_pos (list_iff.2 h0)]
    by_cases h1 : x.2.1 = y.2.1
    · rw [if_pos (list_iff.2 h1)]
      refine congrArg some ?_
      rw [Bool.eq_iff_iff, bless, tupLt]
      unfold tlt
      simp [h0, h1, blt_irrefl]
    · rw [if_neg (fun e => h1 (list_iff.1 e))]
      refine congrArg some ?_
      rw [Bool.eq_iff_iff, bless, tupLt]
      unfold tlt
      simp [h0, h1, blt_irrefl]
  · rw [if_neg (fun e => h0 (list_iff.1 e))]
    refine congrArg some ?_
    rw [Bool.eq_iff_iff, bless, tupLt]
    unfold tlt
    simp [h0]
theorem beqT (x t : Tup) : (((spT x).f0.toList == t.1.toList && ((spT x).f1.toList == t.2.1.toList && ((spT x).f2.toList == t.2.2.toList))) = true) ↔ x = t := by
  obtain ⟨x0, x1, x2⟩ := x
  obtain ⟨t0, t1, t2⟩ := t
  simp only [spT, bytes_beq, Bool.and_eq_true, decide_eq_true_iff, Prod.mk.injEq]
theorem with_done (l : List Tup) (t : Tup) : ∀ (d i k : Nat) (out : List Tup), i + d = l.length → d < k → (∀ x ∈ l.drop i, x ≠ t) → out.length + d < 2932031007402 → l.length < 4611686018427387904 →
    porterref05_With.l0 k (l.map spT) (out.map spT) true (i : Int) t.1 t.2.1 t.2.2 = some ((out ++ l.drop i).map spT)
  | 0, i, k + 1, out, hi, _, _, _, _ => by
    rw [porterref05_With.l0, if_neg (by rw [List.length_map]; omega), if_pos rfl, List.drop_eq_nil_of_le (by omega), List.append_nil]
  | d + 1, i, k + 1, out, hi, hk, hne, hb, hl => by
    obtain ⟨x, hx⟩ : ∃ x, l[i]? = some x := ⟨_, List.getElem?_eq_getElem (by omega)⟩
    have hd := drop_at hx
    rw [hd] at hne ⊢
    have hxt := hne x List.mem_cons_self
    have ih := with_done l t d (i + 1) k (out ++ [x]) (by omega) (by omega) (fun z hz => hne z (List.mem_cons_of_mem _ hz)) (by rw [List.length_append, List.length_singleton]; omega) hl
    rw [porterref05_With.l0, if_pos (by rw [List.length_map]; omega), if_pos (by omega), rdT hx, if_neg (fun h => hxt ((beqT x t).1 h)), if_pos rfl, if_pos (by rw [List.length_map]; omega), wrap_succ (by omega)]
    rw [List.map_append] at ih
    refine Eq.trans ih ?_
    rw [List.append_assoc, List.singleton_append]
theorem with_und (l : List Tup) (t : Tup) (hr : l.Pairwise tlt) (hl : l.length + 1 < 2932031007402) : ∀ (d i k : Nat), i + d = l.length → d < k →
    porterref05_With.l0 k (l.map spT) ((l.take i).map spT) false (i : Int) t.1 t.2.1 t.2.2 = some ((l.take i ++ insT t (l.drop i)).map spT)
  | 0, i, k + 1, hi, _ => by
    have hlen : ((l.take i).map spT).length ≤ l.length := by rw [List.length_map, List.length_take]; omega
    rw [porterref05_With.l0, if_neg (by rw [List.length_map]; omega), if_neg (by simp), if_pos (by omega), List.drop_eq_nil_of_le (by omega), insT, List.map_append]
    rfl
  | d + 1, i, k + 1, hi, hk => by
    obtain ⟨x, hx⟩ : ∃ x, l[i]? = some x := ⟨_, List.getElem?_eq_getElem (by omega)⟩
    have hd := drop_at hx
    have ht := take_at hx
    have hlen : ((l.take i).map spT).length ≤ l.length := by rw [List.length_map, List.length_take]; omega
    have hrd : (l.drop i).Pairwise tlt := List.Pairwise.sublist (List.drop_sublist i l) hr
    rw [hd] at hrd ⊢
    have hr1 := (List.pairwise_cons.1 hrd).1
    rw [porterref05_With.l0, if_pos (by rw [List.length_map]; omega), if_pos (by omega), rdT hx, insT]
    by_cases hxt : x = t
    · rw [if_pos ((beqT x t).2 hxt), if_pos hxt, ← hd, List.take_append_drop]
    · have hle := less_f t x
      rw [if_neg (fun h => hxt ((beqT x t).1 h)), if_neg hxt, if_neg (by simp)]
      show ((porterref05_Less.f t.1 t.2.1 t.2.2 x.1 x.2.1 x.2.2).bind _) = _
      rw [hle, bind_at]
      by_cases hlt : ltOf tcmp t x = true
      · rw [if_pos hlt, if_pos hlt, if_pos (by omega), bind_at, if_pos (by rw [List.length_append, List.length_singleton]; omega), wrap_succ (by omega)]
        have htx := (tupLt t x).1 hlt
        have h := with_done l t d (i + 1) k (l.take i ++ [t] ++ [x]) (by omega) (by omega) (fun z hz e => by
          rw [e] at hz
          exact tlt_irrefl t (tlt_trans htx (hr1 t hz))) (by simp only [List.length_append, List.length_singleton, List.length_take]; omega) (by omega)
        rw [List.map_append, List.map_append] at h
        refine Eq.trans h ?_
        rw [List.append_assoc, List.append_assoc]
        rfl
      · rw [if_neg hlt, if_neg hlt, if_pos (by omega), wrap_succ (by omega)]
        have ih := with_und l t hr hl d (i + 1) k (by omega) (by omega)
        rw [ht, List.map_append] at ih
        refine Eq.trans ih ?_
        rw [List.append_assoc]
        rfl
theorem with_f (l : List Tup) (t : Tup) (hr : l.Pairwise tlt) (hl : l.length + 1 < 2932031007402) {k : Nat} (hk : l.length < k) : porterref05_With.f k (l.map spT) t.1 t.2.1 t.2.2 = some ((insT t l).map spT) := by
  have h := with_und l t hr hl l.length 0 k (by omega) hk
  rw [List.take_zero, List.drop_zero, List.nil_append, List.map_nil] at h
  exact h
end Go.Proofs.Ytobcakjlfdejjaa.PWatchDoesR
end
