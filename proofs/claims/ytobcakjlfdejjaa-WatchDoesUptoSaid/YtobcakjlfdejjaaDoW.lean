/- The law WatchDoes of the watch, where what came in is of bulk at most 1048576: raw changes done to raw tuples, the rows : part 23 of 38: what it leans on. -/
import Derived.Test.YtobcakjlfdejjaaDoA
import Derived.Test.YtobcakjlfdejjaaDoB
import Derived.Test.YtobcakjlfdejjaaDoC
import Derived.Test.YtobcakjlfdejjaaDoD
import Derived.Test.YtobcakjlfdejjaaDoE
import Derived.Test.YtobcakjlfdejjaaDoF
import Derived.Test.YtobcakjlfdejjaaDoG
import Derived.Test.YtobcakjlfdejjaaDoH
import Derived.Test.YtobcakjlfdejjaaDoI
import Derived.Test.YtobcakjlfdejjaaDoJ
import Derived.Test.YtobcakjlfdejjaaDoK
import Derived.Test.YtobcakjlfdejjaaDoL
import Derived.Test.YtobcakjlfdejjaaDoM
import Derived.Test.YtobcakjlfdejjaaDoN
import Derived.Test.YtobcakjlfdejjaaDoO
import Derived.Test.YtobcakjlfdejjaaDoP
import Derived.Test.YtobcakjlfdejjaaDoQ
import Derived.Test.YtobcakjlfdejjaaDoR
import Derived.Test.YtobcakjlfdejjaaDoS
import Derived.Test.YtobcakjlfdejjaaDoT
import Derived.Test.YtobcakjlfdejjaaDoU
import Derived.Test.YtobcakjlfdejjaaDoV
section
set_option linter.unusedVariables false
set_option linter.unusedSimpArgs false
namespace Go.Proofs.Ytobcakjlfdejjaa.Watch
open Go.RowKit Go.Por Go.Sort

/-- Tuples in order, with one more. -/
def insT (t : Tup) : List Tup → List Tup
  | [] => [t]
  | y :: l => if y = t then y :: l else if ltOf tcmp t y = true then t :: y :: l else y :: insT t l
theorem mem_insT (t x : Tup) : ∀ l : List Tup, x ∈ insT t l ↔ x = t ∨ x ∈ l
  | [] => by simp [insT]
  | y :: l => by
    rw [insT]
    split
    · rename_i h
      rw [List.mem_cons, h]
      constructor
      · rintro (h | h)
        · exact .inl h
        · exact .inr (.inr h)
      · rintro (h | h | h)
        · exact .inl h
        · exact .inl h
        · exact .inr h
    · split
      · rw [List.mem_cons]
      · rw [List.mem_cons, mem_insT t x l, List.mem_cons]
        constructor
        · rintro (h | h | h)
          · exact .inr (.inl h)
          · exact .inl h
          · exact .inr (.inr h)
        · rintro (h | h | h)
          · exact .inr (.inl h)
          · exact .inl h
          · exact .inr (.inr h)
theorem tle_ne {x y : Tup} : (tle x y = true ∧ x ≠ y) ↔ tlt x y := by
  rw [tle_iff]
  constructor
  · rintro ⟨h, k⟩
    rcases tlt_total x y with h1 | h1 | h1
    · exact h1
    · exact absurd h1 k
    · exact absurd h1 h
  · intro h
    exact ⟨fun k => tlt_irrefl x (tlt_trans h k), fun e => by rw [e] at h; exact tlt_irrefl y h⟩
theorem insT_rising (t : Tup) : ∀ {l : List Tup}, l.Pairwise tlt → (insT t l).Pairwise tlt
  | [], _ => List.pairwise_singleton _ _
  | y :: l, h => by
    obtain ⟨h1, h2⟩ := List.pairwise_cons.1 h
    rw [insT]
    split
    · exact h
    · rename_i hne
      split
      · rename_i hlt
        rw [tupLt] at hlt
        refine List.pairwise_cons.2 ⟨fun z hz => ?_, h⟩
        rcases List.mem_cons.1 hz with e | hz
        · rw [e]; exact hlt
        · exact tlt_trans hlt (h1 z hz)
      · rename_i hlt
        rw [tupLt] at hlt
        refine List.pairwise_cons.2 ⟨fun z hz => ?_, insT_rising t h2⟩
        rcases (mem_insT t z l).1 hz with e | hz
        · rw [e]
          rcases tlt_total y t with k | k | k
          · exact k
          · exact absurd k hne
          · exact absurd k hlt
        · exact h1 z hz
theorem insT_len (t : Tup) : ∀ l : List Tup, (insT t l).length ≤ l.length + 1
  | [] => by simp [insT]
  | y :: l => by
    rw [insT]
    have := insT_len t l
    split
    · simp
    · split
      · simp
      · simp only [List.length_cons]; omega
theorem tlt_uniq : ∀ {a b : List Tup}, a.Pairwise tlt → b.Pairwise tlt → (∀ x, x ∈ a ↔ x ∈ b) → a = b
  | [], [], _, _, _ => rfl
  | [], y :: b, _, _, h => absurd ((h y).2 List.mem_cons_self) (by simp)
  | x :: a, [], _, _, h => absurd ((h x).1 List.mem_cons_self) (by simp)
  | x :: a, y :: b, ha, hb, h => by
    obtain ⟨a1, a2⟩ := List.pairwise_cons.1 ha
    obtain ⟨b1, b2⟩ := List.pairwise_cons.1 hb
    have e : x = y := by
      rcases List.mem_cons.1 ((h x).1 List.mem_cons_self) with e | k1
      · exact e
      · rcases List.mem_cons.1 ((h y).2 List.mem_cons_self) with e | k2
        · exact e.symm
        · exact absurd (tlt_trans (b1 x k1) (a1 y k2)) (tlt_irrefl y)
    subst e
    rw [tlt_uniq a2 b2 (fun z => ?_)]
    constructor
    · intro hz
      rcases List.mem_cons.1 ((h z).1 (List.mem_cons_of_mem _ hz)) with e | k
      · rw [e] at hz; exact absurd (a1 x hz) (tlt_irrefl x)
      · exact k
    · intro hz
      rcases List.mem_cons.1 ((h z).2 (List.mem_cons_of_mem _ hz)) with e | k
      · rw [e] at hz; exact absurd (b1 x hz) (tlt_irrefl x)
      · exact k
def insAll (l : List Tup) (ts : List Tup) : List Tup := ts.foldl (fun l t => insT t l) l
theorem insAll_rising : ∀ (ts : List Tup) {l : List Tup}, l.Pairwise tlt → (insAll l ts).Pairwise tlt
  | [], _, h => h
  | t :: ts, _, h => insAll_rising ts (insT_rising t h)
theorem mem_insAll (x : Tup) : ∀ (ts l : List Tup), x ∈ insAll l ts ↔ x ∈ ts ∨ x ∈ l
  | [], l => by simp [insAll]
  | t :: ts, l => by
    have e : insAll l (t :: ts) = insAll (insT t l) ts := rfl
    rw [e, mem_insAll x ts, mem_insT, List.mem_cons]
    constructor
    · rintro (h | h | h)
      · exact .inl (.inr h)
      · exact .inl (.inl h)
      · exact .inr h
    · rintro ((h | h) | h)
      · exact .inr (.inl h)
      · exact .inl h
      · exact .inr (.inr h)

/-- A change is put behind all that don't stand behind it. -/
structure PutAt (c : Chg) (l r : List Chg) (A B : List Chg) : Prop where
  l_eq : l = A ++ B
  r_eq : r = A ++ c :: B
  behind : ∀ b ∈ B, ltOf ccmp c b = true
  ahead : ∀ a, A.getLast? = some a → ltOf ccmp c a = false
theorem PutAt.sorted {c : Chg} {l r A B : List Chg} (h : PutAt c l r A B) (hs : Stab.Sorted (ltOf ccmp) l) : Stab.Sorted (ltOf ccmp) r := by
  rw [h.l_eq] at hs
  rw [h.r_eq]
  refine Stab.Sorted.append hs.left (List.pairwise_cons.2 ⟨fun b hb => Stab.SWO.asymm' chgSwo (h.behind b hb), hs.right⟩) (fun a ha b hb => ?_)
  rcases List.mem_cons.1 hb with e | hb
  · rw [e]
    rcases List.eq_nil_or_concat A with k | ⟨A', z, k⟩
    · rw [k] at ha; cases ha
    · have hz := h.ahead z (by rw [k]; simp)
      have hs1 := hs.left
      rw [k] at ha hs1
      rw [List.concat_eq_append] at ha hs1
      rcases List.mem_append.1 ha with ha | ha
      · exact chgSwo.ntrans _ _ _ hz (Stab.Sorted.cross hs1 a ha z (by simp))
      · rw [List.mem_singleton.1 ha]; exact hz
  · exact hs.cross a ha b hb
theorem PutAt.len {c : Chg} {l r A B : List Chg} (h : PutAt c l r A B) : r.length = l.length + 1 := by
  rw [h.l_eq, h.r_eq]
  simp only [List.length_append, List.length_cons]
  omega
end Go.Proofs.Ytobcakjlfdejjaa.Watch
end
