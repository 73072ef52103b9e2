/- StoreBoth, where what came in is of bulk at most 1048576: who has a relation, what a user has, and Has say the same: part 4 of 14: what it leans on. -/
import Derived.Test.YtojjnfhgldjgbaaGreatDoorBoA
import Derived.Test.YtojjnfhgldjgbaaGreatDoorBoB
import Derived.Test.YtojjnfhgldjgbaaGreatDoorBoC
section
set_option linter.unusedVariables false
set_option linter.unusedSimpArgs false
namespace Go.Proofs.YtojjnfhgldjgbaaGreatDoor.Watch
open Go.RowKit Go.Por Go.Sort

theorem cb_cases : ∀ (a b : List UInt8), (Lib.compareBytes a b = -1 ∧ a < b) ∨ (Lib.compareBytes a b = 0 ∧ a = b) ∨ (Lib.compareBytes a b = 1 ∧ b < a)
  | [], [] => .inr (.inl ⟨rfl, rfl⟩)
  | [], y :: b => .inl ⟨rfl, List.nil_lt_cons y b⟩
  | x :: a, [] => .inr (.inr ⟨rfl, List.nil_lt_cons x a⟩)
  | x :: a, y :: b => by
    unfold Lib.compareBytes
    by_cases h1 : x < y
    · exact .inl ⟨if_pos h1, List.cons_lt_cons_iff.2 (.inl h1)⟩
    · by_cases h2 : y < x
      · exact .inr (.inr ⟨by rw [if_neg h1, if_pos h2], List.cons_lt_cons_iff.2 (.inl h2)⟩)
      · have h3 : x = y := UInt8.le_antisymm (UInt8.not_lt.1 h2) (UInt8.not_lt.1 h1)
        subst h3
        rw [if_neg h1, if_neg h2]
        rcases cb_cases a b with ⟨e, h⟩ | ⟨e, h⟩ | ⟨e, h⟩
        · exact .inl ⟨e, List.cons_lt_cons_iff.2 (.inr ⟨rfl, h⟩)⟩
        · exact .inr (.inl ⟨e, by rw [h]⟩)
        · exact .inr (.inr ⟨e, List.cons_lt_cons_iff.2 (.inr ⟨rfl, h⟩)⟩)
theorem bytes_ext {a b : ByteArray} (h : a.data.toList = b.data.toList) : a = b := by
  cases a; cases b
  congr
  exact Array.toList_inj.1 h
/-- A text stands ahead of another. -/
def blt (a b : ByteArray) : Prop := a.data.toList < b.data.toList
theorem cmpB_cases (a b : ByteArray) : (cmpB a b = -1 ∧ blt a b) ∨ (cmpB a b = 0 ∧ a = b) ∨ (cmpB a b = 1 ∧ blt b a) := by
  rcases cb_cases a.data.toList b.data.toList with h | ⟨e, h⟩ | h
  · exact .inl h
  · exact .inr (.inl ⟨e, bytes_ext h⟩)
  · exact .inr (.inr h)
theorem blt_irrefl (a : ByteArray) : ¬ blt a a := List.lt_irrefl _
theorem blt_trans {a b c : ByteArray} (h : blt a b) (k : blt b c) : blt a c := List.lt_trans h k
theorem blt_asymm {a b : ByteArray} (h : blt a b) (k : blt b a) : False := blt_irrefl a (blt_trans h k)
theorem blt_total (a b : ByteArray) : blt a b ∨ a = b ∨ blt b a := by
  rcases cmpB_cases a b with ⟨_, h⟩ | ⟨_, h⟩ | ⟨_, h⟩
  · exact .inl h
  · exact .inr (.inl h)
  · exact .inr (.inr h)
theorem cmpB_neg {a b : ByteArray} : cmpB a b < 0 ↔ blt a b := by
  rcases cmpB_cases a b with ⟨e, h⟩ | ⟨e, h⟩ | ⟨e, h⟩
  · rw [e]; simp [h]
  · rw [e, h]; simp [blt_irrefl]
  · rw [e]; simp; exact fun k => blt_asymm h k
theorem cmpB_zero {a b : ByteArray} : cmpB a b = 0 ↔ a = b := by
  rcases cmpB_cases a b with ⟨e, h⟩ | ⟨e, h⟩ | ⟨e, h⟩
  · rw [e]; simp; rintro rfl; exact blt_irrefl _ h
  · rw [e]; simp [h]
  · rw [e]; simp; rintro rfl; exact blt_irrefl _ h

/-- A tuple stands ahead of another. -/
def tlt (x y : Tup) : Prop := blt x.1 y.1 ∨ x.1 = y.1 ∧ (blt x.2.1 y.2.1 ∨ x.2.1 = y.2.1 ∧ blt x.2.2 y.2.2)
theorem tcmp_neg {x y : Tup} : tcmp x y < 0 ↔ tlt x y := by
  unfold tcmp tlt
  by_cases h0 : x.1 = y.1
  · rw [if_neg (by simp [cmpB_zero.2 h0])]
    by_cases h1 : x.2.1 = y.2.1
    · rw [if_neg (by simp [cmpB_zero.2 h1]), cmpB_neg]
      simp [h0, h1, blt_irrefl]
    · rw [if_pos (fun e => h1 (cmpB_zero.1 e)), cmpB_neg]
      simp [h0, h1, blt_irrefl]
  · rw [if_pos (fun e => h0 (cmpB_zero.1 e)), cmpB_neg]
    simp [h0]
theorem tcmp_zero {x y : Tup} : tcmp x y = 0 ↔ x = y := by
  unfold tcmp
  by_cases h0 : x.1 = y.1
  · rw [if_neg (by simp [cmpB_zero.2 h0])]
    by_cases h1 : x.2.1 = y.2.1
    · rw [if_neg (by simp [cmpB_zero.2 h1]), cmpB_zero]
      exact ⟨fun h => Prod.ext h0 (Prod.ext h1 h), fun h => by rw [h]⟩
    · rw [if_pos (fun e => h1 (cmpB_zero.1 e)), cmpB_zero]
      exact ⟨fun h => absurd h h1, fun h => by rw [h]⟩
  · rw [if_pos (fun e => h0 (cmpB_zero.1 e)), cmpB_zero]
    exact ⟨fun h => absurd h h0, fun h => by rw [h]⟩
theorem tlt_irrefl (x : Tup) : ¬ tlt x x := by
  rintro (h | ⟨_, h | ⟨_, h⟩⟩) <;> exact blt_irrefl _ h
theorem tlt_trans {x y z : Tup} (h : tlt x y) (k : tlt y z) : tlt x z := by
  obtain ⟨x0, x1, x2⟩ := x
  obtain ⟨y0, y1, y2⟩ := y
  obtain ⟨z0, z1, z2⟩ := z
  unfold tlt at *
  simp only at *
  rcases h with h | ⟨rfl, h | ⟨rfl, h⟩⟩ <;> rcases k with k | ⟨rfl, k | ⟨rfl, k⟩⟩
  · exact .inl (blt_trans h k)
  · exact .inl h
  · exact .inl h
  · exact .inl k
  · exact .inr ⟨rfl, .inl (blt_trans h k)⟩
  · exact .inr ⟨rfl, .inl h⟩
  · exact .inl k
  · exact .inr ⟨rfl, .inl k⟩
  · exact .inr ⟨rfl, .inr ⟨rfl, blt_trans h k⟩⟩
theorem tlt_total (x y : Tup) : tlt x y ∨ x = y ∨ tlt y x := by
  obtain ⟨x0, x1, x2⟩ := x
  obtain ⟨y0, y1, y2⟩ := y
  unfold tlt
  simp only
  rcases blt_total x0 y0 with h | rfl | h
  · exact .inl (.inl h)
  · rcases blt_total x1 y1 with h | rfl | h
    · exact .inl (.inr ⟨rfl, .inl h⟩)
    · rcases blt_total x2 y2 with h | rfl | h
      · exact .inl (.inr ⟨rfl, .inr ⟨rfl, h⟩⟩)
      · exact .inr (.inl rfl)
      · exact .inr (.inr (.inr ⟨rfl, .inr ⟨rfl, h⟩⟩))
    · exact .inr (.inr (.inr ⟨rfl, .inl h⟩))
  · exact .inr (.inr (.inl h))
theorem tupLt (x y : Tup) : ltOf tcmp x y = true ↔ tlt x y := by
  unfold ltOf
  rw [decide_eq_true_iff]
  exact tcmp_neg
theorem tupSwo : SWO (ltOf tcmp) where
  irrefl x := by
    cases h : ltOf tcmp x x with
    | false => rfl
    | true => exact absurd ((tupLt x x).1 h) (tlt_irrefl x)
  trans x y z h1 h2 := by rw [tupLt] at *; exact tlt_trans h1 h2
  ntrans x y z h1 h2 := by
    cases h : ltOf tcmp x z with
    | false => rfl
    | true =>
      have h3 := (tupLt x z).1 h
      have n1 : ¬ tlt x y := fun k => by rw [(tupLt x y).2 k] at h1; cases h1
      have n2 : ¬ tlt y z := fun k => by rw [(tupLt y z).2 k] at h2; cases h2
      rcases tlt_total x y with k | rfl | k
      · exact absurd k n1
      · exact absurd h3 n2
      · exact absurd (tlt_trans k h3) n2
theorem tupTotal (x y : Tup) (h1 : ltOf tcmp x y = false) (h2 : ltOf tcmp y x = false) : x = y := by
  rcases tlt_total x y with k | k | k
  · rw [(tupLt x y).2 k] at h1; cases h1
  · exact k
  · rw [(tupLt y x).2 k] at h2; cases h2
end Go.Proofs.YtojjnfhgldjgbaaGreatDoor.Watch
end
