/- WatchNet, where what came in is of bulk at most 1048576: what leads from some tuples to others does so in a store, and n: part 25 of 32: what it leans on. -/
import Derived.Test.YtojjnfhgldjgbaaGreatDoorNtA
import Derived.Test.YtojjnfhgldjgbaaGreatDoorNtB
import Derived.Test.YtojjnfhgldjgbaaGreatDoorNtC
import Derived.Test.YtojjnfhgldjgbaaGreatDoorNtD
import Derived.Test.YtojjnfhgldjgbaaGreatDoorNtE
import Derived.Test.YtojjnfhgldjgbaaGreatDoorNtK
import Derived.Test.YtojjnfhgldjgbaaGreatDoorNtL
import Derived.Test.YtojjnfhgldjgbaaGreatDoorNtM
import Derived.Test.YtojjnfhgldjgbaaGreatDoorNtN
import Derived.Test.YtojjnfhgldjgbaaGreatDoorNtO
import Derived.Test.YtojjnfhgldjgbaaGreatDoorNtP
import Derived.Test.YtojjnfhgldjgbaaGreatDoorNtQ
import Derived.Test.YtojjnfhgldjgbaaGreatDoorNtR
import Derived.Test.YtojjnfhgldjgbaaGreatDoorNtS
import Derived.Test.YtojjnfhgldjgbaaGreatDoorNtT
import Derived.Test.YtojjnfhgldjgbaaGreatDoorNtU
import Derived.Test.YtojjnfhgldjgbaaGreatDoorNtV
import Derived.Test.YtojjnfhgldjgbaaGreatDoorNtW
import Derived.Test.YtojjnfhgldjgbaaGreatDoorNtX
section
set_option linter.unusedVariables false
set_option linter.unusedSimpArgs false
namespace Go.Proofs.YtojjnfhgldjgbaaGreatDoor.Watch
open Go.RowKit Go.Por Go.Sort

theorem rising_iff {l : List Tup} : Rising l ↔ l.Pairwise tlt := by
  unfold Rising
  constructor
  · exact fun h => List.Pairwise.imp (R := fun x y => tle x y = true ∧ x ≠ y) (S := tlt) (fun h => tle_ne.1 h) h
  · exact fun h => List.Pairwise.imp (R := tlt) (S := fun x y => tle x y = true ∧ x ≠ y) (fun h => tle_ne.2 h) h
theorem mem_compactP (x : Tup) : ∀ (l : List Tup) (p : Option Tup), x ∈ l → x ∈ compactP p l ∨ p = some x
  | [], _, h => by cases h
  | y :: l, p, h => by
    rw [compactP]
    rcases List.mem_cons.1 h with e | h
    · rw [e]
      by_cases hp : p = some y
      · exact .inr hp
      · rw [if_neg hp]
        exact .inl (List.mem_append.2 (.inl List.mem_cons_self))
    · rcases mem_compactP x l (some y) h with k | k
      · exact .inl (List.mem_append.2 (.inr k))
      · have e : y = x := Option.some.inj k
        rw [e]
        by_cases hp : p = some x
        · exact .inr hp
        · rw [if_neg hp]
          exact .inl (List.mem_append.2 (.inl List.mem_cons_self))
theorem mem_atL (rows : List RowT) (rev : Int) (x : Tup) : x ∈ atL rows rev ↔ x ∈ thereL rows rev := by
  have hs := compactP_sorted ((thereL rows rev).mergeSort tle) none (List.pairwise_mergeSort (le := tle) (fun a b c h k => tle_trans h k) tle_total (thereL rows rev)) (fun q h => by cases h)
  unfold atL compactL
  constructor
  · intro h
    exact List.mem_mergeSort.1 (hs.2 x h).1
  · intro h
    rcases mem_compactP x _ none (List.mem_mergeSort.2 h) with k | k
    · exact k
    · cases k

/-- A change is put behind all that don't stand behind it. -/
structure PutAt (c : Chg) (l r : List Chg) (A B : List Chg) : Prop where
  l_eq : l = A ++ B
  r_eq : r = A ++ c :: B
  behind : ∀ b ∈ B, ltOf ccmp c b = true
  ahead : ∀ a, A.getLast? = some a → ltOf ccmp c a = false
theorem PutAt.len {c : Chg} {l r A B : List Chg} (h : PutAt c l r A B) : r.length = l.length + 1 := by
  rw [h.l_eq, h.r_eq]
  simp only [List.length_append, List.length_cons]
  omega
end Go.Proofs.YtojjnfhgldjgbaaGreatDoor.Watch
end
section
set_option linter.unusedVariables false
set_option linter.unusedSimpArgs false
namespace Go.Proofs.YtojjnfhgldjgbaaGreatDoor.Watch
open Go.RowKit Go.Por Go.Sort
theorem mem_kput (ks : List Tup) (t x : Tup) : x ∈ kput ks t ↔ x = t ∨ x ∈ ks := by
  unfold kput kputG
  split
  · rename_i h
    constructor
    · exact .inr
    · rintro (e | e)
      · rw [e]; exact h
      · exact e
  · rw [List.mem_append, List.mem_singleton]
    exact Or.comm
theorem kput_nd {ks : List Tup} (h : ks.Nodup) (t : Tup) : (kput ks t).Nodup := by
  unfold kput kputG
  split
  · exact h
  · rename_i hn
    exact List.nodup_append.2 ⟨h, List.nodup_cons.2 ⟨by simp, List.nodup_nil⟩, fun a ha b hb e => hn (by rw [List.mem_singleton.1 hb] at e; rw [← e]; exact ha)⟩
theorem kstep_nd {ks : List Tup} (h : ks.Nodup) (c : Chg) : (kstep ks c).Nodup := by
  unfold kstep
  split
  · exact List.Nodup.sublist List.filter_sublist (kput_nd h _)
  · exact kput_nd h _
theorem kputs_nd : ∀ (ts : List Tup) {ks : List Tup}, ks.Nodup → (ts.foldl kput ks).Nodup
  | [], _, h => h
  | t :: ts, _, h => kputs_nd ts (kput_nd h t)
theorem ksteps_nd : ∀ (cs : List Chg) {ks : List Tup}, ks.Nodup → (cs.foldl kstep ks).Nodup
  | [], _, h => h
  | c :: cs, _, h => ksteps_nd cs (kstep_nd h c)
theorem mem_kputs (x : Tup) : ∀ (ts ks : List Tup), x ∈ ts.foldl kput ks ↔ x ∈ ts ∨ x ∈ ks
  | [], ks => by simp
  | t :: ts, ks => by
    rw [List.foldl_cons, mem_kputs x ts, mem_kput, List.mem_cons]
    constructor
    · rintro (h | h | h)
      · exact .inl (.inr h)
      · exact .inl (.inl h)
      · exact .inr h
    · rintro ((h | h) | h)
      · exact .inr (.inl h)
      · exact .inl h
      · exact .inr (.inr h)
theorem sort_rising {l : List Tup} (h : l.Nodup) : (l.mergeSort tle).Pairwise tlt := by
  have h1 := List.pairwise_mergeSort (le := tle) (fun a b c h k => tle_trans h k) tle_total l
  have h2 : (l.mergeSort tle).Nodup := (List.mergeSort_perm l tle).nodup_iff.2 h
  exact List.Pairwise.imp₂ (R := fun x y => tle x y = true) (S := fun x y => x ≠ y) (T := tlt) (fun x y a b => tle_ne.1 ⟨a, b⟩) h1 h2
theorem playL_rise (ts : List Tup) (cs : List Chg) : (playL ts cs).Pairwise tlt := sort_rising (ksteps_nd cs (kputs_nd ts List.nodup_nil))
theorem mem_playL (ts : List Tup) (cs : List Chg) (x : Tup) : x ∈ playL ts cs ↔ x ∈ cs.foldl kstep (ts.foldl kput []) := by
  unfold playL playK
  rw [List.mem_mergeSort]
end Go.Proofs.YtojjnfhgldjgbaaGreatDoor.Watch
end
