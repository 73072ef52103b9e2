/- WatchSplits, where what came in is of bulk at most 1048576: changes up to a revision and behind it are all; they make th: part 26 of 29: what it leans on. -/
import Derived.Test.YtojjnfhgldjgbaaGreatDoorSpA
import Derived.Test.YtojjnfhgldjgbaaGreatDoorSpB
import Derived.Test.YtojjnfhgldjgbaaGreatDoorSpC
import Derived.Test.YtojjnfhgldjgbaaGreatDoorSpD
import Derived.Test.YtojjnfhgldjgbaaGreatDoorSpE
import Derived.Test.YtojjnfhgldjgbaaGreatDoorSpJ
import Derived.Test.YtojjnfhgldjgbaaGreatDoorSpL
import Derived.Test.YtojjnfhgldjgbaaGreatDoorSpM
import Derived.Test.YtojjnfhgldjgbaaGreatDoorSpN
import Derived.Test.YtojjnfhgldjgbaaGreatDoorSpO
import Derived.Test.YtojjnfhgldjgbaaGreatDoorSpP
import Derived.Test.YtojjnfhgldjgbaaGreatDoorSpQ
import Derived.Test.YtojjnfhgldjgbaaGreatDoorSpR
import Derived.Test.YtojjnfhgldjgbaaGreatDoorSpS
import Derived.Test.YtojjnfhgldjgbaaGreatDoorSpT
import Derived.Test.YtojjnfhgldjgbaaGreatDoorSpU
import Derived.Test.YtojjnfhgldjgbaaGreatDoorSpV
import Derived.Test.YtojjnfhgldjgbaaGreatDoorSpW
import Derived.Test.YtojjnfhgldjgbaaGreatDoorSpX
section
set_option linter.unusedVariables false
set_option linter.unusedSimpArgs false
namespace Go.Proofs.YtojjnfhgldjgbaaGreatDoor.Watch
open Go.RowKit Go.Por Go.Sort

theorem set_parts {α : Type} {l : List α} {i : Nat} {r r' : α} (h : l[i]? = some r) : ∃ A B, l = A ++ r :: B ∧ l.set i r' = A ++ r' :: B := by
  obtain ⟨hi, hr⟩ := List.getElem?_eq_some_iff.1 h
  refine ⟨l.take i, l.drop (i + 1), ?_, ?_⟩
  · rw [← hr, ← List.drop_eq_getElem_cons hi, List.take_append_drop]
  · rw [List.set_eq_take_append_cons_drop, if_pos hi]
theorem stab_perm {α : Type} [DecidableEq α] {lt : α → α → Bool} (h : SWO lt) {a b : List α} (k : Stab.Stab lt a b) : b.Perm a := List.perm_iff_count.2 fun x => by
  have e := congrArg (List.count x) (k x)
  rwa [List.count_filter (Stab.eqv_refl h x), List.count_filter (Stab.eqv_refl h x)] at e
theorem ccmp_lt {x y : Chg} (h : x.1 < y.1) : ltOf ccmp x y = true := by
  unfold ltOf ccmp or2v
  have e := (cmpInt_neg x.1 y.1).2 h
  unfold ltOf at e
  have e' := of_decide_eq_true e
  rw [if_neg (by omega)]
  exact e
theorem eqv_rev {x y : Chg} (h : Stab.eqv (ltOf ccmp) x y = true) : x.1 = y.1 := by
  obtain ⟨h1, h2⟩ := Stab.eqv_iff.1 h
  rcases Int.lt_trichotomy x.1 y.1 with k | k | k
  · rw [ccmp_lt k] at h1; cases h1
  · exact k
  · rw [ccmp_lt k] at h2; cases h2

structure Ris (s : Int × List Chg) (n : Nat) : Prop where
  low : 0 ≤ s.1
  pair : s.2.Pairwise (fun x y => x.1 < y.1)
  each : ∀ c ∈ s.2, 0 < c.1 ∧ c.1 ≤ 1125899906842624
  under : ∀ c ∈ s.2, c.1 ≤ s.1
  len : s.2.length ≤ n
end Go.Proofs.YtojjnfhgldjgbaaGreatDoor.Watch
end
