/- WatchSplits, where what came in is of bulk at most 1048576: changes up to a revision and behind it are all; they make th: part 25 of 29: what it leans on. -/
import Derived.Test.YtojjnfhgldjgbaaGreatDoorSpA
import Derived.Test.YtojjnfhgldjgbaaGreatDoorSpB
import Derived.Test.YtojjnfhgldjgbaaGreatDoorSpC
import Derived.Test.YtojjnfhgldjgbaaGreatDoorSpD
import Derived.Test.YtojjnfhgldjgbaaGreatDoorSpE
import Derived.Test.YtojjnfhgldjgbaaGreatDoorSpJ
import Derived.Test.YtojjnfhgldjgbaaGreatDoorSpL
import Derived.Test.YtojjnfhgldjgbaaGreatDoorSpM
import Derived.Test.YtojjnfhgldjgbaaGreatDoorSpN
import Derived.Test.YtojjnfhgldjgbaaGreatDoorSpO
import Derived.Test.YtojjnfhgldjgbaaGreatDoorSpP
import Derived.Test.YtojjnfhgldjgbaaGreatDoorSpQ
import Derived.Test.YtojjnfhgldjgbaaGreatDoorSpR
import Derived.Test.YtojjnfhgldjgbaaGreatDoorSpS
import Derived.Test.YtojjnfhgldjgbaaGreatDoorSpT
import Derived.Test.YtojjnfhgldjgbaaGreatDoorSpU
import Derived.Test.YtojjnfhgldjgbaaGreatDoorSpV
import Derived.Test.YtojjnfhgldjgbaaGreatDoorSpW
import Derived.Test.YtojjnfhgldjgbaaGreatDoorSpX
section
set_option linter.unusedVariables false
set_option linter.unusedSimpArgs false
namespace Go.Proofs.YtojjnfhgldjgbaaGreatDoor.Watch
open Go.RowKit Go.Por Go.Sort

theorem rising_iff {l : List Tup} : Rising l ↔ l.Pairwise tlt := by
  unfold Rising
  constructor
  · exact fun h => List.Pairwise.imp (R := fun x y => tle x y = true ∧ x ≠ y) (S := tlt) (fun h => tle_ne.1 h) h
  · exact fun h => List.Pairwise.imp (R := tlt) (S := fun x y => tle x y = true ∧ x ≠ y) (fun h => tle_ne.2 h) h
theorem mem_compactP (x : Tup) : ∀ (l : List Tup) (p : Option Tup), x ∈ l → x ∈ compactP p l ∨ p = some x
  | [], _, h => by cases h
  | y :: l, p, h => by
    rw [compactP]
    rcases List.mem_cons.1 h with e | h
    · rw [e]
      by_cases hp : p = some y
      · exact .inr hp
      · rw [if_neg hp]
        exact .inl (List.mem_append.2 (.inl List.mem_cons_self))
    · rcases mem_compactP x l (some y) h with k | k
      · exact .inl (List.mem_append.2 (.inr k))
      · have e : y = x := Option.some.inj k
        rw [e]
        by_cases hp : p = some x
        · exact .inr hp
        · rw [if_neg hp]
          exact .inl (List.mem_append.2 (.inl List.mem_cons_self))
theorem mem_atL (rows : List RowT) (rev : Int) (x : Tup) : x ∈ atL rows rev ↔ x ∈ thereL rows rev := by
  have hs := compactP_sorted ((thereL rows rev).mergeSort tle) none (List.pairwise_mergeSort (le := tle) (fun a b c h k => tle_trans h k) tle_total (thereL rows rev)) (fun q h => by cases h)
  unfold atL compactL
  constructor
  · intro h
    exact List.mem_mergeSort.1 (hs.2 x h).1
  · intro h
    rcases mem_compactP x _ none (List.mem_mergeSort.2 h) with k | k
    · exact k
    · cases k

/-- A change is put behind all that don't stand behind it. -/
structure PutAt (c : Chg) (l r : List Chg) (A B : List Chg) : Prop where
  l_eq : l = A ++ B
  r_eq : r = A ++ c :: B
  behind : ∀ b ∈ B, ltOf ccmp c b = true
  ahead : ∀ a, A.getLast? = some a → ltOf ccmp c a = false
theorem PutAt.len {c : Chg} {l r A B : List Chg} (h : PutAt c l r A B) : r.length = l.length + 1 := by
  rw [h.l_eq, h.r_eq]
  simp only [List.length_append, List.length_cons]
  omega
end Go.Proofs.YtojjnfhgldjgbaaGreatDoor.Watch
end
section
set_option linter.unusedVariables false
set_option linter.unusedSimpArgs false
namespace Go.Proofs.YtojjnfhgldjgbaaGreatDoor.Watch
open Go.RowKit Go.Por Go.Sort
theorem mem_kput (ks : List Tup) (t x : Tup) : x ∈ kput ks t ↔ x = t ∨ x ∈ ks := by
  unfold kput kputG
  split
  · rename_i h
    constructor
    · exact .inr
    · rintro (e | e)
      · rw [e]; exact h
      · exact e
  · rw [List.mem_append, List.mem_singleton]
    exact Or.comm
theorem mem_kdel (ks : List Tup) (t x : Tup) : x ∈ kdel ks t ↔ x ∈ ks ∧ x ≠ t := by
  unfold kdel
  rw [List.mem_filter, decide_eq_true_iff]
theorem kput_nd {ks : List Tup} (h : ks.Nodup) (t : Tup) : (kput ks t).Nodup := by
  unfold kput kputG
  split
  · exact h
  · rename_i hn
    exact List.nodup_append.2 ⟨h, List.nodup_cons.2 ⟨by simp, List.nodup_nil⟩, fun a ha b hb e => hn (by rw [List.mem_singleton.1 hb] at e; rw [← e]; exact ha)⟩
theorem kstep_nd {ks : List Tup} (h : ks.Nodup) (c : Chg) : (kstep ks c).Nodup := by
  unfold kstep
  split
  · exact List.Nodup.sublist List.filter_sublist (kput_nd h _)
  · exact kput_nd h _
theorem kputs_nd : ∀ (ts : List Tup) {ks : List Tup}, ks.Nodup → (ts.foldl kput ks).Nodup
  | [], _, h => h
  | t :: ts, _, h => kputs_nd ts (kput_nd h t)
theorem ksteps_nd : ∀ (cs : List Chg) {ks : List Tup}, ks.Nodup → (cs.foldl kstep ks).Nodup
  | [], _, h => h
  | c :: cs, _, h => ksteps_nd cs (kstep_nd h c)
theorem mem_kputs (x : Tup) : ∀ (ts ks : List Tup), x ∈ ts.foldl kput ks ↔ x ∈ ts ∨ x ∈ ks
  | [], ks => by simp
  | t :: ts, ks => by
    rw [List.foldl_cons, mem_kputs x ts, mem_kput, List.mem_cons]
    constructor
    · rintro (h | h | h)
      · exact .inl (.inr h)
      · exact .inl (.inl h)
      · exact .inr h
    · rintro ((h | h) | h)
      · exact .inr (.inl h)
      · exact .inl h
      · exact .inr (.inr h)
theorem sort_rising {l : List Tup} (h : l.Nodup) : (l.mergeSort tle).Pairwise tlt := by
  have h1 := List.pairwise_mergeSort (le := tle) (fun a b c h k => tle_trans h k) tle_total l
  have h2 : (l.mergeSort tle).Nodup := (List.mergeSort_perm l tle).nodup_iff.2 h
  exact List.Pairwise.imp₂ (R := fun x y => tle x y = true) (S := fun x y => x ≠ y) (T := tlt) (fun x y a b => tle_ne.1 ⟨a, b⟩) h1 h2
theorem playL_rise (ts : List Tup) (cs : List Chg) : (playL ts cs).Pairwise tlt := sort_rising (ksteps_nd cs (kputs_nd ts List.nodup_nil))
theorem mem_playL (ts : List Tup) (cs : List Chg) (x : Tup) : x ∈ playL ts cs ↔ x ∈ cs.foldl kstep (ts.foldl kput []) := by
  unfold playL playK
  rw [List.mem_mergeSort]
/-- A tuple is there, behind changes. -/
def stateB (t : Tup) (b : Bool) (cs : List Chg) : Bool := cs.foldl (fun b c => if c.2.2 = t then !c.2.1 else b) b
theorem mem_state (t : Tup) : ∀ (cs : List Chg) (ks : List Tup) (b : Bool), (t ∈ ks ↔ b = true) → (t ∈ cs.foldl kstep ks ↔ stateB t b cs = true)
  | [], _, _, h => h
  | (rev, d, x) :: cs, ks, b, h => by
    refine mem_state t cs _ _ ?_
    unfold kstep
    simp only
    cases d with
    | true =>
      rw [if_pos rfl, mem_kdel, mem_kput]
      by_cases e : x = t
      · rw [if_pos e]
        exact ⟨fun k => absurd e.symm k.2, fun k => (by cases k)⟩
      · rw [if_neg e, ← h]
        exact ⟨fun k => k.1.resolve_left (fun q => e q.symm), fun k => ⟨.inr k, fun q => e q.symm⟩⟩
    | false =>
      rw [if_neg (by decide), mem_kput]
      by_cases e : x = t
      · rw [if_pos e]
        exact ⟨fun _ => rfl, fun _ => .inl e.symm⟩
      · rw [if_neg e, ← h]
        exact ⟨fun k => k.resolve_left (fun q => e q.symm), .inr⟩
/-- The last change of a tuple tells. -/
theorem state_last (t : Tup) : ∀ (cs : List Chg) (b : Bool), ((∀ c ∈ cs, c.2.2 ≠ t) ∧ stateB t b cs = b) ∨ ∃ A c B, cs = A ++ c :: B ∧ c.2.2 = t ∧ (∀ c' ∈ B, c'.2.2 ≠ t) ∧ stateB t b cs = !c.2.1
  | [], b => .inl ⟨fun c hc => (by cases hc), rfl⟩
  | c :: cs, b => by
    have e : stateB t b (c :: cs) = stateB t (if c.2.2 = t then !c.2.1 else b) cs := rfl
    rw [e]
    rcases state_last t cs (if c.2.2 = t then !c.2.1 else b) with ⟨h1, h2⟩ | ⟨A, c', B, h1, h2, h3, h4⟩
    · rw [h2]
      by_cases h : c.2.2 = t
      · rw [if_pos h]
        exact .inr ⟨[], c, cs, rfl, h, h1, rfl⟩
      · rw [if_neg h]
        refine .inl ⟨fun c' hc => ?_, rfl⟩
        rcases List.mem_cons.1 hc with k | k
        · rw [k]; exact h
        · exact h1 c' k
    · exact .inr ⟨c :: A, c', B, by rw [h1]; rfl, h2, h3, h4⟩
end Go.Proofs.YtojjnfhgldjgbaaGreatDoor.Watch
end
