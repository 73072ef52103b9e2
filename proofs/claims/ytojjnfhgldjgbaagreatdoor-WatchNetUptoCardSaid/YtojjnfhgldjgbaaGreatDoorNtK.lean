/- WatchNet, where what came in is of bulk at most 1048576: what leads from some tuples to others does so in a store, and n: part 11 of 32: what it leans on. -/
import Derived.Test.YtojjnfhgldjgbaaGreatDoorNtA
import Derived.Test.YtojjnfhgldjgbaaGreatDoorNtB
import Derived.Test.YtojjnfhgldjgbaaGreatDoorNtC
import Derived.Test.YtojjnfhgldjgbaaGreatDoorNtD
import Derived.Test.YtojjnfhgldjgbaaGreatDoorNtE
import Derived.Test.YtojjnfhgldjgbaaGreatDoorNtF
import Derived.Test.YtojjnfhgldjgbaaGreatDoorNtG
import Derived.Test.YtojjnfhgldjgbaaGreatDoorNtH
import Derived.Test.YtojjnfhgldjgbaaGreatDoorNtI
import Derived.Test.YtojjnfhgldjgbaaGreatDoorNtJ
section
set_option linter.unusedVariables false
set_option linter.unusedSimpArgs false
namespace Go.Por
open Go.RowKit Go.MapKept

/-- A list without repetitions whose members lie in another is a part of it. -/
theorem nodup_part {α : Type} [DecidableEq α] : ∀ {a b : List α}, a.Nodup → (∀ x ∈ a, x ∈ b) → ∃ c, b.Perm (a ++ c)
  | [], b, _, _ => ⟨b, .refl _⟩
  | x :: a, b, hn, hs => by
    rw [List.nodup_cons] at hn
    have hx : x ∈ b := hs x (by simp)
    obtain ⟨c, hc⟩ := nodup_part (a := a) (b := b.erase x) hn.2 (fun y hy => (List.mem_erase_of_ne (fun (e : y = x) => hn.1 (by rw [← e]; exact hy))).2 (hs y (by simp [hy])))
    exact ⟨c, (List.perm_cons_erase hx).trans (hc.cons x)⟩
theorem nodup_length {α : Type} [DecidableEq α] {a b : List α} (hn : a.Nodup) (hs : ∀ x ∈ a, x ∈ b) : a.length ≤ b.length := by
  obtain ⟨c, hc⟩ := nodup_part hn hs
  rw [hc.length_eq]; simp
theorem nodup_perm {α : Type} [DecidableEq α] {a b : List α} (hn : a.Nodup) (hs : ∀ x ∈ a, x ∈ b) (hl : b.length ≤ a.length) : a.Perm b := by
  obtain ⟨c, hc⟩ := nodup_part hn hs
  have : c = [] := by
    have := hc.length_eq
    simp at this
    exact List.length_eq_zero_iff.1 (by omega)
  subst this
  simpa using hc.symm

section
variable {P : Program} {kt et t : TypeId} {κ : Type} {enc : κ → Value} {w : World} {M I : Nat} {l : List (κ × Value)}

/-- Block I goes over the map of block M; 'done' has come already. -/
def IterIs (w : World) (I M : Nat) (enc : κ → Value) (l done : List (κ × Value)) : Prop :=
  ∃ es clock, w.heap[M]? = some (.map es clock) ∧ es.toList.map (fun e => (e.key, e.val)) = l.map (fun p => (enc p.1, p.2)) ∧ (l.map Prod.fst).Nodup ∧
    (∀ e ∈ es.toList, e.born < clock) ∧ (es.toList.map (·.born)).Nodup ∧
    ∃ idx : List Nat, idx.Nodup ∧ (∀ i ∈ idx, i < l.length) ∧ done.map some = idx.map (fun i => l[i]?) ∧
      ∃ seen : Array Nat, w.heap[I]? = some (.mapIter (some M) clock seen clock) ∧ seen.toList.map some = idx.map (fun i => (es.toList[i]?).map (·.born))

theorem IterIs.map {done : List (κ × Value)} (h : IterIs w I M enc l done) : MapIs w M enc l := by
  obtain ⟨es, clock, h1, h2, h3, h4, h5, _⟩ := h
  exact ⟨es, clock, h1, h2, h3, h4, h5⟩
theorem IterIs.ltI {done : List (κ × Value)} (h : IterIs w I M enc l done) : I < w.heap.size := by
  obtain ⟨es, clock, h1, h2, h3, h4, h5, idx, _, _, _, seen, hs, _⟩ := h
  exact lt_block hs
theorem IterIs.keep {done : List (κ × Value)} {w' : World} (h : IterIs w I M enc l done) (hM : w'.heap[M]? = w.heap[M]?) (hI : w'.heap[I]? = w.heap[I]?) : IterIs w' I M enc l done := by
  obtain ⟨es, clock, h1, h2, h3, h4, h5, idx, h6, h7, h8, seen, hs, h9⟩ := h
  exact ⟨es, clock, hM.trans h1, h2, h3, h4, h5, idx, h6, h7, h8, seen, hI.trans hs, h9⟩
theorem IterIs.mod {done : List (κ × Value)} {S : Nat → Prop} {w' : World} (h : IterIs w I M enc l done) (hm : Mod S w w') (h1 : ¬ S M) (h2 : ¬ S I) : IterIs w' I M enc l done :=
  h.keep (hm.block M h.map.lt h1) (hm.block I h.ltI h2)

/-- 'range m'. -/
theorem MapIs.range (ht : P.underlying t = some (.map kt et)) (h : MapIs w M enc l) :
    ∃ o, (Instr.range t (.map (some M))).run P w = .ok (.pointer (some ⟨w.heap.size, 0, none⟩)) (w.alloc o) ∧ IterIs (w.alloc o) w.heap.size M enc l [] := by
  have hlt := h.lt
  obtain ⟨es, clock, hb, he, hn, hborn, hbn⟩ := h
  refine ⟨.mapIter (some M) clock #[] clock, by simp [Instr.range, run_underlying ht, MapKept.run_getObj_map hb, Result.andThen], ?_⟩
  exact ⟨es, clock, (Below.heap_alloc _ _ _ hlt).trans hb, he, hn, hborn, hbn, [], by simp, by simp, rfl, #[], block_new _ _, rfl⟩

theorem run_getObj_iter {m : Option Nat} {a b : Nat} {s : Array Nat} (hb : w.heap[I]? = some (.mapIter m a s b)) : (getObj I).run P w = .ok (.mapIter m a s b) w := by
  simp [getObj, Sem.run, hb]
theorem run_setObj_iter {m : Option Nat} {a b : Nat} {s : Array Nat} (o : Obj) (hb : w.heap[I]? = some (.mapIter m a s b)) : (setObj I o).run P w = .ok () (setB w I o) := by
  simp [setObj, Sem.run, hb, setB]

/-- The next entry: none is left, or some one that has not come yet. -/
theorem IterIs.next {done : List (κ × Value)} (h : IterIs w I M enc l done) :
    (done.length = l.length ∧ ∀ ty, (Instr.next (.pointer (some ⟨I, 0, none⟩)) false ty).run P w = .ok (.tuple #[.bool false]) w) ∨
    ∃ k v w', done.length < l.length ∧ (k, v) ∈ l ∧ (k, v) ∉ done ∧ (∀ ty, (Instr.next (.pointer (some ⟨I, 0, none⟩)) false ty).run P w = .ok (.tuple #[.bool true, enc k, v]) w') ∧
      IterIs w' I M enc l (done ++ [(k, v)]) ∧ Mod (fun x => x = I) w w' ∧ (Instr.entry (.pointer (some ⟨I, 0, none⟩))).run P w' = .ok (.tuple #[enc k, v]) w' := by
  obtain ⟨es, clock, hb, he, hn, hborn, hbn, idx, h6, h7, h8, seen, hs, h9⟩ := h
  have hlen : es.size = l.length := by simpa using congrArg List.length he
  have hdl : done.length = idx.length := by simpa using congrArg List.length h8
  have hMI : M ≠ I := by intro e; subst e; rw [hb] at hs; simp at hs
  -- what has been seen
  have hseen : ∀ (i : Nat) (e : MapEntry), es.toList[i]? = some e → (e.born ∈ seen.toList ↔ i ∈ idx) := by
    intro i e hi
    constructor
    · intro hm
      have : some e.born ∈ idx.map (fun i => (es.toList[i]?).map (·.born)) := by rw [← h9]; exact List.mem_map.2 ⟨_, hm, rfl⟩
      obtain ⟨j, hj, ej⟩ := List.mem_map.1 this
      cases hx : es.toList[j]? with
      | none => simp [hx] at ej
      | some x =>
        simp [hx] at ej
        have hi' : i < es.toList.length := by
          rcases Nat.lt_or_ge i es.toList.length with h | h
          · exact h
          · simp [List.getElem?_eq_none h] at hi
        have hj' : j < es.toList.length := by
          rcases Nat.lt_or_ge j es.toList.length with h | h
          · exact h
          · simp [List.getElem?_eq_none h] at hx
        have q1 : es.toList[i] = e := by simpa [List.getElem?_eq_getElem hi'] using hi
        have q2 : es.toList[j] = x := by simpa [List.getElem?_eq_getElem hj'] using hx
        have a1 : (es.toList.map (·.born))[i]'(by simpa using hi') = (es.toList.map (·.born))[j]'(by simpa using hj') := by
          rw [List.getElem_map, List.getElem_map, q1, q2, ej]
        have := (List.getElem_inj hbn).1 a1
        subst this
        exact hj
    · intro hm
      have : some e.born ∈ seen.toList.map some := by rw [h9]; exact List.mem_map.2 ⟨i, hm, by rw [hi]; rfl⟩
      obtain ⟨x, hx, ex⟩ := List.mem_map.1 this
      cases ex
      exact hx
  have hcont : ∀ e : MapEntry, seen.contains e.born = decide (e.born ∈ seen.toList) := fun e => by
    rw [Bool.eq_iff_iff]; simp
  -- the entries that are left
  obtain ⟨left, hleft⟩ : ∃ left : Array MapEntry, left = es.filter fun e => !seen.contains e.born := ⟨_, rfl⟩
  have hleftmem : ∀ e, e ∈ left.toList ↔ ∃ i, es.toList[i]? = some e ∧ i ∉ idx := by
    intro e
    rw [hleft]
    simp only [Array.toList_filter, List.mem_filter]
    constructor
    · rintro ⟨hm, hc⟩
      obtain ⟨i, hi⟩ := List.getElem?_of_mem hm
      refine ⟨i, hi, fun hx => ?_⟩
      have := (hseen i e hi).2 hx
      rw [hcont e] at hc
      simp at hc
      exact hc (by simpa using this)
    · rintro ⟨i, hi, hx⟩
      refine ⟨List.mem_of_getElem? hi, ?_⟩
      rw [hcont e]
      have := mt (hseen i e hi).1 hx
      simp
      simpa using this
  have hold : left.filter (fun e => decide (e.born < clock)) = left := by
    apply Array.toList_inj.1
    rw [Array.toList_filter, List.filter_eq_self]
    intro e he'
    obtain ⟨i, hi, _⟩ := (hleftmem e).1 he'
    simpa using hborn e (List.mem_of_getElem? hi)
  have hnew : left.filter (fun e => decide (e.born ≥ clock)) = #[] := by
    apply Array.toList_inj.1
    rw [Array.toList_filter]
    simp only [List.filter_eq_nil_iff]
    intro e he'
    obtain ⟨i, hi, _⟩ := (hleftmem e).1 he'
    have := hborn e (List.mem_of_getElem? hi)
    simp; omega
  have hguard : (!seen.isEmpty && !es.isEmpty && es.all (fun e => decide (e.born ≥ clock))) = false := by
    cases hes : es.toList with
    | nil =>
      have : es = #[] := Array.toList_inj.1 hes
      subst this; simp
    | cons x r =>
      have hx := hborn x (by rw [hes]; simp)
      have : es.all (fun e => decide (e.born ≥ clock)) = false := by
        rw [← Array.all_toList, hes]
        simp; omega
      rw [this]; simp
  by_cases hdone : left.toList = []
  · -- nothing is left
    have hl0 : left = #[] := Array.toList_inj.1 hdone
    left
    refine ⟨?_, ?_⟩
    · rw [hdl]
      have h1 : (List.range l.length).length ≤ idx.length := by
        refine nodup_length List.nodup_range (fun i hi => ?_)
        have hi' := List.mem_range.1 hi
        have hi2 : i < es.toList.length := by simpa [hlen] using hi'
        refine Classical.byContradiction fun hx => ?_
        have : es.toList[i] ∈ left.toList := (hleftmem _).2 ⟨i, List.getElem?_eq_getElem hi2, hx⟩
        rw [hdone] at this
        cases this
      have h2 : idx.length ≤ (List.range l.length).length := nodup_length h6 (fun i hi => List.mem_range.2 (h7 i hi))
      simp at h1 h2
      omega
    · intro ty
      simp only [Instr.next, Sem.run_bind, run_getObj_iter hs, MapKept.run_getObj_map hb, Result.andThen, hguard, ← hleft, hl0]
      simp [choose, Sem.run, Question.forced]
  · -- some entry comes
    right
    have hpos : 0 < left.size := by
      rcases Nat.eq_zero_or_pos left.size with h | h
      · exact absurd (by simpa using Array.size_eq_zero_iff.1 h) hdone
      · exact h
    have hne : left.isEmpty = false := by
      cases hh : left.isEmpty with
      | false => rfl
      | true => exact absurd (by simpa using hh) hdone
    obtain ⟨c, w1, hcw, hcl, hw1⟩ : ∃ (c : Nat) (w1 : World), (choose (.mapNext left.size)).run P w = .ok c w1 ∧ c < left.size ∧ (w1 = w ∨ w1 = w.drew) := by
      by_cases hf : Question.forced (.mapNext left.size) = true
      · refine ⟨0, w, by simp [choose, Sem.run, hf], hpos, .inl rfl⟩
      · have hf' : Question.forced (.mapNext left.size) = false := by simpa using hf
        refine ⟨_, w.drew, by simp [choose, Sem.run, hf']; rfl, ?_, .inr rfl⟩
        exact Nat.mod_lt _ hpos
    obtain ⟨e, hce⟩ : ∃ e, left[c]? = some e := ⟨_, Array.getElem?_eq_getElem hcl⟩
    have hel : e ∈ left.toList := by
      have := Array.mem_of_getElem? hce
      simpa using this
    obtain ⟨i, hi, hix⟩ := (hleftmem e).1 hel
    obtain ⟨p, hp, hk, hv⟩ := map_at he hi
    have hil : i < l.length := by
      rcases Nat.lt_or_ge i l.length with h | h
      · exact h
      · simp [List.getElem?_eq_none h] at hp
    have hb1 : w1.heap = w.heap := by rcases hw1 with rfl | rfl <;> rfl
    have hs1 : w1.heap[I]? = some (.mapIter (some M) clock seen clock) := by rw [hb1]; exact hs
    have hIl : I < w1.heap.size := lt_block hs1
    have hrun : ∀ ty, (Instr.next (.pointer (some ⟨I, 0, none⟩)) false ty).run P w = .ok (.tuple #[.bool true, enc p.1, p.2]) (setB w1 I (.mapIter (some M) clock (seen.push e.born) clock)) := by
      intro ty
      have hcand : ((if left.isEmpty then #[none] else #[]) ++ (left ++ #[]).map some : Array (Option MapEntry)) = left.map some := by
        rw [hne]; simp
      have hsz : (left.map some).size = left.size := by simp
      have hget : (left.map some)[c]? = some (some e) := by simp [hce]
      simp only [Instr.next, Sem.run_bind, run_getObj_iter hs, MapKept.run_getObj_map hb, Result.andThen, hguard, ← hleft, hold, hnew, hcand, hsz]
      rw [if_neg (by decide), Sem.run_bind, hcw]
      simp only [Result.andThen, hget]
      simp [run_setObj_iter _ hs1, Result.andThen, hk, hv]
    have hnd : (p.1, p.2) ∉ done := by
      intro hm
      have : some (p.1, p.2) ∈ idx.map (fun i => l[i]?) := by rw [← h8]; exact List.mem_map.2 ⟨_, hm, rfl⟩
      obtain ⟨j, hj, ej⟩ := List.mem_map.1 this
      have hjl := h7 j hj
      have q1 : l[i] = p := by simpa [List.getElem?_eq_getElem hil] using hp
      have q2 : l[j] = (p.1, p.2) := by simpa [List.getElem?_eq_getElem hjl] using ej
      have a1 : (l.map Prod.fst)[i]'(by simpa using hil) = (l.map Prod.fst)[j]'(by simpa using hjl) := by
        rw [List.getElem_map, List.getElem_map, q1, q2]
      have := (List.getElem_inj hn).1 a1
      subst this
      exact hix hj
    have hlt : done.length < l.length := by
      rw [hdl]
      have h1 : (i :: idx).length ≤ (List.range l.length).length := by
        refine nodup_length (List.nodup_cons.2 ⟨hix, h6⟩) (fun j hj => ?_)
        rcases List.mem_cons.1 hj with rfl | hj
        · exact List.mem_range.2 hil
        · exact List.mem_range.2 (h7 j hj)
      simp at h1
      omega
    have hMb : (setB w1 I (.mapIter (some M) clock (seen.push e.born) clock)).heap[M]? = some (.map es clock) := by
      rw [(setB_mod w1 I _).block M (by rw [hb1]; exact lt_block hb) hMI, hb1]; exact hb
    have hIb : (setB w1 I (.mapIter (some M) clock (seen.push e.born) clock)).heap[I]? = some (.mapIter (some M) clock (seen.push e.born) clock) := by simp [setB, hIl]
    refine ⟨p.1, p.2, _, hlt, List.mem_of_getElem? hp, hnd, hrun, ?_, ?_, ?_⟩
    · refine ⟨es, clock, hMb, he, hn, hborn, hbn, idx ++ [i], ?_, ?_, ?_, seen.push e.born, hIb, ?_⟩
      · rw [List.nodup_append]
        exact ⟨h6, by simp, fun a ha b hb' => by simp at hb'; subst hb'; intro e'; subst e'; exact hix ha⟩
      · intro j hj
        rcases List.mem_append.1 hj with hj | hj
        · exact h7 j hj
        · simp at hj; subst hj; exact hil
      · rw [List.map_append, List.map_append, h8]; simp [hp]
      · rw [Array.toList_push, List.map_append, List.map_append, h9]
        simp only [List.map_cons, List.map_nil, hi, Option.map_some]
    · rcases hw1 with rfl | rfl
      · exact setB_mod _ _ _
      · exact ((Mod.refl _ w).drew).trans' (setB_mod _ _ _)
    · have hfind : es.find? (fun x => x.born == e.born) = some e := by
        rw [← Array.find?_toList]
        have hm : e ∈ es.toList := List.mem_of_getElem? hi
        cases hf : es.toList.find? (fun x => x.born == e.born) with
        | none => exact absurd (List.find?_eq_none.1 hf e hm) (by simp)
        | some x =>
          have h1 := List.mem_of_find?_eq_some hf
          have h2 := List.find?_some hf
          simp at h2
          obtain ⟨j, hj⟩ := List.getElem?_of_mem h1
          have hi' : i < es.toList.length := by
            rcases Nat.lt_or_ge i es.toList.length with h | h
            · exact h
            · simp [List.getElem?_eq_none h] at hi
          have hj' : j < es.toList.length := by
            rcases Nat.lt_or_ge j es.toList.length with h | h
            · exact h
            · simp [List.getElem?_eq_none h] at hj
          have q1 : es.toList[i] = e := by simpa [List.getElem?_eq_getElem hi'] using hi
          have q2 : es.toList[j] = x := by simpa [List.getElem?_eq_getElem hj'] using hj
          have a1 : (es.toList.map (·.born))[i]'(by simpa using hi') = (es.toList.map (·.born))[j]'(by simpa using hj') := by
            rw [List.getElem_map, List.getElem_map, q1, q2, h2]
          have := (List.getElem_inj hbn).1 a1
          subst this
          rw [← q2, q1]
      simp [Instr.entry, run_getObj_iter hIb, MapKept.run_getObj_map hMb, Result.andThen, hfind, hk, hv]

/-- Where all have come, just the map's entries have. -/
theorem IterIs.all {done : List (κ × Value)} (h : IterIs w I M enc l done) (hd : done.length = l.length) : done.Perm l := by
  obtain ⟨es, clock, h1, h2, h3, h4, h5, idx, h6, h7, h8, _⟩ := h
  have hdl : done.length = idx.length := by simpa using congrArg List.length h8
  have hp : idx.Perm (List.range l.length) := by
    refine nodup_perm h6 (fun i hi => List.mem_range.2 (h7 i hi)) ?_
    simp; omega
  have h9 : (done.map some).Perm ((List.range l.length).map (fun i => l[i]?)) := by rw [h8]; exact hp.map _
  have e : (List.range l.length).map (fun i => l[i]?) = l.map some := by
    apply List.ext_getElem?
    intro i
    simp only [List.getElem?_map]
    rcases Nat.lt_or_ge i l.length with hi | hi
    · simp [hi]
    · simp [hi]
  rw [e] at h9
  have h10 := h9.filterMap id
  simpa [List.filterMap_map] using h10
end
end Go.Por
end
section
set_option linter.unusedVariables false
set_option linter.unusedSimpArgs false
namespace Go.Proofs.YtojjnfhgldjgbaaGreatDoor.Store
open Go.RowKit Go.Por Go.Sort Go.Proofs.YtojjnfhgldjgbaaGreatDoor.Watch
theorem MapIs.own_ne {κ α : Type} {enc : κ → Value} {w : World} {M : Nat} {lm : List (κ × Value)} (h : MapIs w M enc lm) {f : α → List Value} {c : Nat} {E : TypeId} {v : Value} {l : List α} (ho : OwnS f c w E v l) : v.ownBlock ≠ some M := by
  obtain ⟨es, ck, h1, _⟩ := h
  rcases ho.form with ⟨rfl, _⟩ | ⟨g, cap, rfl, _, _⟩
  · simp [Value.ownBlock]
  · obtain ⟨cur, h2, _⟩ := ho.block
    intro e
    simp only [Value.ownBlock, Option.some.injEq] at e
    subst e
    rw [h1] at h2
    cases h2
theorem iter_own_ne {κ α : Type} {enc : κ → Value} {w : World} {I M : Nat} {lm dn : List (κ × Value)} (h : IterIs w I M enc lm dn) {f : α → List Value} {c : Nat} {E : TypeId} {v : Value} {l : List α} (ho : OwnS f c w E v l) : v.ownBlock ≠ some I := by
  obtain ⟨es, ck, _, _, _, _, _, idx, _, _, _, seen, hs, _⟩ := h
  rcases ho.form with ⟨rfl, _⟩ | ⟨g, cap, rfl, _, _⟩
  · simp [Value.ownBlock]
  · obtain ⟨cur, h2, _⟩ := ho.block
    intro e
    simp only [Value.ownBlock, Option.some.injEq] at e
    subst e
    rw [hs] at h2
    cases h2
/-- The rows of one tuple. -/
def rowsOf (t : Tup) (l : List Span) : List RowT := l.map (fun x => (t, x.1, x.2))
def outM (sp : Sp) (dn : List (Tup × Value)) : List RowT := dn.flatMap (fun e => rowsOf e.1 (aget sp e.1))
theorem outM_all {lm : List (Tup × (Value × List Span))} (hn : (lm.map Prod.fst).Nodup) : outM (smc lm) (smv lm) = flatA (smc lm) := by
  unfold outM flatA
  have h1 : smv lm = lm.map (fun e => (e.1, e.2.1)) := rfl
  have h2 : smc lm = lm.map (fun e => (e.1, e.2.2)) := rfl
  rw [h1]
  conv => rhs; rw [h2]
  rw [List.flatMap_map, List.flatMap_map, List.flatMap_def, List.flatMap_def]
  congr 1
  apply List.map_congr_left
  intro e he
  have h3 : aget (smc lm) e.1 = e.2.2 := aget_some (by rw [smc_fst]; exact hn) (List.mem_map.2 ⟨e, he, rfl⟩)
  show rowsOf e.1 (aget (smc lm) e.1) = _
  rw [h3]
  rfl
theorem outM_part {lm : List (Tup × (Value × List Span))} (hn : (lm.map Prod.fst).Nodup) {dn : List (Tup × Value)} (hd : dn.Nodup) (hs : ∀ e ∈ dn, e ∈ smv lm) : (outM (smc lm) dn).length ≤ (flatA (smc lm)).length := by
  classical
  obtain ⟨c, hc⟩ := nodup_part hd hs
  rw [← outM_all hn]
  have h1 := (hc.flatMap_right (fun e : Tup × Value => rowsOf e.1 (aget (smc lm) e.1))).length_eq
  unfold outM
  rw [h1, List.flatMap_append, List.length_append]
  exact Nat.le_add_right _ _
theorem rowsOf_take (t : Tup) (l : List Span) {i : Nat} {x : Span} (h : l[i]? = some x) : rowsOf t (l.take (i + 1)) = rowsOf t (l.take i) ++ [(t, x.1, x.2)] := by
  unfold rowsOf
  rw [List.take_add_one, h, Option.toList_some, List.map_append]
  rfl
section
variable {w : World} {s O U M MO MU : Nat} {F : Nat → Prop} {lm : List (Tup × (Value × List Span))} {lo : List (PairT × (Value × List Tup))} {lu : List (ByteArray × (Value × List Tup))} {wm : Int}
set_option maxRecDepth 100000 in
set_option maxHeartbeats 400000 in
theorem rows_mem (h : StMem w s O U M MO MU F lm lo lu wm) (hb : ((flatA (smc lm)).length + 1) * 64 ≤ 140737488355328) (hrev : ∀ r ∈ flatA (smc lm), 0 ≤ r.2.1 ∧ r.2.1 ≤ maxRev) :
    Calls Tryz.prog 28 #[.pointer (some ⟨s, 0, none⟩)] w fun e w' => ∃ v', e = .returned v' ∧ ∃ l', l'.Perm (flatA (smc lm)) ∧ l'.Pairwise (fun x y => ¬ rlt y x) ∧ OwnS rowC 5 w' 63 v' l' ∧ Below w.heap.size w w' ∧ ∀ k, v'.ownBlock = some k → w.heap.size ≤ k := by
  obtain ⟨B, hB⟩ : ∃ B, w.heap.size = B := ⟨_, rfl⟩
  have c := cell_of (i := 0) h.hs rfl
  obtain ⟨oI, hrng, hit⟩ := h.m.map.range Tryz.underlying104
  rw [hB] at hrng hit
  have hbI : Below B w (w.alloc oI) := by rw [← hB]; exact (Below.refl _ w).alloc (Nat.le_refl _) _
  have hsI : (w.alloc oI).heap.size = B + 1 := by rw [World.size_alloc, hB]
  obtain ⟨WI, hWI⟩ : ∃ WI, w.alloc oI = WI := ⟨_, rfl⟩
  rw [hWI] at hrng hit hbI hsI
  rw [hB]
  have HH := Lib.hid (And.intro h (And.intro hb (And.intro hrev (And.intro hit (And.intro hbI (And.intro hsI hB))))))
  clear h hb hrev hit hbI hsI hWI hB
  go_enter Tryz.func28, Tryz.ntmps28
  go_wp2
  clear hrng
  go_loopg [3] ((smv lm).length) (fun gg sv wx => ∃ dn : List (Tup × Value), dn.length + gg = (smv lm).length ∧ dn.Nodup ∧ (∀ e ∈ dn, e ∈ smv lm) ∧ OwnS rowC 5 wx 63 sv (outM (smc lm) dn) ∧ IterIs wx B M encT (smv lm) dn ∧ Below B w wx ∧ B + 1 ≤ wx.heap.size ∧ ∀ k, sv.ownBlock = some k → B + 1 ≤ k)
  case atStart => exact ⟨[], by simp, List.nodup_nil, (fun e he => by cases he), OwnS.nil _ _ _ _, HH.out.2.2.2.1, HH.out.2.2.2.2.1, by have := HH.out; omega, fun k h => by simp [Value.ownBlock] at h⟩
  case round =>
    obtain ⟨dn, hdg, hdn, hdm, hown, hit, hbel, hsz, hwh⟩ := hrel
    rcases hit.next (P := Tryz.prog) with ⟨hfin, hnx⟩ | ⟨q, v, w', hlt, hm, hnd, hnx, hit', hm', hen⟩
    · have hp := hit.all hfin
      have HE := Lib.hid (And.intro hown (And.intro hbel (And.intro hsz (And.intro hwh hp))))
      clear hown hit hbel hsz hwh hdg hp hfin hdn hdm
      go_wp2_with fail
      obtain ⟨e1, e2, e3, e4, e5⟩ := HE.out
      have hperm : (outM (smc lm) dn).Perm (flatA (smc lm)) := by
        rw [← outM_all HH.out.1.m.nodup]
        exact e5.flatMap_right _
      have hle : (flatA (smc lm)).length < 4611686018427387904 := by
        have := HH.out.2.1
        omega
      refine (sort_rows e1 (by rw [hperm.length_eq]; exact hle) (fun r hr => HH.out.2.2.1 r (hperm.mem_iff.1 hr))).mono ?_
      rintro e w5 ⟨rfl, l', hp', hso, hown5, hm5⟩
      have k3 : Below B w w5 := e2.trans (hm5.to_below (by omega) (fun k hk => by have := e4 k hk.symm; omega))
      have HK := Lib.hid (And.intro (hp'.trans hperm) (And.intro hso (And.intro hown5 (And.intro k3 e4))))
      clear hown5 hm5 k3 e1 e2 e3 e4 e5 hp' hperm hso hle
      go_wp2
      go_ret
      obtain ⟨h1, h2, h3, h4, h5⟩ := HK.out
      exact ⟨u3, rfl, l', h1, h2, h3, h4, fun k hk => by have := h5 k hk; omega⟩
    · obtain ⟨x0, x1, x2⟩ := q
      obtain ⟨L, hL⟩ : ∃ L, aget (smc lm) (x0, x1, x2) = L := ⟨_, rfl⟩
      have hown0 : OwnS spanC 2 w 119 v L := by
        obtain ⟨e0, he0, hee⟩ := List.mem_map.1 hm
        have h1 := (Prod.mk.inj hee).1
        have h2 := (Prod.mk.inj hee).2
        have h3 : aget (smc lm) e0.1 = e0.2.2 := aget_some (by rw [smc_fst]; exact HH.out.1.m.nodup) (List.mem_map.2 ⟨e0, he0, rfl⟩)
        rw [← hL, ← h1, h3, ← h2]
        exact HH.out.1.m.own e0 he0
      obtain ⟨n, hn⟩ : ∃ n, L.length = n := ⟨_, rfl⟩
      obtain ⟨ao, cp, rfl, hao⟩ : ∃ ao cp, v = .slice ao n cp ∧ (0 < n → ∃ g, ao = some ⟨g, 0, none⟩) := by
        rcases hown0.form with ⟨rfl, h2⟩ | ⟨g, cap, rfl, _, _⟩
        · exact ⟨none, 0, by rw [← hn, h2]; rfl, fun h => by rw [← hn, h2] at h; simp at h⟩
        · exact ⟨_, cap, by rw [hn], fun _ => ⟨g, rfl⟩⟩
      have hdn2 : (dn ++ [((x0, x1, x2), Value.slice ao n cp)]).Nodup := List.nodup_append.2 ⟨hdn, by simp, fun a ha b hb' e => by
        simp only [List.mem_singleton] at hb'
        rw [hb'] at e
        rw [e] at ha
        exact hnd ha⟩
      have hdm2 : ∀ e ∈ dn ++ [((x0, x1, x2), Value.slice ao n cp)], e ∈ smv lm := fun e he => by
        rcases List.mem_append.1 he with he | he
        · exact hdm e he
        · simp only [List.mem_singleton] at he
          rw [he]; exact hm
      have hcat : outM (smc lm) (dn ++ [((x0, x1, x2), Value.slice ao n cp)]) = outM (smc lm) dn ++ rowsOf (x0, x1, x2) L := by
        unfold outM
        rw [List.flatMap_append, List.flatMap_cons, List.flatMap_nil, List.append_nil, hL]
      have hbound : (outM (smc lm) dn).length + n ≤ (flatA (smc lm)).length := by
        have h1 := outM_part HH.out.1.m.nodup hdn2 hdm2
        rw [hcat, List.length_append] at h1
        unfold rowsOf at h1
        rw [List.length_map, hn] at h1
        exact h1
      obtain ⟨S, hS⟩ : ∃ S, w'.heap.size = S := ⟨_, rfl⟩
      have hs' := hm'.size
      have hnI := iter_own_ne hit hown
      have hown4 : OwnS rowC 5 (w'.alloc (.cells #[.string x0, .string x1, .string x2] 41)) 63 u3 (outM (smc lm) dn) := (hown.mod hm' (fun k hk e => hnI (by rw [hk, show k = B from e]))).mod (S := fun _ => False) ((Mod.refl _ w').alloc _) (fun _ _ h => h)
      have hit4 := hit'.mod ((Mod.refl (fun _ => False) w').alloc (.cells #[.string x0, .string x1, .string x2] 41)) (fun h => h) (fun h => h)
      have hb4 : Below B w (w'.alloc (.cells #[.string x0, .string x1, .string x2] 41)) := (hbel.trans (hm'.to_below (by omega) (fun k hk => by rw [show k = B from hk]; exact Nat.le_refl _))).alloc (by omega) _
      have hT4 := block_new w' (.cells #[.string x0, .string x1, .string x2] 41)
      have hs4 : (w'.alloc (.cells #[.string x0, .string x1, .string x2] 41)).heap.size = S + 1 := by rw [World.size_alloc, hS]
      rw [hS] at hT4
      obtain ⟨W4, hW4⟩ : ∃ W4, w'.alloc (.cells #[.string x0, .string x1, .string x2] 41) = W4 := ⟨_, rfl⟩
      rw [hW4] at hown4 hit4 hb4 hT4 hs4
      unfold encT tupC at hnx hen
      have HE := Lib.hid (And.intro hown4 (And.intro hit4 (And.intro hb4 (And.intro hT4 (And.intro hs4 (And.intro hwh (And.intro (show B + 1 ≤ S by omega) (And.intro hown0 (And.intro hn (And.intro hao (And.intro hbound (And.intro hcat (And.intro hdn2 (And.intro hdm2 (And.intro hlt hdg)))))))))))))))
      clear hown4 hit4 hb4 hT4 hs4 hwh hown0 hn hao hbound hcat hdn2 hdm2 hdg hs' hnI hown hit hit' hbel hsz hdn hdm hlt hm hm' hnd hL
      go_wp2
      clear hnx hen hW4 hS c
      go_loopg [3, 20] n (fun gg sv vi wx => ∃ t : Nat, t + gg = n ∧ vi = .int .i64 (t : Int) ∧ OwnS rowC 5 wx 63 sv (outM (smc lm) dn ++ rowsOf (x0, x1, x2) (L.take t)) ∧ IterIs wx B M encT (smv lm) (dn ++ [((x0, x1, x2), Value.slice ao n cp)]) ∧ Below B w wx ∧ S + 1 ≤ wx.heap.size ∧ (∀ k, sv.ownBlock = some k → B + 1 ≤ k) ∧ wx.heap[S]? = some (.cells #[.string x0, .string x1, .string x2] 41 (0, 0)))
      case atStart => exact ⟨0, by omega, rfl, by simpa [rowsOf] using HE.out.1, HE.out.2.1, HE.out.2.2.1, by have := HE.out.2.2.2.2.1; omega, HE.out.2.2.2.2.2.1, HE.out.2.2.2.1⟩
      case round =>
        obtain ⟨t, htg, rfl, iown, iit, ibel, isz, iwh, iT⟩ := hrel
        by_cases hg : gk = 0
        · have ht : t = n := by omega
          have hk0 : ¬ ((t : Int) < (n : Int)) := by omega
          rw [List.take_of_length_le (by rw [HE.out.2.2.2.2.2.2.2.2.1]; omega)] at iown
          have HI := Lib.hid (And.intro iown (And.intro iit (And.intro ibel (And.intro isz iwh))))
          clear iown iit ibel isz iwh iT htg hg ht
          go_wp2
          go_roundg ((smv lm).length - (dn.length + 1))
          case measure => obtain ⟨e1, e2, e3, e4, e5, e6, e7, e8, e9, e10, e11, e12, e13, e14, e15, e16⟩ := HE.out; omega
          case rel =>
            obtain ⟨i1, i2, i3, i4, i5⟩ := HI.out
            obtain ⟨e1, e2, e3, e4, e5, e6, e7, e8, e9, e10, e11, e12, e13, e14, e15, e16⟩ := HE.out
            refine ⟨dn ++ [((x0, x1, x2), Value.slice ao n cp)], ?_, e13, e14, by rw [e12]; exact i1, i2, i3, by omega, i5⟩
            rw [List.length_append, List.length_singleton]
            omega
        · have htn : t < n := by omega
          have hti : (t : Int) < (n : Int) := by omega
          obtain ⟨g, rfl⟩ := HE.out.2.2.2.2.2.2.2.2.2.1 (by omega)
          obtain ⟨x, hx⟩ : ∃ x, L[t]? = some x := ⟨_, List.getElem?_eq_getElem (by rw [HE.out.2.2.2.2.2.2.2.2.1]; exact htn)⟩
          have hrange := HE.out.2.2.2.2.2.2.2.1.range spanC_len hx
          have hgl := HE.out.2.2.2.2.2.2.2.1.lt
          rw [HH.out.2.2.2.2.2.2] at hgl
          have hrange2 : wr.rangeAt g (t * 2) (spanC x) := range_below hrange ibel hgl
          have htake := rowsOf_take (x0, x1, x2) L hx
          obtain ⟨xa, xb⟩ := x
          have hlen : (outM (smc lm) dn ++ rowsOf (x0, x1, x2) (L.take t)).length = (outM (smc lm) dn).length + t := by
            unfold rowsOf
            rw [List.length_append, List.length_map, List.length_take, HE.out.2.2.2.2.2.2.2.2.1]
            omega
          have hti2 : (t : Int) < 9223372036854775807 := by
            have h1 := HE.out.2.2.2.2.2.2.2.2.2.2.1
            have h2 := HH.out.2.1
            omega
          have HI := Lib.hid (And.intro iown (And.intro iit (And.intro ibel (And.intro isz (And.intro iwh (And.intro iT (And.intro htake (And.intro hrange2 (And.intro htg (And.intro htn hlen))))))))))
          clear iown iit ibel isz iwh iT htake hrange hrange2 htg htn hg hx hlen hgl
          go_upto_region 8 with (first
            | (refine wpList_load_mid rfl 119 (.tmp 22) rfl g (t * 2) rfl (spanC (xa, xb)) _ HI.out.2.2.2.2.2.2.2.1 Tryz.underlying119 rfl infoSpan ?_; unfold spanC))
          obtain ⟨Q, hQ⟩ : ∃ Q, wr.heap.size = Q := ⟨_, rfl⟩
          have hQb := block_new wr (.cells #[.int .i64 xa, .int .i64 xb] 119)
          have m6 : Mod (fun _ => False) wr (wr.alloc (.cells #[.int .i64 xa, .int .i64 xb] 119)) := (Mod.refl _ wr).alloc _
          have s6 : (wr.alloc (.cells #[.int .i64 xa, .int .i64 xb] 119)).heap.size = Q + 1 := by rw [World.size_alloc, hQ]
          rw [hQ] at hQb ⊢
          generalize hW6 : wr.alloc (.cells #[.int .i64 xa, .int .i64 xb] 119) = W6 at *
          have m7 : Mod (fun _ => False) wr (W6.alloc (.cells #[.string x0, .string x1, .string x2, .int .i64 xa, .int .i64 xb] 63)) := m6.alloc _
          have hT6 := m6.old HI.out.2.2.2.2.2.1 id
          have y0 : W6.cell? ⟨S, 0, none⟩ = some (.string x0) := cell_of hT6 rfl
          have y1 : W6.cell? ⟨S, 1, none⟩ = some (.string x1) := cell_of hT6 rfl
          have y2 : W6.cell? ⟨S, 2, none⟩ = some (.string x2) := cell_of hT6 rfl
          have z0 : W6.cell? ⟨Q, 0, none⟩ = some (.int .i64 xa) := cell_of hQb rfl
          have z1 : W6.cell? ⟨Q, 1, none⟩ = some (.int .i64 xb) := cell_of hQb rfl
          have hroom : ((outM (smc lm) dn ++ rowsOf (x0, x1, x2) (L.take t)).length + 1) * 64 ≤ 140737488355328 := by
            have h1 := HI.out.2.2.2.2.2.2.2.2.2.2
            have h2 := HE.out.2.2.2.2.2.2.2.2.2.2.1
            have h3 := HI.out.2.2.2.2.2.2.2.2.2.1
            refine Nat.le_trans (Nat.mul_le_mul_right 64 ?_) HH.out.2.1
            omega
          have hroom2 : (outM (smc lm) dn ++ rowsOf (x0, x1, x2) (L.take t)).length + 1 ≤ maxLen := by
            unfold maxLen
            omega
          have HJ := Lib.hid (And.intro (HI.out.1.mod m7 (fun _ _ h => h)) (And.intro (block_new W6 (.cells #[.string x0, .string x1, .string x2, .int .i64 xa, .int .i64 xb] 63)) (And.intro hroom (And.intro hroom2 (And.intro m7 (And.intro s6 hQ))))))
          clear hQb m6 m7 hT6 hW6 hQ hroom hroom2 s6
          go_wp2_with (first
            | (at_builtin; refine wpList_push (f := rowC) (c := 5) (bytes := 64) (v := u3) (l := outM (smc lm) dn ++ rowsOf (x0, x1, x2) (L.take t)) elemRow rfl (.tmp 24) (.tmp 31) rfl rfl HJ.out.1 W6.heap.size ((x0, x1, x2), xa, xb) rfl HJ.out.2.1 HJ.out.2.2.1 HJ.out.2.2.2.1 ?_))
          intro v7 w7 hown7 hm7 hb7
          have HK := Lib.hid (And.intro hown7 (And.intro hm7 hb7))
          clear hown7 hm7 hb7
          go_wp2
          go_roundg (gk - 1)
          case measure => have := HI.out.2.2.2.2.2.2.2.2.1; omega
          case rel =>
            obtain ⟨i1, i2, i3, i4, i5, i6, i7, i8, i9, i10, i11⟩ := HI.out
            obtain ⟨j1, j2, j3, j4, j5, j6, j7⟩ := HJ.out
            obtain ⟨k1, k2, k3⟩ := HK.out
            have hs7 := k2.size
            have e7 : (W6.alloc (.cells #[.string x0, .string x1, .string x2, .int .i64 xa, .int .i64 xb] 63)).heap.size = Q + 2 := by rw [World.size_alloc, j6]
            have h10 := HE.out.2.2.2.2.2.2.1
            refine ⟨t + 1, by omega, by go_num, by rw [i7]; first | exact k1 | (rw [← List.append_assoc]; exact k1), (i2.mod j5 id id).mod k2 (fun e => MapIs.own_ne (IterIs.map (i2.mod j5 id id)) j1 e.symm) (fun e => iter_own_ne (i2.mod j5 id id) j1 e.symm), (i3.trans (j5.to_below (by omega) (fun _ h => h.elim))).trans (k2.to_below (by omega) (fun k hk => by have := i5 k hk.symm; omega)), by omega, fun k hk => ?_, ?_⟩
            · rcases k3 k hk with h | h
              · exact i5 k h
              · omega
            · exact k2.old (j5.old i6 id) (fun e => own_ne i1 i6 (by decide) e.symm)
end
end Go.Proofs.YtojjnfhgldjgbaaGreatDoor.Store
end
section
set_option linter.unusedVariables false
set_option linter.unusedSimpArgs false
namespace Go.Proofs.YtojjnfhgldjgbaaGreatDoor.Store
open Go.RowKit Go.Por Go.Sort Go.Proofs.YtojjnfhgldjgbaaGreatDoor.Watch Go.Por.Tupl
/-- What a check that passes gives. -/
theorem checkL_ok {sp : Sp} {wm rev : Int} : ∀ {muts : List Mut} {seen : List Tup}, checkL sp wm rev seen muts = 0 →
    (∀ m ∈ muts, tchk m.2 = 0 ∧ m.2 ∉ seen ∧ lastOf (aget sp m.2) < rev ∧ wm < rev) ∧ (muts.map (·.2)).Nodup
  | [], seen, _ => ⟨fun m hm => (by cases hm), List.nodup_nil⟩
  | m :: ms, seen, h => by
    unfold checkL at h
    by_cases h1 : tchk m.2 = 0
    · rw [if_neg (by simpa using h1)] at h
      by_cases h2 : tin m.2 seen = true
      · rw [if_pos h2] at h; cases h
      · rw [if_neg h2] at h
        by_cases h3 : rev ≤ lastOf (aget sp m.2) ∨ rev ≤ wm
        · rw [if_pos h3] at h; cases h
        · rw [if_neg h3] at h
          obtain ⟨i1, i2⟩ := checkL_ok h
          have n1 : m.2 ∉ seen := fun k => h2 (tin_iff.2 k)
          refine ⟨fun x hx => ?_, ?_⟩
          · rcases List.mem_cons.1 hx with rfl | hx
            · exact ⟨h1, n1, by omega, by omega⟩
            · obtain ⟨j1, j2, j3, j4⟩ := i1 x hx
              exact ⟨j1, fun k => j2 (List.mem_append_left _ k), j3, j4⟩
          · rw [List.map_cons, List.nodup_cons]
            refine ⟨fun k => ?_, i2⟩
            obtain ⟨x, hx, e⟩ := List.mem_map.1 k
            exact (i1 x hx).2.1 (by rw [e]; exact List.mem_append_right _ (List.mem_singleton.2 rfl))
    · rw [if_pos h1] at h
      exact absurd h h1
theorem checkA_ok {sp : Sp} {wm rev : Int} {muts : List Mut} (h : checkA sp wm rev muts = 0) : 1 ≤ rev ∧ rev ≤ maxRev ∧ (∀ m ∈ muts, tchk m.2 = 0 ∧ lastOf (aget sp m.2) < rev ∧ wm < rev) ∧ (muts.map (·.2)).Nodup := by
  unfold checkA at h
  by_cases h1 : rev < 1 ∨ maxRev < rev
  · rw [if_pos h1] at h; cases h
  · rw [if_neg h1] at h
    obtain ⟨i1, i2⟩ := checkL_ok h
    exact ⟨by omega, by omega, fun m hm => ⟨(i1 m hm).1, (i1 m hm).2.2⟩, i2⟩
/-- One mutation's step at a tuple's spans. -/
def stepL (rev : Int) (d : Bool) (l : List Span) : List Span := if d = true then (if thereOf l = true then shutL l rev else l) else (if thereOf l = true then l else l ++ [(rev, 0)])
theorem aget_stepA {rev : Int} {sp : Sp} (hn : (sp.map Prod.fst).Nodup) (m : Mut) (q : Tup) : aget (stepA rev sp m) q = if q = m.2 then stepL rev m.1 (aget sp m.2) else aget sp q := by
  unfold stepA stepL
  by_cases h1 : m.1 = true
  · rw [if_pos h1, if_pos h1]
    by_cases h2 : thereOf (aget sp m.2) = true
    · rw [if_pos h2, if_pos h2, aget_gput hn]
    · rw [if_neg h2, if_neg h2]
      by_cases h3 : q = m.2
      · rw [if_pos h3, h3]
      · rw [if_neg h3]
  · rw [if_neg h1, if_neg h1]
    by_cases h2 : thereOf (aget sp m.2) = true
    · rw [if_pos h2, if_pos h2]
      by_cases h3 : q = m.2
      · rw [if_pos h3, h3]
      · rw [if_neg h3]
    · rw [if_neg h2, if_neg h2, aget_gput hn]
theorem stepA_nodup {rev : Int} {sp : Sp} (hn : (sp.map Prod.fst).Nodup) (m : Mut) : ((stepA rev sp m).map Prod.fst).Nodup := by
  unfold stepA
  split <;> split
  · exact gput_nodup hn _ _
  · exact hn
  · exact hn
  · exact gput_nodup hn _ _
theorem applyA_nodup {rev : Int} : ∀ (muts : List Mut) {sp : Sp}, (sp.map Prod.fst).Nodup → ((applyA rev sp muts).map Prod.fst).Nodup
  | [], _, h => h
  | m :: ms, _, h => applyA_nodup ms (stepA_nodup h m)
/-- Mutations of unlike tuples: each tuple's spans behind them. -/
theorem aget_applyA {rev : Int} : ∀ (muts : List Mut) {sp : Sp}, (sp.map Prod.fst).Nodup → (muts.map (·.2)).Nodup → ∀ q, aget (applyA rev sp muts) q = match muts.find? (fun m => decide (m.2 = q)) with
    | none => aget sp q
    | some m => stepL rev m.1 (aget sp q)
  | [], sp, _, _, q => rfl
  | m :: ms, sp, hn, hd, q => by
    rw [List.map_cons, List.nodup_cons] at hd
    have ih := aget_applyA (rev := rev) ms (stepA_nodup (rev := rev) hn m) hd.2 q
    show aget (applyA rev (stepA rev sp m) ms) q = _
    rw [ih, List.find?_cons]
    by_cases hq : m.2 = q
    · rw [decide_eq_true hq]
      have hnone : ms.find? (fun m => decide (m.2 = q)) = none := by
        rw [List.find?_eq_none]
        intro x hx k
        have e : x.2 = q := of_decide_eq_true k
        exact hd.1 (List.mem_map.2 ⟨x, hx, by rw [e, hq]⟩)
      rw [hnone]
      simp only
      rw [aget_stepA hn, if_pos hq.symm, hq]
    · rw [decide_eq_false hq]
      simp only
      rw [aget_stepA hn, if_neg (fun e => hq e.symm)]
theorem lastOf_snoc' (P : List Span) (x : Span) : lastOf (P ++ [x]) = max x.1 x.2 := by unfold lastOf; rw [List.getLast?_concat]
theorem thereOf_snoc' (P : List Span) (x : Span) : thereOf (P ++ [x]) = decide (x.2 = 0) := by unfold thereOf; rw [List.getLast?_concat]
theorem shutL_snoc' (P : List Span) (x : Span) (rev : Int) : shutL (P ++ [x]) rev = P ++ [(x.1, rev)] := by
  unfold shutL
  rw [List.getLast?_concat, Option.getD_some, List.length_append, List.length_singleton, Nat.add_sub_cancel]
  rw [List.set_append_right _ _ (Nat.le_refl _), Nat.sub_self]
  rfl
theorem chain_step {l : List Span} (h : Chain l) {rev : Int} (h1 : lastOf l < rev) (h2 : 1 ≤ rev) (h3 : rev ≤ maxRev) (d : Bool) : Chain (stepL rev d l) := by
  rcases List.eq_nil_or_concat l with rfl | ⟨P, x, rfl⟩
  · unfold stepL
    have e : thereOf [] = false := rfl
    rw [e]
    cases d with
    | true => exact h
    | false =>
      refine ⟨fun x hx => ?_, List.pairwise_singleton _ _⟩
      have : x = (rev, 0) := by simpa using hx
      subst this
      exact ⟨h2, h3, .inl rfl⟩
  · rw [List.concat_eq_append] at h h1 ⊢
    rw [lastOf_snoc'] at h1
    have hx := h.each x (List.mem_append_right _ (List.mem_singleton.2 rfl))
    have hp := List.pairwise_append.1 h.next
    unfold stepL
    rw [thereOf_snoc']
    by_cases hz : x.2 = 0
    · rw [decide_eq_true hz]
      cases d with
      | true =>
        rw [if_pos rfl, if_pos rfl, shutL_snoc']
        refine ⟨fun y hy => ?_, List.pairwise_append.2 ⟨hp.1, List.pairwise_singleton _ _, fun a ha b hb => ?_⟩⟩
        · rcases List.mem_append.1 hy with hy | hy
          · exact h.each y (List.mem_append_left _ hy)
          · have : y = (x.1, rev) := by simpa using hy
            subst this
            exact ⟨hx.1, hx.2.1, .inr ⟨by show x.1 < rev; omega, h3⟩⟩
        · have : b = (x.1, rev) := by simpa using hb
          subst this
          exact hp.2.2 a ha x (List.mem_singleton.2 rfl)
      | false =>
        rw [if_neg (by intro k; cases k), if_pos rfl]
        exact h
    · rw [decide_eq_false hz]
      cases d with
      | true =>
        rw [if_pos rfl, if_neg (by intro k; cases k)]
        exact h
      | false =>
        rw [if_neg (by intro k; cases k), if_neg (by intro k; cases k)]
        refine ⟨fun y hy => ?_, List.pairwise_append.2 ⟨h.next, List.pairwise_singleton _ _, fun a ha b hb => ?_⟩⟩
        · rcases List.mem_append.1 hy with hy | hy
          · exact h.each y hy
          · have : y = (rev, 0) := by simpa using hy
            subst this
            exact ⟨h2, h3, .inl rfl⟩
        · have : b = (rev, 0) := by simpa using hb
          subst this
          rcases List.mem_append.1 ha with ha | ha
          · have k := hp.2.2 a ha x (List.mem_singleton.2 rfl)
            exact ⟨k.1, by show a.2 < rev; omega⟩
          · have : a = x := by simpa using ha
            subst this
            exact ⟨hz, by show a.2 < rev; omega⟩
/-- One step of a checked mutation keeps a store good. -/
theorem good_step {sp : Sp} (h : Good sp) {rev : Int} {m : Mut} (h1 : lastOf (aget sp m.2) < rev) (h2 : 1 ≤ rev) (h3 : rev ≤ maxRev) : Good (stepA rev sp m) := by
  have hc := chain_step (h.chain m.2) h1 h2 h3 m.1
  unfold stepL at hc
  unfold stepA
  by_cases d : m.1 = true
  · rw [if_pos d] at hc ⊢
    by_cases e : thereOf (aget sp m.2) = true
    · rw [if_pos e] at hc ⊢
      refine h.put _ (fun k => ?_) hc
      have hne : aget sp m.2 ≠ [] := fun k2 => by rw [k2] at e; cases e
      have := congrArg List.length k
      unfold shutL at this
      rw [List.length_set] at this
      exact hne (List.length_eq_zero_iff.1 this)
    · rw [if_neg e]; exact h
  · rw [if_neg d] at hc ⊢
    by_cases e : thereOf (aget sp m.2) = true
    · rw [if_pos e]; exact h
    · rw [if_neg e] at hc ⊢
      exact h.put _ (by simp) hc
theorem good_applyA {rev : Int} (h2 : 1 ≤ rev) (h3 : rev ≤ maxRev) : ∀ (muts : List Mut) {sp : Sp}, Good sp → (∀ m ∈ muts, lastOf (aget sp m.2) < rev) → (muts.map (·.2)).Nodup → Good (applyA rev sp muts)
  | [], _, h, _, _ => h
  | m :: ms, sp, h, hl, hd => by
    rw [List.map_cons, List.nodup_cons] at hd
    refine good_applyA h2 h3 ms (good_step h (hl m List.mem_cons_self) h2 h3) (fun x hx => ?_) hd.2
    rw [aget_stepA h.nodup, if_neg (fun e => hd.1 (List.mem_map.2 ⟨x, hx, e⟩))]
    exact hl x (List.mem_cons_of_mem _ hx)
end Go.Proofs.YtojjnfhgldjgbaaGreatDoor.Store
end
section
set_option linter.unusedVariables false
set_option linter.unusedSimpArgs false
namespace Go.Proofs.YtojjnfhgldjgbaaGreatDoor.Store
open Go.RowKit Go.Por Go.Sort Go.Proofs.YtojjnfhgldjgbaaGreatDoor.Watch Go.Por.Tupl
section
variable {κ α : Type} [DecidableEq κ]
theorem aget_cons (e : κ × List α) (l : List (κ × List α)) (k : κ) : aget (e :: l) k = if e.1 = k then e.2 else aget l k := by
  unfold aget gfind
  rw [List.find?_cons]
  by_cases h : e.1 = k
  · rw [decide_eq_true h, if_pos h]; rfl
  · rw [decide_eq_false h, if_neg h]
theorem aget_gput' {l : List (κ × List α)} (hn : (l.map Prod.fst).Nodup) (k : κ) (v : List α) (q : κ) : aget (gput l k v) q = if q = k then v else aget l q := by
  unfold aget
  rw [gfind_gput hn]
  by_cases h : q = k
  · rw [if_pos h, if_pos h]; rfl
  · rw [if_neg h, if_neg h]
theorem gput_cons {e : κ × List α} {l : List (κ × List α)} (hn : ((e :: l).map Prod.fst).Nodup) (k : κ) (v : List α) : gput (e :: l) k v = if e.1 = k then (k, v) :: l else e :: gput l k v := by
  rw [List.map_cons, List.nodup_cons] at hn
  unfold gput
  by_cases h : e.1 = k
  · rw [if_pos h, if_pos (by rw [List.map_cons, h]; exact List.mem_cons_self), List.map_cons, if_pos h]
    congr 1
    conv => rhs; rw [← List.map_id l]
    apply List.map_congr_left
    intro p hp
    rw [if_neg (fun e2 => hn.1 (by rw [h, ← e2]; exact List.mem_map_of_mem hp))]
    rfl
  · rw [if_neg h]
    by_cases hk : k ∈ l.map Prod.fst
    · rw [if_pos (by rw [List.map_cons]; exact List.mem_cons_of_mem _ hk), if_pos hk, List.map_cons, if_neg h]
    · rw [if_neg (by rw [List.map_cons, List.mem_cons]; exact fun k2 => k2.elim (fun e2 => h e2.symm) hk), if_neg hk]
      rfl
end
theorem flat_put_len : ∀ {sp : Sp}, (sp.map Prod.fst).Nodup → ∀ (t : Tup) (l : List Span), (flatA (gput sp t l)).length + (aget sp t).length = (flatA sp).length + l.length
  | [], _, t, l => by
    show (flatA [(t, l)]).length + 0 = 0 + l.length
    unfold flatA
    simp
  | e :: sp, hn, t, l => by
    rw [gput_cons hn, aget_cons]
    have hn' := hn
    rw [List.map_cons, List.nodup_cons] at hn'
    have c : ∀ (x : Tup × List Span) (s : Sp), (flatA (x :: s)).length = x.2.length + (flatA s).length := fun x s => by
      unfold flatA
      rw [List.flatMap_cons, List.length_append, List.length_map]
    by_cases h : e.1 = t
    · rw [if_pos h, if_pos h, c, c]
      show l.length + _ + _ = _
      omega
    · rw [if_neg h, if_neg h, c, c]
      have := flat_put_len hn'.2 t l
      omega
theorem flat_stepA {sp : Sp} (hn : (sp.map Prod.fst).Nodup) (rev : Int) (m : Mut) : (flatA (stepA rev sp m)).length ≤ (flatA sp).length + 1 := by
  unfold stepA
  split <;> split
  · have := flat_put_len hn m.2 (shutL (aget sp m.2) rev)
    rw [shutL_len] at this
    omega
  · omega
  · omega
  · have := flat_put_len hn m.2 (aget sp m.2 ++ [(rev, 0)])
    rw [List.length_append, List.length_singleton] at this
    omega
theorem flat_applyA {rev : Int} : ∀ (muts : List Mut) {sp : Sp}, (sp.map Prod.fst).Nodup → (flatA (applyA rev sp muts)).length ≤ (flatA sp).length + muts.length
  | [], sp, _ => Nat.le_refl _
  | m :: ms, sp, hn => by
    have h1 := flat_applyA (rev := rev) ms (stepA_nodup (rev := rev) hn m)
    have h2 := flat_stepA hn rev m
    rw [List.length_cons]
    show (flatA (applyA rev (stepA rev sp m) ms)).length ≤ _
    omega
theorem putC_nodup {κ : Type} [DecidableEq κ] {l : List (κ × List Tup)} (hn : (l.map Prod.fst).Nodup) (k : κ) (t : Tup) : ((putC l k t).map Prod.fst).Nodup := by
  unfold putC
  split
  · exact hn
  · exact gput_nodup hn _ _
theorem aget_putC {κ : Type} [DecidableEq κ] {l : List (κ × List Tup)} (hn : (l.map Prod.fst).Nodup) (k : κ) (t : Tup) (q : κ) :
    aget (putC l k t) q = if q = k then (if tin t (aget l k) = true then aget l k else aget l k ++ [t]) else aget l q := by
  unfold putC
  by_cases h : tin t (aget l k) = true
  · rw [if_pos h, if_pos h]
    by_cases e : q = k
    · rw [if_pos e, e]
    · rw [if_neg e]
  · rw [if_neg h, if_neg h, aget_gput' hn]
/-- A part of an index: each list has its key's tuples, each of them once. -/
structure Lists {κ : Type} [DecidableEq κ] (key : Tup → κ) (sp : Sp) (l : List (κ × List Tup)) : Prop where
  keys : (l.map Prod.fst).Nodup
  once : ∀ k, (aget l k).Nodup
  just : ∀ k t, t ∈ aget l k ↔ key t = k ∧ aget sp t ≠ []
section
variable {κ : Type} [DecidableEq κ] {key : Tup → κ} {sp : Sp} {l : List (κ × List Tup)}
theorem Lists.nil : Lists key [] [] := ⟨List.nodup_nil, fun k => List.nodup_nil, fun k t => ⟨fun h => (by cases h), fun h => absurd rfl h.2⟩⟩
theorem Lists.congr {sp' : Sp} (h : Lists key sp l) (e : ∀ q, aget sp' q ≠ [] ↔ aget sp q ≠ []) : Lists key sp' l :=
  ⟨h.keys, h.once, fun k t => by rw [h.just, e]⟩
theorem Lists.add (h : Lists key sp l) (hn : (sp.map Prod.fst).Nodup) (t : Tup) {x : List Span} (hx : x ≠ []) : Lists key (gput sp t x) (putC l (key t) t) := by
  refine ⟨putC_nodup h.keys _ _, fun k => ?_, fun k q => ?_⟩
  · rw [aget_putC h.keys]
    by_cases e : k = key t
    · rw [if_pos e]
      by_cases hi : tin t (aget l (key t)) = true
      · rw [if_pos hi]; exact h.once _
      · rw [if_neg hi, List.nodup_append]
        refine ⟨h.once _, by simp, fun a ha b hb => ?_⟩
        rw [List.mem_singleton] at hb
        subst hb
        intro e2
        subst e2
        exact hi (tin_iff.2 ha)
    · rw [if_neg e]; exact h.once _
  · rw [aget_putC h.keys, aget_gput hn]
    by_cases e : k = key t
    · rw [if_pos e]
      by_cases e2 : q = t
      · rw [if_pos e2]
        subst e2
        refine ⟨fun _ => ⟨e.symm, hx⟩, fun _ => ?_⟩
        by_cases hi : tin q (aget l (key q)) = true
        · rw [if_pos hi]; exact tin_iff.1 hi
        · rw [if_neg hi]; exact List.mem_append_right _ (List.mem_singleton.2 rfl)
      · rw [if_neg e2, ← h.just, e]
        by_cases hi : tin t (aget l (key t)) = true
        · rw [if_pos hi]
        · rw [if_neg hi, List.mem_append, List.mem_singleton]
          exact ⟨fun k => k.elim id (fun k => absurd k e2), .inl⟩
    · rw [if_neg e, h.just]
      by_cases e2 : q = t
      · rw [if_pos e2]
        subst e2
        exact ⟨fun k => absurd k.1.symm e, fun k => absurd k.1.symm e⟩
      · rw [if_neg e2]
end
/-- What a store is: good, with the indices of its tuples. -/
structure Inv (x : St3) : Prop where
  good : Good x.1
  ob : Lists (fun t : Tup => (t.1, t.2.1)) x.1 x.2.1
  us : Lists (fun t : Tup => t.2.2) x.1 x.2.2
theorem Inv.nil : Inv ([], [], []) := ⟨Good.nil, Lists.nil, Lists.nil⟩
theorem Inv.step {x : St3} (h : Inv x) {rev : Int} {m : Mut} (h1 : lastOf (aget x.1 m.2) < rev) (h2 : 1 ≤ rev) (h3 : rev ≤ maxRev) : Inv (step3 rev x m) := by
  have hg := good_step h.good h1 h2 h3
  rw [← step3_fst] at hg
  refine ⟨hg, ?_, ?_⟩ <;> clear hg
  all_goals
    unfold step3
    split <;> split
  · rename_i hd ht
    refine h.ob.congr (fun q => ?_)
    rw [aget_gput h.good.nodup]
    by_cases e : q = m.2
    · rw [if_pos e, e]
      constructor
      · intro k k2
        exact k (List.length_eq_zero_iff.1 (by rw [shutL_len, k2]; rfl))
      · intro k k2
        exact k (List.length_eq_zero_iff.1 (by rw [← shutL_len _ rev, k2]; rfl))
    · rw [if_neg e]
  · exact h.ob
  · exact h.ob
  · exact h.ob.add h.good.nodup m.2 (by simp)
  · rename_i hd ht
    refine h.us.congr (fun q => ?_)
    rw [aget_gput h.good.nodup]
    by_cases e : q = m.2
    · rw [if_pos e, e]
      constructor
      · intro k k2
        exact k (List.length_eq_zero_iff.1 (by rw [shutL_len, k2]; rfl))
      · intro k k2
        exact k (List.length_eq_zero_iff.1 (by rw [← shutL_len _ rev, k2]; rfl))
    · rw [if_neg e]
  · exact h.us
  · exact h.us
  · exact h.us.add h.good.nodup m.2 (by simp)
theorem Inv.apply {rev : Int} (h2 : 1 ≤ rev) (h3 : rev ≤ maxRev) : ∀ (muts : List Mut) {x : St3}, Inv x → (∀ m ∈ muts, lastOf (aget x.1 m.2) < rev) → (muts.map (·.2)).Nodup → Inv (apply3 rev x muts)
  | [], _, h, _, _ => h
  | m :: ms, x, h, hl, hd => by
    rw [List.map_cons, List.nodup_cons] at hd
    refine Inv.apply h2 h3 ms (h.step (hl m List.mem_cons_self) h2 h3) (fun y hy => ?_) hd.2
    rw [step3_fst, aget_stepA h.good.nodup, if_neg (fun e => hd.1 (List.mem_map.2 ⟨y, hy, e⟩))]
    exact hl y (List.mem_cons_of_mem _ hy)
/-- A call of Apply. -/
def run3 (wm rev : Int) (x : St3) (muts : List Mut) : St3 := if checkA x.1 wm rev muts = 0 then apply3 rev x muts else x
theorem Inv.run {x : St3} (h : Inv x) (wm rev : Int) (muts : List Mut) : Inv (run3 wm rev x muts) := by
  unfold run3
  by_cases hc : checkA x.1 wm rev muts = 0
  · rw [if_pos hc]
    obtain ⟨h1, h2, h3, h4⟩ := checkA_ok hc
    exact h.apply h1 h2 muts (fun m hm => (h3 m hm).2.1) h4
  · rw [if_neg hc]; exact h
theorem flat_bounds {sp : Sp} (h : Good sp) : ∀ r ∈ flatA sp, 1 ≤ r.2.1 ∧ r.2.1 ≤ maxRev ∧ (r.2.2 = 0 ∨ (r.2.1 < r.2.2 ∧ r.2.2 ≤ maxRev)) := fun r hr => by
  have h1 := (mem_flat_get h).1 hr
  exact (h.chain r.1).each _ h1
end Go.Proofs.YtojjnfhgldjgbaaGreatDoor.Store
end
section
set_option linter.unusedVariables false
set_option linter.unusedSimpArgs false
namespace Go.Proofs.YtojjnfhgldjgbaaGreatDoor.Store
open Go.RowKit Go.Por Go.Sort Go.Proofs.YtojjnfhgldjgbaaGreatDoor.Watch Go.Por.Tupl
/-- How many mutations there are. -/
def total (l : List (List Mut)) : Nat := (l.map List.length).sum
end Go.Proofs.YtojjnfhgldjgbaaGreatDoor.Store
end
section
set_option linter.unusedVariables false
set_option linter.unusedSimpArgs false
namespace Go.Proofs.YtojjnfhgldjgbaaGreatDoor.Store
open Go.RowKit Go.Por Go.Sort Go.Proofs.YtojjnfhgldjgbaaGreatDoor.Watch Go.Por.Tupl
/-- Lists of mutations that came in. -/
structure ScriptIs (w : World) (v : Value) (ms : List (Value × List Mut)) : Prop where
  rd : ReadS (fun x : Value × List Mut => [x.1]) 1 w v ms
  each : ∀ x ∈ ms, ReadS mutC 4 w x.1 x.2 ∧ ∀ m ∈ x.2, TupOk m.2
  tot : total (ms.map (·.2)) ≤ 1048576
  len : ms.length ≤ 1048576
theorem read_below {α : Type} {f : α → List Value} {c : Nat} {w w' : World} {v : Value} {l : List α} (h : ReadS f c w v l) (hc : 0 < c) (hl : ∀ x, (f x).length = c) (hb : Below w.heap.size w w') : ReadS f c w' v l :=
  h.mod hc hl (Mod.of_below hb (fun _ => False)) (fun _ _ h => h)
theorem ScriptIs.below {w w' : World} {v : Value} {ms : List (Value × List Mut)} (h : ScriptIs w v ms) (hb : Below w.heap.size w w') : ScriptIs w' v ms :=
  ⟨read_below h.rd (by decide) (fun _ => rfl) hb, fun x hx => ⟨read_below (h.each x hx).1 (by decide) mutC_len hb, (h.each x hx).2⟩, h.tot, h.len⟩
end Go.Proofs.YtojjnfhgldjgbaaGreatDoor.Store
end
section
set_option linter.unusedVariables false
set_option linter.unusedSimpArgs false
namespace Go.Proofs.YtojjnfhgldjgbaaGreatDoor.Store
open Go.RowKit Go.Por Go.ChangeShapes Go.WideShapes Go.Proofs.YtojjnfhgldjgbaaGreatDoor.Watch
section
variable {H : Type} {enc : TypeId × Value → H} {w : World} {spare : Nat → Bool} {held : Bool}
theorem bulk_sum {α : Type} (wt : α → Nat) : ∀ (xs : List α) (ds : List (DataW H)), xs.length = ds.length → (∀ (i : Nat) x d, xs[i]? = some x → ds[i]? = some d → wt x ≤ Rows.uptoBulk d) → (xs.map wt).sum ≤ Rows.uptoBulkAll ds
  | [], [], _, _ => Nat.zero_le _
  | [], _ :: _, h, _ => by simp at h
  | _ :: _, [], h, _ => by simp at h
  | x :: xs, d :: ds, h, k => by
    have h1 := bulk_sum wt xs ds (by simpa using h) (fun i x d a b => k (i + 1) x d (by simpa using a) (by simpa using b))
    have h2 := k 0 x d rfl rfl
    rw [List.map_cons, List.sum_cons]
    simp only [Rows.uptoBulkAll]
    omega
theorem open_SliceB {α : Type} {c : Nat} {R : World → List Value → α → Prop} {wt : α → Nat} {t e : TypeId} {fuel : Nat} {cs : List Value} {y : DataW H × List MemPlace} (ht : Tryz.prog.underlying t = some (.slice e)) (hc : Tryz.prog.cellsOf e = c) (hc0 : 0 < c)
    (hR : ∀ fuel cs y, DataW.trod enc Tryz.prog w 0 spare held fuel e cs = some y → ∃ x, R w cs x ∧ wt x ≤ Rows.uptoBulk y.1) (h : DataW.trod enc Tryz.prog w 0 spare held fuel t cs = some y) : ∃ v xs, cs = [v] ∧ SliceIs c R w v xs ∧ (xs.map wt).sum ≤ Rows.uptoBulk y.1 ∧ xs.length ≤ Rows.uptoBulk y.1 := by
  rcases Go.Deep.open_slice ht h with ⟨rfl, _⟩ | ⟨a, len, cap, m, n, D, Pl, rfl, _, hl, hm, hmm, hy, hx⟩
  · exact ⟨_, [], rfl, ⟨none, 0, rfl, by simp, by simp⟩, Nat.zero_le _, Nat.zero_le _⟩
  · have hlm : len ≤ m := by rw [hmm]; split <;> omega
    have each : ∀ i : Fin len, ∃ x : α, (∃ b o cs, (some a : Option Addr) = some ⟨b, o, none⟩ ∧ cs.length = c ∧ (∀ j u, cs[j]? = some u → w.cell? ⟨b, o + i.1 * c + j, none⟩ = some u) ∧ R w cs x) ∧ wt x ≤ Rows.uptoBulk (D i.1) := by
      intro i
      obtain ⟨cs', h1, h2⟩ := hx i.1 (by omega)
      obtain ⟨x, hxr, hxw⟩ := hR _ _ _ h2
      rw [hc] at h1
      obtain ⟨_, hlen, hcell⟩ := World.cells?_some h1
      obtain ⟨b, o, sp⟩ := a
      have hsp : sp = none := by
        cases sp with
        | none => rfl
        | some s =>
          obtain ⟨cs0, g1, _⟩ := hx 0 (by have := i.2; omega)
          rw [hc] at g1
          obtain ⟨_, glen, gcell⟩ := World.cells?_some g1
          have h0 := gcell 0 (by omega)
          have h3 : cs0[0]? = some cs0[0] := List.getElem?_eq_getElem (by omega)
          rw [h3] at h0
          simp only [Nat.zero_mul, Addr.add, if_true, World.cell?] at h0
          split at h0 <;> simp at h0
      subst hsp
      refine ⟨x, ⟨b, o, cs', rfl, hlen, fun j u hu => ?_, hxr⟩, hxw⟩
      have hj : j < c := by rw [← hlen]; exact (List.getElem?_eq_some_iff.1 hu).1
      have h0 := hcell j hj
      rw [Deep.add_add] at h0
      have e : (⟨b, o, none⟩ : Addr).add (i.1 * c + j) = ⟨b, o + i.1 * c + j, none⟩ := by
        unfold Addr.add
        split
        · rename_i e; rw [Nat.add_assoc, e, Nat.add_zero]
        · rw [Nat.add_assoc]
      rw [e, hu] at h0
      exact h0
    obtain ⟨F, hF⟩ := Classical.axiomOfChoice each
    have hat : ∀ i x, (List.ofFn F)[i]? = some x → ∃ hi : i < len, x = F ⟨i, hi⟩ := fun i x hx' => by
      have hi : i < len := by
        have := (List.getElem?_eq_some_iff.1 hx').1
        simpa using this
      refine ⟨hi, ?_⟩
      rw [List.getElem?_ofFn, dif_pos hi] at hx'
      exact (Option.some.inj hx').symm
    have hb := bulk_slice ((List.range len).map D) ((List.range (m - len)).map fun j => D (len + j))
    have hd : y.1 = .slice ((List.range len).map D) ((List.range (m - len)).map fun j => D (len + j)) := by rw [hy]
    rw [← hd] at hb
    have hsum := bulk_sum wt (List.ofFn F) ((List.range len).map D) (by simp) (fun i x d hx' hdd => by
      obtain ⟨hi, rfl⟩ := hat i x hx'
      rw [List.getElem?_map, List.getElem?_range hi] at hdd
      rw [← Option.some.inj hdd]
      exact (hF ⟨i, hi⟩).2)
    have hall : Rows.uptoBulkAll ((List.range len).map D) ≤ Rows.uptoBulk y.1 := by rw [hd]; simp only [Rows.uptoBulk]; omega
    refine ⟨_, List.ofFn F, rfl, ⟨some a, cap, by rw [List.length_ofFn], by rw [List.length_ofFn]; unfold maxLen at hm; omega, fun i x hx' => ?_⟩, Nat.le_trans hsum hall, by rw [List.length_ofFn]; simpa using hb⟩
    obtain ⟨hi, rfl⟩ := hat i x hx'
    exact (hF ⟨i, hi⟩).1
theorem read_of {α : Type} {f : α → List Value} {c : Nat} {v : Value} {l : List α} {Q : α → Prop} (h : SliceIs c (fun _ cs x => cs = f x ∧ Q x) w v l) : ReadS f c w v l ∧ ∀ x ∈ l, Q x := by
  obtain ⟨ao, cap, rfl, hl, he⟩ := h
  refine ⟨⟨ao, cap, rfl, hl, fun i x hx => ?_⟩, fun x hx => ?_⟩
  · obtain ⟨b, o, cs, h1, h2, h3, h4, _⟩ := he i x hx
    exact ⟨b, o, cs, h1, h2, h3, h4⟩
  · obtain ⟨i, hi⟩ := List.getElem?_of_mem hx
    obtain ⟨b, o, cs, h1, h2, h3, h4, h5⟩ := he i x hi
    exact h5
end
end Go.Proofs.YtojjnfhgldjgbaaGreatDoor.Store
end
