/- Ranging over a map that nobody writes meanwhile: each entry comes once, in some order. No program in sight. -/
import Derived.Test.YtojjnfhgldjgbaaDoorMap
set_option linter.unusedVariables false
set_option linter.unusedSimpArgs false
namespace Go.Por
open Go.RowKit Go.MapKept

/-- A list without repetitions whose members lie in another is a part of it. -/
theorem nodup_part {α : Type} [DecidableEq α] : ∀ {a b : List α}, a.Nodup → (∀ x ∈ a, x ∈ b) → ∃ c, b.Perm (a ++ c)
  | [], b, _, _ => ⟨b, .refl _⟩
  | x :: a, b, hn, hs => by
    rw [List.nodup_cons] at hn
    have hx : x ∈ b := hs x (by simp)
    obtain ⟨c, hc⟩ := nodup_part (a := a) (b := b.erase x) hn.2 (fun y hy => (List.mem_erase_of_ne (fun (e : y = x) => hn.1 (by rw [← e]; exact hy))).2 (hs y (by simp [hy])))
    exact ⟨c, (List.perm_cons_erase hx).trans (hc.cons x)⟩
theorem nodup_length {α : Type} [DecidableEq α] {a b : List α} (hn : a.Nodup) (hs : ∀ x ∈ a, x ∈ b) : a.length ≤ b.length := by
  obtain ⟨c, hc⟩ := nodup_part hn hs
  rw [hc.length_eq]; simp
theorem nodup_perm {α : Type} [DecidableEq α] {a b : List α} (hn : a.Nodup) (hs : ∀ x ∈ a, x ∈ b) (hl : b.length ≤ a.length) : a.Perm b := by
  obtain ⟨c, hc⟩ := nodup_part hn hs
  have : c = [] := by
    have := hc.length_eq
    simp at this
    exact List.length_eq_zero_iff.1 (by omega)
  subst this
  simpa using hc.symm

section
variable {P : Program} {kt et t : TypeId} {κ : Type} {enc : κ → Value} {w : World} {M I : Nat} {l : List (κ × Value)}

/-- Block I goes over the map of block M; 'done' has come already. -/
def IterIs (w : World) (I M : Nat) (enc : κ → Value) (l done : List (κ × Value)) : Prop :=
  ∃ es clock, w.heap[M]? = some (.map es clock) ∧ es.toList.map (fun e => (e.key, e.val)) = l.map (fun p => (enc p.1, p.2)) ∧ (l.map Prod.fst).Nodup ∧
    (∀ e ∈ es.toList, e.born < clock) ∧ (es.toList.map (·.born)).Nodup ∧
    ∃ idx : List Nat, idx.Nodup ∧ (∀ i ∈ idx, i < l.length) ∧ done.map some = idx.map (fun i => l[i]?) ∧
      ∃ seen : Array Nat, w.heap[I]? = some (.mapIter (some M) clock seen clock) ∧ seen.toList.map some = idx.map (fun i => (es.toList[i]?).map (·.born))

theorem IterIs.map {done : List (κ × Value)} (h : IterIs w I M enc l done) : MapIs w M enc l := by
  obtain ⟨es, clock, h1, h2, h3, h4, h5, _⟩ := h
  exact ⟨es, clock, h1, h2, h3, h4, h5⟩
theorem IterIs.ltI {done : List (κ × Value)} (h : IterIs w I M enc l done) : I < w.heap.size := by
  obtain ⟨es, clock, h1, h2, h3, h4, h5, idx, _, _, _, seen, hs, _⟩ := h
  exact lt_block hs
theorem IterIs.keep {done : List (κ × Value)} {w' : World} (h : IterIs w I M enc l done) (hM : w'.heap[M]? = w.heap[M]?) (hI : w'.heap[I]? = w.heap[I]?) : IterIs w' I M enc l done := by
  obtain ⟨es, clock, h1, h2, h3, h4, h5, idx, h6, h7, h8, seen, hs, h9⟩ := h
  exact ⟨es, clock, hM.trans h1, h2, h3, h4, h5, idx, h6, h7, h8, seen, hI.trans hs, h9⟩
theorem IterIs.mod {done : List (κ × Value)} {S : Nat → Prop} {w' : World} (h : IterIs w I M enc l done) (hm : Mod S w w') (h1 : ¬ S M) (h2 : ¬ S I) : IterIs w' I M enc l done :=
  h.keep (hm.block M h.map.lt h1) (hm.block I h.ltI h2)
theorem IterIs.le {done : List (κ × Value)} (h : IterIs w I M enc l done) : done.length ≤ l.length := by
  obtain ⟨es, clock, h1, h2, h3, h4, h5, idx, h6, h7, h8, _⟩ := h
  have e : done.length = idx.length := by simpa using congrArg List.length h8
  rw [e]
  have : idx.length ≤ (List.range l.length).length := by
    exact nodup_length h6 (fun i hi => List.mem_range.2 (h7 i hi))
  simpa using this

/-- 'range m'. -/
theorem MapIs.range (ht : P.underlying t = some (.map kt et)) (h : MapIs w M enc l) :
    ∃ o, (Instr.range t (.map (some M))).run P w = .ok (.pointer (some ⟨w.heap.size, 0, none⟩)) (w.alloc o) ∧ IterIs (w.alloc o) w.heap.size M enc l [] := by
  have hlt := h.lt
  obtain ⟨es, clock, hb, he, hn, hborn, hbn⟩ := h
  refine ⟨.mapIter (some M) clock #[] clock, by simp [Instr.range, run_underlying ht, MapKept.run_getObj_map hb, Result.andThen], ?_⟩
  exact ⟨es, clock, (Below.heap_alloc _ _ _ hlt).trans hb, he, hn, hborn, hbn, [], by simp, by simp, rfl, #[], block_new _ _, rfl⟩

theorem run_getObj_iter {m : Option Nat} {a b : Nat} {s : Array Nat} (hb : w.heap[I]? = some (.mapIter m a s b)) : (getObj I).run P w = .ok (.mapIter m a s b) w := by
  simp [getObj, Sem.run, hb]
theorem run_setObj_iter {m : Option Nat} {a b : Nat} {s : Array Nat} (o : Obj) (hb : w.heap[I]? = some (.mapIter m a s b)) : (setObj I o).run P w = .ok () (setB w I o) := by
  simp [setObj, Sem.run, hb, setB]

/-- The next entry: none is left, or some one that has not come yet. -/
theorem IterIs.next {done : List (κ × Value)} (h : IterIs w I M enc l done) :
    (done.length = l.length ∧ ∀ ty, (Instr.next (.pointer (some ⟨I, 0, none⟩)) false ty).run P w = .ok (.tuple #[.bool false]) w) ∨
    ∃ k v w', done.length < l.length ∧ (k, v) ∈ l ∧ (k, v) ∉ done ∧ (∀ ty, (Instr.next (.pointer (some ⟨I, 0, none⟩)) false ty).run P w = .ok (.tuple #[.bool true, enc k, v]) w') ∧
      IterIs w' I M enc l (done ++ [(k, v)]) ∧ Mod (fun x => x = I) w w' ∧ (Instr.entry (.pointer (some ⟨I, 0, none⟩))).run P w' = .ok (.tuple #[enc k, v]) w' := by
  obtain ⟨es, clock, hb, he, hn, hborn, hbn, idx, h6, h7, h8, seen, hs, h9⟩ := h
  have hlen : es.size = l.length := by simpa using congrArg List.length he
  have hdl : done.length = idx.length := by simpa using congrArg List.length h8
  have hMI : M ≠ I := by intro e; subst e; rw [hb] at hs; simp at hs
  -- what has been seen
  have hseen : ∀ (i : Nat) (e : MapEntry), es.toList[i]? = some e → (e.born ∈ seen.toList ↔ i ∈ idx) := by
    intro i e hi
    constructor
    · intro hm
      have : some e.born ∈ idx.map (fun i => (es.toList[i]?).map (·.born)) := by rw [← h9]; exact List.mem_map.2 ⟨_, hm, rfl⟩
      obtain ⟨j, hj, ej⟩ := List.mem_map.1 this
      cases hx : es.toList[j]? with
      | none => simp [hx] at ej
      | some x =>
        simp [hx] at ej
        have hi' : i < es.toList.length := by
          rcases Nat.lt_or_ge i es.toList.length with h | h
          · exact h
          · simp [List.getElem?_eq_none h] at hi
        have hj' : j < es.toList.length := by
          rcases Nat.lt_or_ge j es.toList.length with h | h
          · exact h
          · simp [List.getElem?_eq_none h] at hx
        have q1 : es.toList[i] = e := by simpa [List.getElem?_eq_getElem hi'] using hi
        have q2 : es.toList[j] = x := by simpa [List.getElem?_eq_getElem hj'] using hx
        have a1 : (es.toList.map (·.born))[i]'(by simpa using hi') = (es.toList.map (·.born))[j]'(by simpa using hj') := by
          rw [List.getElem_map, List.getElem_map, q1, q2, ej]
        have := (List.getElem_inj hbn).1 a1
        subst this
        exact hj
    · intro hm
      have : some e.born ∈ seen.toList.map some := by rw [h9]; exact List.mem_map.2 ⟨i, hm, by rw [hi]; rfl⟩
      obtain ⟨x, hx, ex⟩ := List.mem_map.1 this
      cases ex
      exact hx
  have hcont : ∀ e : MapEntry, seen.contains e.born = decide (e.born ∈ seen.toList) := fun e => by
    rw [Bool.eq_iff_iff]; simp
  -- the entries that are left
  obtain ⟨left, hleft⟩ : ∃ left : Array MapEntry, left = es.filter fun e => !seen.contains e.born := ⟨_, rfl⟩
  have hleftmem : ∀ e, e ∈ left.toList ↔ ∃ i, es.toList[i]? = some e ∧ i ∉ idx := by
    intro e
    rw [hleft]
    simp only [Array.toList_filter, List.mem_filter]
    constructor
    · rintro ⟨hm, hc⟩
      obtain ⟨i, hi⟩ := List.getElem?_of_mem hm
      refine ⟨i, hi, fun hx => ?_⟩
      have := (hseen i e hi).2 hx
      rw [hcont e] at hc
      simp at hc
      exact hc (by simpa using this)
    · rintro ⟨i, hi, hx⟩
      refine ⟨List.mem_of_getElem? hi, ?_⟩
      rw [hcont e]
      have := mt (hseen i e hi).1 hx
      simp
      simpa using this
  have hold : left.filter (fun e => decide (e.born < clock)) = left := by
    apply Array.toList_inj.1
    rw [Array.toList_filter, List.filter_eq_self]
    intro e he'
    obtain ⟨i, hi, _⟩ := (hleftmem e).1 he'
    simpa using hborn e (List.mem_of_getElem? hi)
  have hnew : left.filter (fun e => decide (e.born ≥ clock)) = #[] := by
    apply Array.toList_inj.1
    rw [Array.toList_filter]
    simp only [List.filter_eq_nil_iff]
    intro e he'
    obtain ⟨i, hi, _⟩ := (hleftmem e).1 he'
    have := hborn e (List.mem_of_getElem? hi)
    simp; omega
  have hguard : (!seen.isEmpty && !es.isEmpty && es.all (fun e => decide (e.born ≥ clock))) = false := by
    cases hes : es.toList with
    | nil =>
      have : es = #[] := Array.toList_inj.1 hes
      subst this; simp
    | cons x r =>
      have hx := hborn x (by rw [hes]; simp)
      have : es.all (fun e => decide (e.born ≥ clock)) = false := by
        rw [← Array.all_toList, hes]
        simp; omega
      rw [this]; simp
  by_cases hdone : left.toList = []
  · -- nothing is left
    have hl0 : left = #[] := Array.toList_inj.1 hdone
    left
    refine ⟨?_, ?_⟩
    · rw [hdl]
      have h1 : (List.range l.length).length ≤ idx.length := by
        refine nodup_length List.nodup_range (fun i hi => ?_)
        have hi' := List.mem_range.1 hi
        have hi2 : i < es.toList.length := by simpa [hlen] using hi'
        refine Classical.byContradiction fun hx => ?_
        have : es.toList[i] ∈ left.toList := (hleftmem _).2 ⟨i, List.getElem?_eq_getElem hi2, hx⟩
        rw [hdone] at this
        cases this
      have h2 : idx.length ≤ (List.range l.length).length := nodup_length h6 (fun i hi => List.mem_range.2 (h7 i hi))
      simp at h1 h2
      omega
    · intro ty
      simp only [Instr.next, Sem.run_bind, run_getObj_iter hs, MapKept.run_getObj_map hb, Result.andThen, hguard, ← hleft, hl0]
      simp [choose, Sem.run, Question.forced]
  · -- some entry comes
    right
    have hpos : 0 < left.size := by
      rcases Nat.eq_zero_or_pos left.size with h | h
      · exact absurd (by simpa using Array.size_eq_zero_iff.1 h) hdone
      · exact h
    have hne : left.isEmpty = false := by
      cases hh : left.isEmpty with
      | false => rfl
      | true => exact absurd (by simpa using hh) hdone
    obtain ⟨c, w1, hcw, hcl, hw1⟩ : ∃ (c : Nat) (w1 : World), (choose (.mapNext left.size)).run P w = .ok c w1 ∧ c < left.size ∧ (w1 = w ∨ w1 = w.drew) := by
      by_cases hf : Question.forced (.mapNext left.size) = true
      · refine ⟨0, w, by simp [choose, Sem.run, hf], hpos, .inl rfl⟩
      · have hf' : Question.forced (.mapNext left.size) = false := by simpa using hf
        refine ⟨_, w.drew, by simp [choose, Sem.run, hf']; rfl, ?_, .inr rfl⟩
        exact Nat.mod_lt _ hpos
    obtain ⟨e, hce⟩ : ∃ e, left[c]? = some e := ⟨_, Array.getElem?_eq_getElem hcl⟩
    have hel : e ∈ left.toList := by
      have := Array.mem_of_getElem? hce
      simpa using this
    obtain ⟨i, hi, hix⟩ := (hleftmem e).1 hel
    obtain ⟨p, hp, hk, hv⟩ := map_at he hi
    have hil : i < l.length := by
      rcases Nat.lt_or_ge i l.length with h | h
      · exact h
      · simp [List.getElem?_eq_none h] at hp
    have hb1 : w1.heap = w.heap := by rcases hw1 with rfl | rfl <;> rfl
    have hs1 : w1.heap[I]? = some (.mapIter (some M) clock seen clock) := by rw [hb1]; exact hs
    have hIl : I < w1.heap.size := lt_block hs1
    have hrun : ∀ ty, (Instr.next (.pointer (some ⟨I, 0, none⟩)) false ty).run P w = .ok (.tuple #[.bool true, enc p.1, p.2]) (setB w1 I (.mapIter (some M) clock (seen.push e.born) clock)) := by
      intro ty
      have hcand : ((if left.isEmpty then #[none] else #[]) ++ (left ++ #[]).map some : Array (Option MapEntry)) = left.map some := by
        rw [hne]; simp
      have hsz : (left.map some).size = left.size := by simp
      have hget : (left.map some)[c]? = some (some e) := by simp [hce]
      simp only [Instr.next, Sem.run_bind, run_getObj_iter hs, MapKept.run_getObj_map hb, Result.andThen, hguard, ← hleft, hold, hnew, hcand, hsz]
      rw [if_neg (by decide), Sem.run_bind, hcw]
      simp only [Result.andThen, hget]
      simp [run_setObj_iter _ hs1, Result.andThen, hk, hv]
    have hnd : (p.1, p.2) ∉ done := by
      intro hm
      have : some (p.1, p.2) ∈ idx.map (fun i => l[i]?) := by rw [← h8]; exact List.mem_map.2 ⟨_, hm, rfl⟩
      obtain ⟨j, hj, ej⟩ := List.mem_map.1 this
      have hjl := h7 j hj
      have q1 : l[i] = p := by simpa [List.getElem?_eq_getElem hil] using hp
      have q2 : l[j] = (p.1, p.2) := by simpa [List.getElem?_eq_getElem hjl] using ej
      have a1 : (l.map Prod.fst)[i]'(by simpa using hil) = (l.map Prod.fst)[j]'(by simpa using hjl) := by
        rw [List.getElem_map, List.getElem_map, q1, q2]
      have := (List.getElem_inj hn).1 a1
      subst this
      exact hix hj
    have hlt : done.length < l.length := by
      rw [hdl]
      have h1 : (i :: idx).length ≤ (List.range l.length).length := by
        refine nodup_length (List.nodup_cons.2 ⟨hix, h6⟩) (fun j hj => ?_)
        rcases List.mem_cons.1 hj with rfl | hj
        · exact List.mem_range.2 hil
        · exact List.mem_range.2 (h7 j hj)
      simp at h1
      omega
    have hMb : (setB w1 I (.mapIter (some M) clock (seen.push e.born) clock)).heap[M]? = some (.map es clock) := by
      rw [(setB_mod w1 I _).block M (by rw [hb1]; exact lt_block hb) hMI, hb1]; exact hb
    have hIb : (setB w1 I (.mapIter (some M) clock (seen.push e.born) clock)).heap[I]? = some (.mapIter (some M) clock (seen.push e.born) clock) := by simp [setB, hIl]
    refine ⟨p.1, p.2, _, hlt, List.mem_of_getElem? hp, hnd, hrun, ?_, ?_, ?_⟩
    · refine ⟨es, clock, hMb, he, hn, hborn, hbn, idx ++ [i], ?_, ?_, ?_, seen.push e.born, hIb, ?_⟩
      · rw [List.nodup_append]
        exact ⟨h6, by simp, fun a ha b hb' => by simp at hb'; subst hb'; intro e'; subst e'; exact hix ha⟩
      · intro j hj
        rcases List.mem_append.1 hj with hj | hj
        · exact h7 j hj
        · simp at hj; subst hj; exact hil
      · rw [List.map_append, List.map_append, h8]; simp [hp]
      · rw [Array.toList_push, List.map_append, List.map_append, h9]
        simp only [List.map_cons, List.map_nil, hi, Option.map_some]
    · rcases hw1 with rfl | rfl
      · exact setB_mod _ _ _
      · exact ((Mod.refl _ w).drew).trans' (setB_mod _ _ _)
    · have hfind : es.find? (fun x => x.born == e.born) = some e := by
        rw [← Array.find?_toList]
        have hm : e ∈ es.toList := List.mem_of_getElem? hi
        cases hf : es.toList.find? (fun x => x.born == e.born) with
        | none => exact absurd (List.find?_eq_none.1 hf e hm) (by simp)
        | some x =>
          have h1 := List.mem_of_find?_eq_some hf
          have h2 := List.find?_some hf
          simp at h2
          obtain ⟨j, hj⟩ := List.getElem?_of_mem h1
          have hi' : i < es.toList.length := by
            rcases Nat.lt_or_ge i es.toList.length with h | h
            · exact h
            · simp [List.getElem?_eq_none h] at hi
          have hj' : j < es.toList.length := by
            rcases Nat.lt_or_ge j es.toList.length with h | h
            · exact h
            · simp [List.getElem?_eq_none h] at hj
          have q1 : es.toList[i] = e := by simpa [List.getElem?_eq_getElem hi'] using hi
          have q2 : es.toList[j] = x := by simpa [List.getElem?_eq_getElem hj'] using hj
          have a1 : (es.toList.map (·.born))[i]'(by simpa using hi') = (es.toList.map (·.born))[j]'(by simpa using hj') := by
            rw [List.getElem_map, List.getElem_map, q1, q2, h2]
          have := (List.getElem_inj hbn).1 a1
          subst this
          rw [← q2, q1]
      simp [Instr.entry, run_getObj_iter hIb, MapKept.run_getObj_map hMb, Result.andThen, hfind, hk, hv]

/-- Where all have come, just the map's entries have. -/
theorem IterIs.all {done : List (κ × Value)} (h : IterIs w I M enc l done) (hd : done.length = l.length) : done.Perm l := by
  obtain ⟨es, clock, h1, h2, h3, h4, h5, idx, h6, h7, h8, _⟩ := h
  have hdl : done.length = idx.length := by simpa using congrArg List.length h8
  have hp : idx.Perm (List.range l.length) := by
    refine nodup_perm h6 (fun i hi => List.mem_range.2 (h7 i hi)) ?_
    simp; omega
  have h9 : (done.map some).Perm ((List.range l.length).map (fun i => l[i]?)) := by rw [h8]; exact hp.map _
  have e : (List.range l.length).map (fun i => l[i]?) = l.map some := by
    apply List.ext_getElem?
    intro i
    simp only [List.getElem?_map]
    rcases Nat.lt_or_ge i l.length with hi | hi
    · simp [hi]
    · simp [hi]
  rw [e] at h9
  have h10 := h9.filterMap id
  simpa [List.filterMap_map] using h10
end
end Go.Por
