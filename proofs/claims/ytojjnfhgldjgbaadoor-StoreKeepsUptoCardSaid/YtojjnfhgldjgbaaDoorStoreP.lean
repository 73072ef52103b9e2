/- The store, plain: what its methods do to its spans. -/
import Derived.Test.YtojjnfhgldjgbaaDoorTypes
import Derived.Test.YtojjnfhgldjgbaaDoorAlist
import Derived.Test.YtojjnfhgldjgbaaDoorSlMap
import Derived.Test.YtojjnfhgldjgbaaDoorTupP
set_option linter.unusedVariables false
set_option linter.unusedSimpArgs false
namespace Go.Proofs.YtojjnfhgldjgbaaDoor.Store
open Go.RowKit Go.Por Go.Sort Go.Proofs.YtojjnfhgldjgbaaDoor.Watch Go.Por.Tupl

abbrev Span := Int × Int
/-- The tuples with their spans. -/
abbrev Sp := List (Tup × List Span)
def maxRev : Int := 1125899906842624
/-- The revision of the last change. -/
def lastOf (l : List Span) : Int := match l.getLast? with
  | none => 0
  | some x => max x.1 x.2
def thereOf (l : List Span) : Bool := match l.getLast? with
  | none => false
  | some x => decide (x.2 = 0)
def hasS (rev : Int) (x : Span) : Bool := decide (x.1 ≤ rev) && (decide (x.2 = 0) || decide (rev < x.2))
/-- The last span ends. -/
def shutL (l : List Span) (rev : Int) : List Span := l.set (l.length - 1) ((l.getLast?.getD (0, 0)).1, rev)
def stepA (rev : Int) (sp : Sp) (m : Mut) : Sp :=
  if m.1 = true then (if thereOf (aget sp m.2) = true then gput sp m.2 (shutL (aget sp m.2) rev) else sp)
  else (if thereOf (aget sp m.2) = true then sp else gput sp m.2 (aget sp m.2 ++ [(rev, 0)]))
def applyA (rev : Int) (sp : Sp) (muts : List Mut) : Sp := muts.foldl (stepA rev) sp
def checkL (sp : Sp) (wm rev : Int) : List Tup → List Mut → Int
  | _, [] => 0
  | seen, m :: ms =>
    if tchk m.2 ≠ 0 then tchk m.2
    else if tin m.2 seen = true then 5
    else if rev ≤ lastOf (aget sp m.2) ∨ rev ≤ wm then 70
    else checkL sp wm rev (seen ++ [m.2]) ms
/-- The error's number of mutations. -/
def checkA (sp : Sp) (wm rev : Int) (muts : List Mut) : Int := if rev < 1 ∨ maxRev < rev then 1 else checkL sp wm rev [] muts
def readA (wm rev : Int) : Int := if rev < 0 then 1 else if rev < wm then 71 else 0
def atA (sp : Sp) (t : Tup) (rev : Int) : Bool := (aget sp t).any (hasS rev)
def ble (a b : ByteArray) : Bool := decide (cmpB a b ≤ 0)
def usersA (sp : Sp) (o r : ByteArray) (rev : Int) : List ByteArray := ((sp.filter (fun e => decide (e.1.1 = o) && decide (e.1.2.1 = r) && e.2.any (hasS rev))).map (fun e => e.1.2.2)).mergeSort ble
def ofA (sp : Sp) (u : ByteArray) (rev : Int) : List Tup := ((sp.filter (fun e => decide (e.1.2.2 = u) && e.2.any (hasS rev))).map (fun e => e.1)).mergeSort tle
def flatA (sp : Sp) : List RowT := sp.flatMap (fun e => e.2.map (fun x => (e.1, x.1, x.2)))
/-- A tuple's spans: one behind the other, none of them empty. -/
structure Chain (l : List Span) : Prop where
  each : ∀ x ∈ l, 1 ≤ x.1 ∧ x.1 ≤ maxRev ∧ (x.2 = 0 ∨ (x.1 < x.2 ∧ x.2 ≤ maxRev))
  next : l.Pairwise (fun x y => x.2 ≠ 0 ∧ x.2 < y.1)
structure Good (sp : Sp) : Prop where
  nodup : (sp.map Prod.fst).Nodup
  full : ∀ e ∈ sp, e.2 ≠ [] ∧ Chain e.2
/-- A row stands ahead of another: by tuple, then by revision. -/
def rlt (a b : RowT) : Prop := tlt a.1 b.1 ∨ a.1 = b.1 ∧ a.2.1 < b.2.1
theorem rlt_irrefl (a : RowT) : ¬ rlt a a := by
  rintro (h | ⟨_, h⟩)
  · exact tlt_irrefl _ h
  · omega
theorem rlt_trans {a b c : RowT} (h : rlt a b) (k : rlt b c) : rlt a c := by
  obtain ⟨a1, a2, a3⟩ := a
  obtain ⟨b1, b2, b3⟩ := b
  obtain ⟨c1, c2, c3⟩ := c
  unfold rlt at *
  simp only at *
  rcases h with h | ⟨rfl, h⟩ <;> rcases k with k | ⟨rfl, k⟩
  · exact .inl (tlt_trans h k)
  · exact .inl h
  · exact .inl k
  · exact .inr ⟨rfl, by omega⟩
theorem mem_flatA {sp : Sp} {r : RowT} : r ∈ flatA sp ↔ ∃ l, (r.1, l) ∈ sp ∧ (r.2.1, r.2.2) ∈ l := by
  unfold flatA
  rw [List.mem_flatMap]
  constructor
  · rintro ⟨e, he, hr⟩
    obtain ⟨x, hx, rfl⟩ := List.mem_map.1 hr
    exact ⟨e.2, he, hx⟩
  · rintro ⟨l, hl, hx⟩
    exact ⟨_, hl, List.mem_map.2 ⟨_, hx, rfl⟩⟩
theorem aget_some {sp : Sp} (hn : (sp.map Prod.fst).Nodup) {t : Tup} {l : List Span} (h : (t, l) ∈ sp) : aget sp t = l := by
  unfold aget
  rw [(gfind_some hn).2 h]
  rfl
theorem aget_none {sp : Sp} {t : Tup} (h : t ∉ sp.map Prod.fst) : aget sp t = [] := by
  unfold aget
  rw [gfind_none.2 h]
  rfl
theorem aget_gput {sp : Sp} (hn : (sp.map Prod.fst).Nodup) (t : Tup) (l : List Span) (q : Tup) : aget (gput sp t l) q = if q = t then l else aget sp q := by
  unfold aget
  rw [gfind_gput hn]
  by_cases h : q = t
  · rw [if_pos h, if_pos h]; rfl
  · rw [if_neg h, if_neg h]
theorem aget_gdel {sp : Sp} (hn : (sp.map Prod.fst).Nodup) (t q : Tup) : aget (gdel sp t) q = if q = t then [] else aget sp q := by
  unfold aget
  rw [gfind_gdel hn]
  by_cases h : q = t
  · rw [if_pos h, if_pos h]; rfl
  · rw [if_neg h, if_neg h]
theorem Good.chain {sp : Sp} (h : Good sp) (t : Tup) : Chain (aget sp t) := by
  by_cases hk : t ∈ sp.map Prod.fst
  · obtain ⟨e, he, rfl⟩ := List.mem_map.1 hk
    rw [aget_some h.nodup he]
    exact (h.full e he).2
  · rw [aget_none hk]
    exact ⟨(fun x hx => by cases hx), List.Pairwise.nil⟩
theorem Good.key {sp : Sp} (h : Good sp) (t : Tup) : t ∈ sp.map Prod.fst ↔ aget sp t ≠ [] := by
  constructor
  · intro hk
    obtain ⟨e, he, rfl⟩ := List.mem_map.1 hk
    rw [aget_some h.nodup he]
    exact (h.full e he).1
  · intro h1
    by_cases hk : t ∈ sp.map Prod.fst
    · exact hk
    · exact absurd (aget_none hk) h1
theorem mem_flat_get {sp : Sp} (h : Good sp) {r : RowT} : r ∈ flatA sp ↔ (r.2.1, r.2.2) ∈ aget sp r.1 := by
  rw [mem_flatA]
  constructor
  · rintro ⟨l, hl, hx⟩
    rw [aget_some h.nodup hl]; exact hx
  · intro hx
    have hk := (h.key r.1).2 (fun e => by rw [e] at hx; cases hx)
    obtain ⟨e, he, e1⟩ := List.mem_map.1 hk
    refine ⟨e.2, ?_, ?_⟩
    · rw [← e1]; exact he
    · rw [← e1, aget_some h.nodup he] at hx
      exact hx
theorem Good.nil : Good [] := ⟨List.nodup_nil, (fun e he => by cases he)⟩
theorem Good.put {sp : Sp} (h : Good sp) (t : Tup) {l : List Span} (h1 : l ≠ []) (h2 : Chain l) : Good (gput sp t l) :=
  ⟨gput_nodup h.nodup t l, fun e he => by
    rcases mem_gput.1 he with rfl | ⟨_, h3⟩
    · exact ⟨h1, h2⟩
    · exact h.full e h3⟩
theorem Good.del {sp : Sp} (h : Good sp) (t : Tup) : Good (gdel sp t) := ⟨gdel_nodup h.nodup t, fun e he => h.full e (mem_gdel.1 he).2⟩
/-- All rows of a good store are unlike, in tuple and revision. -/
theorem flat_rows {sp : Sp} (h : Good sp) : (flatA sp).Pairwise (fun a b => rlt a b ∨ rlt b a) := by
  obtain ⟨hn, hf⟩ := h
  induction sp with
  | nil => exact List.Pairwise.nil
  | cons e sp ih =>
    have e1 : flatA (e :: sp) = e.2.map (fun x => (e.1, x.1, x.2)) ++ flatA sp := by unfold flatA; rw [List.flatMap_cons]
    rw [List.map_cons, List.nodup_cons] at hn
    rw [e1]
    refine List.pairwise_append.2 ⟨?_, ih hn.2 (fun e he => hf e (List.mem_cons_of_mem _ he)), fun a ha b hb => ?_⟩
    · rw [List.pairwise_map]
      have hc := (hf e List.mem_cons_self).2
      have h2 := List.Pairwise.and_mem.1 hc.next
      refine List.Pairwise.imp (R := fun x y => x ∈ e.2 ∧ y ∈ e.2 ∧ x.2 ≠ 0 ∧ x.2 < y.1) (fun {x y} hxy => .inl (.inr ⟨rfl, ?_⟩)) h2
      have hx := hc.each x hxy.1
      show x.1 < y.1
      omega
    · obtain ⟨x, _, rfl⟩ := List.mem_map.1 ha
      obtain ⟨l, hl, _⟩ := mem_flatA.1 hb
      have hne : e.1 ≠ b.1 := fun k => hn.1 (List.mem_map.2 ⟨_, hl, k.symm⟩)
      rcases tlt_total e.1 b.1 with k | k | k
      · exact .inl (.inl k)
      · exact absurd k hne
      · exact .inr (.inl k)
end Go.Proofs.YtojjnfhgldjgbaaDoor.Store
