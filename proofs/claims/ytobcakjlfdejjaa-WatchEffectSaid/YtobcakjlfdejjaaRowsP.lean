/- watch.Rows, plain: the rows that changes make, before they are sorted. -/
import Derived.Test.YtobcakjlfdejjaaKeyT
set_option linter.unusedVariables false
set_option linter.unusedSimpArgs false
namespace Go.Proofs.Ytobcakjlfdejjaa.Watch
open Go.RowKit Go.Por Go.Sort

def isOpen (t : Tup) (r : RowT) : Bool := decide (r.1 = t) && decide (r.2.2 = 0)
/-- Row i ends at a revision. -/
def shutAt (out : List RowT) (i : Nat) (rev : Int) : List RowT := match out[i]? with
  | some r => out.set i (r.1, r.2.1, rev)
  | none => out
theorem shutAt_length (out : List RowT) (i : Nat) (rev : Int) : (shutAt out i rev).length = out.length := by
  unfold shutAt
  split <;> simp
theorem shutAt_some {out : List RowT} {i : Nat} {r : RowT} (h : out[i]? = some r) (rev : Int) : shutAt out i rev = out.set i (r.1, r.2.1, rev) := by
  unfold shutAt
  rw [h]
/-- One change. -/
def stepR (out : List RowT) (c : Chg) : List RowT :=
  match out.findIdx? (isOpen c.2.2), c.2.1 with
  | some i, true => shutAt out i c.1
  | some _, false => out
  | none, true => out
  | none, false => out ++ [(c.2.2, c.1, 0)]
def rowsF (cs : List Chg) : List RowT := cs.foldl stepR []
theorem rowsF_succ (cs : List Chg) (t : Nat) (c : Chg) (h : cs[t]? = some c) : rowsF (cs.take (t + 1)) = stepR (rowsF (cs.take t)) c := by
  unfold rowsF
  rw [List.take_add_one, h, List.foldl_append]
  rfl
theorem stepR_le (out : List RowT) (c : Chg) : (stepR out c).length ≤ out.length + 1 := by
  unfold stepR
  split <;> simp [shutAt_length]
theorem rowsF_le (cs : List Chg) : (rowsF cs).length ≤ cs.length := by
  have : ∀ (cs : List Chg) (o : List RowT), (cs.foldl stepR o).length ≤ o.length + cs.length := by
    intro cs
    induction cs with
    | nil => intro o; simp
    | cons c cs ih =>
      intro o
      have h1 := ih (stepR o c)
      have h2 := stepR_le o c
      rw [List.foldl_cons, List.length_cons]
      omega
  have h := this cs []
  rw [List.length_nil, Nat.zero_add] at h
  exact h
/-- The map tells just the open rows. -/
def Told (out : List RowT) (lm : List (Tup × Nat)) : Prop := ∀ t i, (t, i) ∈ lm ↔ ∃ r, out[i]? = some r ∧ r.1 = t ∧ r.2.2 = 0
def mv (lm : List (Tup × Nat)) : List (Tup × Value) := lm.map (fun p => (p.1, Value.int .i64 (p.2 : Int)))
theorem mv_fst (lm : List (Tup × Nat)) : (mv lm).map Prod.fst = lm.map Prod.fst := by
  unfold mv
  rw [List.map_map]
  rfl
theorem mem_mv {lm : List (Tup × Nat)} {t : Tup} {i : Nat} (h : (t, i) ∈ lm) : (t, Value.int .i64 (i : Int)) ∈ mv lm := List.mem_map.2 ⟨(t, i), h, rfl⟩
theorem nodup_snd {lm : List (Tup × Nat)} (hn : (lm.map Prod.fst).Nodup) {t : Tup} {i j : Nat} (h1 : (t, i) ∈ lm) (h2 : (t, j) ∈ lm) : i = j := by
  induction lm with
  | nil => cases h1
  | cons x r ih =>
    simp only [List.map_cons, List.nodup_cons] at hn
    rcases List.mem_cons.1 h1 with e1 | e1
    · rcases List.mem_cons.1 h2 with e2 | e2
      · rw [← e1] at e2; cases e2; rfl
      · exact absurd (List.mem_map.2 ⟨_, e2, by rw [← e1]⟩) hn.1
    · rcases List.mem_cons.1 h2 with e2 | e2
      · exact absurd (List.mem_map.2 ⟨_, e1, by rw [← e2]⟩) hn.1
      · exact ih hn.2 e1 e2
theorem Told.hit {out : List RowT} {lm : List (Tup × Nat)} (H : Told out lm) (hn : (lm.map Prod.fst).Nodup) {t : Tup} {i : Nat} (h : (t, i) ∈ lm) : out.findIdx? (isOpen t) = some i := by
  obtain ⟨r, hr, h1, h2⟩ := (H t i).1 h
  cases hf : out.findIdx? (isOpen t) with
  | none =>
    rw [List.findIdx?_eq_none_iff] at hf
    have := hf r (List.mem_of_getElem? hr)
    simp [isOpen, h1, h2] at this
  | some j =>
    obtain ⟨hj, h3, _⟩ := List.findIdx?_eq_some_iff_getElem.1 hf
    simp only [isOpen, Bool.and_eq_true, decide_eq_true_eq] at h3
    rw [nodup_snd hn h ((H t j).2 ⟨_, List.getElem?_eq_getElem hj, h3.1, h3.2⟩)]
theorem Told.miss {out : List RowT} {lm : List (Tup × Nat)} (H : Told out lm) {t : Tup} (h : t ∉ lm.map Prod.fst) : out.findIdx? (isOpen t) = none := by
  rw [List.findIdx?_eq_none_iff]
  intro r hr
  cases ho : isOpen t r with
  | false => rfl
  | true =>
    obtain ⟨i, hi⟩ := List.getElem?_of_mem hr
    simp only [isOpen, Bool.and_eq_true, decide_eq_true_eq] at ho
    exact absurd (List.mem_map.2 ⟨(t, i), (H t i).2 ⟨r, hi, ho.1, ho.2⟩, rfl⟩) h
theorem Told.new {out : List RowT} {lm : List (Tup × Nat)} (H : Told out lm) {t : Tup} (h : t ∉ lm.map Prod.fst) (rev : Int) : Told (out ++ [(t, rev, 0)]) (lm ++ [(t, out.length)]) := by
  intro t' i
  rw [List.mem_append, List.mem_singleton, H t' i]
  constructor
  · rintro (⟨r, hr, h1, h2⟩ | h)
    · exact ⟨r, by rw [List.getElem?_append_left (List.getElem?_eq_some_iff.1 hr).1]; exact hr, h1, h2⟩
    · cases h
      exact ⟨_, by rw [List.getElem?_append_right (Nat.le_refl _), Nat.sub_self]; rfl, rfl, rfl⟩
  · rintro ⟨r, hr, h1, h2⟩
    rcases Nat.lt_or_ge i out.length with hi | hi
    · rw [List.getElem?_append_left hi] at hr
      exact .inl ⟨r, hr, h1, h2⟩
    · rw [List.getElem?_append_right hi] at hr
      right
      cases hd : i - out.length with
      | zero =>
        rw [hd] at hr
        simp only [List.getElem?_cons_zero, Option.some.injEq] at hr
        subst hr
        rw [← h1, show i = out.length by omega]
      | succ k =>
        rw [hd] at hr
        simp at hr
theorem Told.shut {out : List RowT} {lm : List (Tup × Nat)} (H : Told out lm) (hn : (lm.map Prod.fst).Nodup) {t : Tup} {i : Nat} (h : (t, i) ∈ lm) {rev : Int} (hr0 : rev ≠ 0) : Told (shutAt out i rev) (lm.filter (fun p => decide (p.1 ≠ t))) := by
  obtain ⟨r0, e0, e1, e2⟩ := (H t i).1 h
  have hi : i < out.length := (List.getElem?_eq_some_iff.1 e0).1
  rw [shutAt_some e0]
  intro t' j
  rw [List.mem_filter, H t' j, List.getElem?_set]
  simp only [ne_eq, decide_not, Bool.not_eq_true', decide_eq_false_iff_not]
  constructor
  · rintro ⟨⟨r, hr, h1, h2⟩, h3⟩
    have hij : i ≠ j := by
      rintro rfl
      rw [hr] at e0
      cases e0
      exact h3 (h1.symm.trans e1)
    exact ⟨r, by rw [if_neg hij]; exact hr, h1, h2⟩
  · rintro ⟨r, hr, h1, h2⟩
    by_cases hij : i = j
    · subst hij
      rw [if_pos rfl, if_pos hi] at hr
      cases hr
      exact absurd h2 hr0
    · rw [if_neg hij] at hr
      refine ⟨⟨r, hr, h1, h2⟩, ?_⟩
      rintro rfl
      exact hij (nodup_snd hn h ((H _ j).2 ⟨r, hr, h1, h2⟩))
theorem Told.zero {out : List RowT} {lm : List (Tup × Nat)} (H : Told out lm) {t : Tup} {i : Nat} (h : (t, i) ∈ lm) : shutAt out i 0 = out := by
  obtain ⟨r, hr, h1, h2⟩ := (H t i).1 h
  rw [shutAt_some hr]
  apply List.ext_getElem?
  intro j
  rw [List.getElem?_set]
  by_cases hij : i = j
  · subst hij
    rw [if_pos rfl, if_pos (List.getElem?_eq_some_iff.1 hr).1, hr]
    obtain ⟨a, b, c⟩ := r
    simp only at h2
    subst h2
    rfl
  · rw [if_neg hij]
end Go.Proofs.Ytobcakjlfdejjaa.Watch
