/- WatchNet, where what came in is of bulk at most 1048576: what leads from some tuples to others does so in a store, and n: part 27 of 32: what it leans on. -/
import Derived.Laws.OwnMore
import Derived.Deep.MidRow
import Derived.Test.YtojjnfhgldjgbaaGreatDoorNtA
import Derived.Test.YtojjnfhgldjgbaaGreatDoorNtB
import Derived.Test.YtojjnfhgldjgbaaGreatDoorNtC
import Derived.Test.YtojjnfhgldjgbaaGreatDoorNtD
import Derived.Test.YtojjnfhgldjgbaaGreatDoorNtE
import Derived.Test.YtojjnfhgldjgbaaGreatDoorNtF
import Derived.Test.YtojjnfhgldjgbaaGreatDoorNtG
import Derived.Test.YtojjnfhgldjgbaaGreatDoorNtH
import Derived.Test.YtojjnfhgldjgbaaGreatDoorNtI
import Derived.Test.YtojjnfhgldjgbaaGreatDoorNtJ
import Derived.Test.YtojjnfhgldjgbaaGreatDoorNtK
import Derived.Test.YtojjnfhgldjgbaaGreatDoorNtL
import Derived.Test.YtojjnfhgldjgbaaGreatDoorNtM
import Derived.Test.YtojjnfhgldjgbaaGreatDoorNtN
import Derived.Test.YtojjnfhgldjgbaaGreatDoorNtO
import Derived.Test.YtojjnfhgldjgbaaGreatDoorNtP
import Derived.Test.YtojjnfhgldjgbaaGreatDoorNtQ
import Derived.Test.YtojjnfhgldjgbaaGreatDoorNtR
import Derived.Test.YtojjnfhgldjgbaaGreatDoorNtS
import Derived.Test.YtojjnfhgldjgbaaGreatDoorNtT
import Derived.Test.YtojjnfhgldjgbaaGreatDoorNtU
import Derived.Test.YtojjnfhgldjgbaaGreatDoorNtV
import Derived.Test.YtojjnfhgldjgbaaGreatDoorNtW
import Derived.Test.YtojjnfhgldjgbaaGreatDoorNtX
import Derived.Test.YtojjnfhgldjgbaaGreatDoorNtY
import Derived.Test.YtojjnfhgldjgbaaGreatDoorNtZ
section
set_option linter.unusedVariables false
set_option linter.unusedSimpArgs false
namespace Go.Proofs.YtojjnfhgldjgbaaGreatDoor.Store
open Go.RowKit Go.Por Go.Sort Go.Proofs.YtojjnfhgldjgbaaGreatDoor.Watch Go.Proofs.YtojjnfhgldjgbaaGreatDoor.Back

section
variable {rows : List RowT}
/-- Is a tuple there? -/
def There (rows : List RowT) (k : Int) (t : Tup) : Prop := ∃ r ∈ rows, r.1 = t ∧ r.2.1 ≤ k ∧ (r.2.2 = 0 ∨ k < r.2.2)
theorem mem_there {k : Int} {t : Tup} : t ∈ atL rows k ↔ There rows k t := by
  rw [mem_atL]
  unfold thereL There
  rw [List.mem_map]
  constructor
  · rintro ⟨r, hr, e⟩
    obtain ⟨h1, h2⟩ := List.mem_filter.1 hr
    unfold isAt at h2
    rw [Bool.and_eq_true, Bool.or_eq_true, decide_eq_true_iff, decide_eq_true_iff, decide_eq_true_iff] at h2
    exact ⟨r, h1, e, h2.1, h2.2⟩
  · rintro ⟨r, h1, e, h2, h3⟩
    refine ⟨r, List.mem_filter.2 ⟨h1, ?_⟩, e⟩
    unfold isAt
    rw [Bool.and_eq_true, Bool.or_eq_true, decide_eq_true_iff, decide_eq_true_iff, decide_eq_true_iff]
    exact ⟨h2, h3⟩
end
end Go.Proofs.YtojjnfhgldjgbaaGreatDoor.Store
end
section
set_option linter.unusedVariables false
set_option linter.unusedSimpArgs false
namespace Go.Por
open Go.RowKit
/-- Nil, or none that is. -/
def NilOk (v : Value) : Prop := v = .slice none 0 0 ∨ ∃ a n cap, v = .slice (some a) n cap
section
variable {α : Type} {P : Program} {t E : TypeId} {f : α → List Value} {c bytes : Nat} {w : World} {v u : Value} {l m : List α}
theorem run_pushAll (H : Elem P t E f c bytes) (ty : TypeId) (hown : OwnS f c w E v l) (hr : ReadS f c w u m) (hu : NilOk u) (hb : (l.length + m.length) * bytes ≤ 140737488355328) (h63 : l.length + m.length ≤ maxLen) :
    ∃ v' w', (Builtin.append_ #[t, t] ty #[v, u]).run P w = .ok v' w' ∧ OwnS f c w' E v' (l ++ m) ∧ Mod (fun k => some k = v.ownBlock) w w' ∧ ∀ k, v'.ownBlock = some k → v.ownBlock = some k ∨ w.heap.size ≤ k := by
  obtain ⟨i, z, hi, hz, hs, hby, hzc⟩ := H.info
  obtain ⟨ao, cap, rfl, hlen⟩ := hr.form
  rcases hu with e | ⟨a, n', cap', e⟩
  · simp only [Value.slice.injEq] at e
    obtain ⟨rfl, h0, rfl⟩ := e
    have hm : m = [] := List.length_eq_zero_iff.1 h0
    subst hm
    refine ⟨v, w, run_append_owned_none w 0 t ty E i c H.und hi v l.length (l.flatMap f) hown, by rw [List.append_nil]; exact hown, Mod.refl _ _, fun k hk => .inl hk⟩
  · simp only [Value.slice.injEq] at e
    obtain ⟨rfl, -, -⟩ := e
    have hnews : ∀ j u, (m.flatMap f)[j]? = some u → w.cell? (a.add j) = some u := fun j u hj => by
      have hj' : j < m.length * c := by
        have := (List.getElem?_eq_some_iff.1 hj).1
        rwa [flat_length H.len] at this
      have hc := H.pos
      have hd : j / c < m.length := (Nat.div_lt_iff_lt_mul hc).2 hj'
      have hx := List.getElem?_eq_getElem hd
      obtain ⟨b, o, e, hra⟩ := hr.at hx
      cases e
      have hjj := Nat.mod_lt j hc
      have h1 := flat_at H.len m (j / c) (j % c) hjj
      have e1 : j / c * c + j % c = j := by rw [Nat.mul_comm]; exact Nat.div_add_mod j c
      rw [e1, hj, hx] at h1
      have h2 : (⟨b, o, none⟩ : Addr).add j = ⟨b, o + (j / c * c) + j % c, none⟩ := by
        unfold Addr.add
        split
        · rename_i e; rw [e]; simp
        · rw [Nat.add_assoc, e1]
      rw [h2]
      exact hra _ _ h1.symm
    have h1 : ∀ u ∈ m.flatMap f, u.oneCell' = true := fun u hu => by
      obtain ⟨x, _, hx⟩ := List.mem_flatMap.1 hu
      exact H.one x u hx
    obtain ⟨v', w', hr, h2, h3, h4⟩ := run_append_own2 (P := P) w 0 t ty E i z c bytes H.und hi hz hs hby hzc H.pos v l.length (l.flatMap f) hown a m.length cap (m.flatMap f) (flat_length H.len m) hnews h1 h63 hb (Nat.zero_le _)
    refine ⟨v', w', hr, ?_, Mod.of_grown h3, h4⟩
    unfold OwnS
    rw [List.length_append, List.flatMap_append]
    exact h2
theorem wpList_pushAll {ops : Array Oper} {rest : List Oper} {o : Oper} {a : Act} {Q : Exit → Act → World → Prop} (H : Elem P t E f c bytes) (hgd : o.guard = none) (s x0 : Operand)
    (ho : o.op = .call { callee := .builtin .append, args := #[s, x0], argTypes := #[t, t] }) (hs : a.eval s = v) (hown : OwnS f c w E v l) (hx : a.eval x0 = u) (hr : ReadS f c w u m) (hu : NilOk u)
    (hb : (l.length + m.length) * bytes ≤ 140737488355328) (h63 : l.length + m.length ≤ maxLen)
    (h : ∀ v' w', OwnS f c w' E v' (l ++ m) → Mod (fun k => some k = v.ownBlock) w w' → (∀ k, v'.ownBlock = some k → v.ownBlock = some k ∨ w.heap.size ≤ k) → wpList P ops Q rest (a.put o.dst v') w') : wpList P ops Q (o :: rest) a w := by
  refine wpList_plain hgd fun K' hK' => ?_
  obtain ⟨v', w', hrun, h2, h3, h4⟩ := run_pushAll H o.type hown hr hu hb h63
  unfold Oper.wp execOp
  simp only [ho, resolve, invoke, builtin, Sem.run_bind, Sem.run_pure, Result.andThen_ok, List.map_toArray, List.map_cons, List.map_nil, hs, hx, hrun]
  exact hK' _ _ (h v' w' h2 h3 h4)
end
end Go.Por
end
section
set_option linter.unusedVariables false
set_option linter.unusedSimpArgs false
namespace Go.Proofs.YtojjnfhgldjgbaaGreatDoor.Store
open Go.RowKit Go.Por Go.Sort Go.Proofs.YtojjnfhgldjgbaaGreatDoor.Watch Go.Por.Tupl
theorem own_below {α : Type} {f : α → List Value} {c : Nat} {w w' : World} {E : TypeId} {v : Value} {l : List α} (h : OwnS f c w E v l) (hb : Below w.heap.size w w') : OwnS f c w' E v l :=
  h.mod (S := fun _ => False) (Mod.of_below hb _) (fun _ _ h => h)
theorem own_blk_lt {α : Type} {f : α → List Value} {c : Nat} {w : World} {E : TypeId} {v : Value} {l : List α} (h : OwnS f c w E v l) {k : Nat} (hk : v.ownBlock = some k) : k < w.heap.size := by
  rcases h.form with ⟨rfl, _⟩ | ⟨g, cap, rfl, _, _⟩
  · simp [Value.ownBlock] at hk
  · simp only [Value.ownBlock, Option.some.injEq] at hk
    rw [← hk]
    exact h.lt
end Go.Proofs.YtojjnfhgldjgbaaGreatDoor.Store
end
section
set_option linter.unusedVariables false
set_option linter.unusedSimpArgs false
set_option linter.unusedSectionVars false
namespace Go.Proofs.YtojjnfhgldjgbaaGreatDoor.Watch
open Go.RowKit Go.Por Go.Sort
theorem compactP_rise {α : Type} [DecidableEq α] {lt : α → α → Bool} (hsw : SWO lt) : ∀ (l : List α) (p : Option α), l.Pairwise (fun x y => lt y x = false) → (∀ q, p = some q → ∀ x ∈ l, lt x q = false) → (∀ x ∈ l, ∀ y ∈ l, lt x y = false → lt y x = false → x = y) → (∀ q, p = some q → ∀ x ∈ l, lt x q = false → lt q x = false → x = q) →
    (compactP p l).Pairwise (fun x y => lt x y = true) ∧ (∀ x ∈ compactP p l, x ∈ l ∧ ∀ q, p = some q → x ≠ q) ∧ (∀ x ∈ l, x ∈ compactP p l ∨ p = some x)
  | [], p, _, _, _, _ => by simp [compactP]
  | y :: l, p, hs, hp, hu, hq => by
    obtain ⟨h1, h2⟩ := List.pairwise_cons.1 hs
    obtain ⟨i1, i2, i3⟩ := compactP_rise hsw l (some y) h2 (fun q e x hx => by cases e; exact h1 x hx) (fun x hx z hz => hu x (List.mem_cons_of_mem _ hx) z (List.mem_cons_of_mem _ hz)) (fun q e x hx a b => by cases e; exact hu x (List.mem_cons_of_mem _ hx) y List.mem_cons_self a b)
    have hlt : ∀ x ∈ compactP (some y) l, lt y x = true := fun x hx => by
      obtain ⟨hm, hne⟩ := i2 x hx
      cases e : lt y x with
      | true => rfl
      | false => exact absurd (hu x (List.mem_cons_of_mem _ hm) y List.mem_cons_self (h1 x hm) e) (hne y rfl)
    rw [compactP]
    by_cases hy : p = some y
    · rw [if_pos hy, List.nil_append]
      refine ⟨i1, fun x hx => ⟨List.mem_cons_of_mem _ (i2 x hx).1, fun q e => ?_⟩, fun x hx => ?_⟩
      · rw [hy] at e; cases e; exact (i2 x hx).2 y rfl
      · rcases List.mem_cons.1 hx with e | hx
        · rw [e]; exact .inr hy
        · rcases i3 x hx with k | k
          · exact .inl k
          · exact .inr (hy.trans k)
    · rw [if_neg hy]
      refine ⟨List.pairwise_append.2 ⟨List.pairwise_singleton _ _, i1, fun a ha b hb => by rw [List.mem_singleton.1 ha]; exact hlt b hb⟩, fun x hx => ?_, fun x hx => ?_⟩
      · rcases List.mem_append.1 hx with hx | hx
        · rw [List.mem_singleton.1 hx]
          exact ⟨List.mem_cons_self, fun q e k => hy (by rw [e, k])⟩
        · refine ⟨List.mem_cons_of_mem _ (i2 x hx).1, fun q e k => ?_⟩
          have a1 := hlt x hx
          rw [k] at a1
          have a2 := hp q e y List.mem_cons_self
          rw [a2] at a1
          cases a1
      · rcases List.mem_cons.1 hx with e | hx
        · rw [e]; exact .inl (List.mem_append.2 (.inl List.mem_cons_self))
        · rcases i3 x hx with k | k
          · exact .inl (List.mem_append.2 (.inr k))
          · cases k; exact .inl (List.mem_append.2 (.inl List.mem_cons_self))
theorem mem_netU (a b : List Tup) (m : Mut) : m ∈ netU a b ↔ (m.2 ∈ a ∧ m.2 ∉ b ∧ m.1 = true) ∨ (m.2 ∈ b ∧ m.2 ∉ a ∧ m.1 = false) := by
  obtain ⟨d, x⟩ := m
  have h : ∀ d' l m', (d, x) ∈ outOf d' l m' ↔ x ∈ l ∧ x ∉ m' ∧ d = d' := fun d' l m' => by
    unfold outOf
    rw [List.mem_map]
    constructor
    · rintro ⟨y, hy, e⟩
      obtain ⟨h1, h2⟩ := List.mem_filter.1 hy
      cases e
      refine ⟨h1, fun h3 => ?_, rfl⟩
      rw [tin_iff.2 h3] at h2
      cases h2
    · rintro ⟨h1, h2, rfl⟩
      refine ⟨x, List.mem_filter.2 ⟨h1, ?_⟩, rfl⟩
      cases e : tin x m' with
      | false => rfl
      | true => exact absurd (tin_iff.1 e) h2
  unfold netU
  rw [List.mem_append, h, h]
theorem mlt_iff (x y : Mut) : ltOf mcmp x y = true ↔ tlt x.2 y.2 := by
  have := tupLt x.2 y.2
  unfold ltOf at *
  exact this
/-- What Net hands back: each tuple once, and just those of the one alone. -/
theorem net_mem {a b : List Tup} {l' : List Mut} (hp : l'.Perm (netU a b)) (hs : Stab.Sorted (ltOf mcmp) l') :
    ((compactL l').map (·.2)).Nodup ∧ ∀ m, m ∈ compactL l' ↔ (m.2 ∈ a ∧ m.2 ∉ b ∧ m.1 = true) ∨ (m.2 ∈ b ∧ m.2 ∉ a ∧ m.1 = false) := by
  have hm : ∀ m, m ∈ l' ↔ (m.2 ∈ a ∧ m.2 ∉ b ∧ m.1 = true) ∨ (m.2 ∈ b ∧ m.2 ∉ a ∧ m.1 = false) := fun m => by rw [hp.mem_iff, mem_netU]
  obtain ⟨c1, c2, c3⟩ := compactP_rise mutSwo l' none hs (fun q e => by cases e) (fun x hx y hy h1 h2 => by
    have e2 : x.2 = y.2 := by
      rcases tlt_total x.2 y.2 with k | k | k
      · rw [(mlt_iff x y).2 k] at h1; cases h1
      · exact k
      · rw [(mlt_iff y x).2 k] at h2; cases h2
    have e1 : x.1 = y.1 := by
      rcases (hm x).1 hx with ⟨a1, a2, a3⟩ | ⟨a1, a2, a3⟩ <;> rcases (hm y).1 hy with ⟨b1, b2, b3⟩ | ⟨b1, b2, b3⟩
      · rw [a3, b3]
      · exact absurd (by rw [← e2]; exact a1) b2
      · exact absurd (by rw [← e2]; exact a1) b2
      · rw [a3, b3]
    exact Prod.ext e1 e2) (fun q e => by cases e)
  refine ⟨?_, fun m => ?_⟩
  · unfold List.Nodup
    rw [List.pairwise_map]
    exact List.Pairwise.imp (R := fun x y => ltOf mcmp x y = true) (fun {x y} h e => by
      have := (mlt_iff x y).1 h
      rw [e] at this
      exact tlt_irrefl _ this) c1
  · rw [← hm]
    constructor
    · exact fun h => (c2 m h).1
    · exact fun h => (c3 m h).resolve_right (fun e => by cases e)
end Go.Proofs.YtojjnfhgldjgbaaGreatDoor.Watch
namespace Go.Proofs.YtojjnfhgldjgbaaGreatDoor.Store
open Go.RowKit Go.Por Go.Sort Go.Proofs.YtojjnfhgldjgbaaGreatDoor.Watch Go.Por.Tupl
theorem check_all {sp : Sp} {rev : Int} {muts : List Mut} (h1 : 1 ≤ rev) (h2 : rev ≤ maxRev) (h3 : ∀ m ∈ muts, tchk m.2 = 0 ∧ lastOf (aget sp m.2) < rev) (h4 : (muts.map (·.2)).Nodup) : checkA sp 0 rev muts = 0 := by
  unfold checkA
  rw [if_neg (by omega)]
  have gen : ∀ (l : List Mut) (seen : List Tup), (∀ m ∈ l, tchk m.2 = 0 ∧ lastOf (aget sp m.2) < rev ∧ m.2 ∉ seen) → (l.map (·.2)).Nodup → checkL sp 0 rev seen l = 0 := by
    intro l
    induction l with
    | nil => intro seen _ _; rfl
    | cons m ms ih =>
      intro seen hs hn
      rw [List.map_cons, List.nodup_cons] at hn
      have h0 := hs m List.mem_cons_self
      unfold checkL
      rw [if_neg (by simpa using h0.1), if_neg (fun k => h0.2.2 (tin_iff.1 k)), if_neg (by have := h0.2.1; omega)]
      refine ih _ (fun x hx => ⟨(hs x (List.mem_cons_of_mem _ hx)).1, (hs x (List.mem_cons_of_mem _ hx)).2.1, fun k => ?_⟩) hn.2
      rcases List.mem_append.1 k with k | k
      · exact (hs x (List.mem_cons_of_mem _ hx)).2.2 k
      · rw [List.mem_singleton] at k
        exact hn.1 (List.mem_map.2 ⟨x, hx, k⟩)
  exact gen muts [] (fun m hm => ⟨(h3 m hm).1, (h3 m hm).2, by simp⟩) h4
theorem find_mut {muts : List Mut} (hd : (muts.map (·.2)).Nodup) {m : Mut} (hm : m ∈ muts) : muts.find? (fun x => decide (x.2 = m.2)) = some m := by
  induction muts with
  | nil => cases hm
  | cons x l ih =>
    rw [List.map_cons, List.nodup_cons] at hd
    rw [List.find?_cons]
    rcases List.mem_cons.1 hm with e | hm
    · rw [e, decide_eq_true rfl]
    · have : ¬ x.2 = m.2 := fun e => hd.1 (by rw [e]; exact List.mem_map_of_mem hm)
      rw [decide_eq_false this]
      exact ih hd.2 hm
theorem find_none {muts : List Mut} {t : Tup} (h : ∀ m ∈ muts, m.2 ≠ t) : muts.find? (fun x => decide (x.2 = t)) = none := by
  rw [List.find?_eq_none]
  intro x hx k
  exact h x hx (of_decide_eq_true k)
/-- The first tuples, put. -/
def putsL (ts : List Tup) : List Mut := ts.map (fun t => (false, t))
theorem puts_snd (ts : List Tup) : (putsL ts).map (·.2) = ts := by unfold putsL; rw [List.map_map]; exact List.map_id _
theorem puts_take {ts : List Tup} {i : Nat} {x : Tup} (h : ts[i]? = some x) : putsL (ts.take (i + 1)) = putsL (ts.take i) ++ [(false, x)] := by
  unfold putsL
  rw [List.take_add_one, h, Option.toList_some, List.map_append]
  rfl
section
variable {a b : List Tup} (ha : ∀ t ∈ a, tchk t = 0) (hb : ∀ t ∈ b, tchk t = 0) {ts : List Tup} (hn : ts.Nodup) (hm : ∀ t, t ∈ ts ↔ t ∈ a)
include ha hn hm
theorem net_one : checkA [] 0 1 (putsL ts) = 0 :=
  check_all (by decide) (by decide) (fun m h => ⟨by
    obtain ⟨t, ht, e⟩ := List.mem_map.1 (show m ∈ ts.map (fun t => (false, t)) from h)
    rw [← e]
    exact ha t ((hm t).1 ht), by show lastOf [] < 1; decide⟩) (by rw [puts_snd]; exact hn)
theorem net_sp1 (t : Tup) : aget (applyA 1 [] (putsL ts)) t = if tin t a = true then [((1 : Int), (0 : Int))] else [] := by
  rw [aget_applyA _ (by simp) (by rw [puts_snd]; exact hn)]
  by_cases h : tin t a = true
  · have := find_mut (muts := putsL ts) (by rw [puts_snd]; exact hn) (m := (false, t)) (List.mem_map.2 ⟨t, (hm t).2 (tin_iff.1 h), rfl⟩)
    rw [if_pos h]
    simp only at this
    rw [this]
    rfl
  · rw [find_none (fun m hmm e => by
      obtain ⟨x, hx, e2⟩ := List.mem_map.1 (show m ∈ ts.map (fun t => (false, t)) from hmm)
      rw [← e2] at e
      simp only at e
      rw [e] at hx
      exact h (tin_iff.2 ((hm t).1 hx))), if_neg h]
    rfl
theorem net_good1 : Good (applyA 1 [] (putsL ts)) := by
  obtain ⟨h1, h2, h3, h4⟩ := checkA_ok (net_one ha hn hm)
  exact good_applyA h1 h2 _ Good.nil (fun m hm => (h3 m hm).2.1) h4
variable {nl : List Mut} (hd : (nl.map (·.2)).Nodup) (hl : ∀ m, m ∈ nl ↔ (m.2 ∈ a ∧ m.2 ∉ b ∧ m.1 = true) ∨ (m.2 ∈ b ∧ m.2 ∉ a ∧ m.1 = false))
include hb hd hl
theorem net_two : checkA (applyA 1 [] (putsL ts)) 0 2 nl = 0 :=
  check_all (by decide) (by decide) (fun m h => by
    refine ⟨?_, ?_⟩
    · rcases (hl m).1 h with k | k
      · exact ha _ k.1
      · exact hb _ k.1
    · rw [net_sp1 ha hn hm]
      split <;> decide) hd
theorem net_good2 : Good (applyA 2 (applyA 1 [] (putsL ts)) nl) := by
  obtain ⟨h1, h2, h3, h4⟩ := checkA_ok (net_two ha hb hn hm hd hl)
  exact good_applyA h1 h2 _ (net_good1 ha hn hm) (fun m hm => (h3 m hm).2.1) h4
theorem net_sp2 (t : Tup) : aget (applyA 2 (applyA 1 [] (putsL ts)) nl) t = if tin t a = true then (if tin t b = true then [((1 : Int), (0 : Int))] else [(1, 2)]) else (if tin t b = true then [(2, 0)] else []) := by
  rw [aget_applyA _ (net_good1 ha hn hm).nodup hd, net_sp1 ha hn hm]
  by_cases h1 : tin t a = true
  · rw [if_pos h1, if_pos h1]
    by_cases h2 : tin t b = true
    · rw [if_pos h2, find_none (fun m hmm e => by
        rcases (hl m).1 hmm with k | k
        · rw [e] at k; exact k.2.1 (tin_iff.1 h2)
        · rw [e] at k; exact k.2.1 (tin_iff.1 h1))]
    · rw [if_neg h2]
      have := find_mut hd (m := (true, t)) ((hl _).2 (.inl ⟨tin_iff.1 h1, fun k => h2 (tin_iff.2 k), rfl⟩))
      simp only at this
      rw [this]
      rfl
  · rw [if_neg h1, if_neg h1]
    by_cases h2 : tin t b = true
    · rw [if_pos h2]
      have := find_mut hd (m := (false, t)) ((hl _).2 (.inr ⟨tin_iff.1 h2, fun k => h1 (tin_iff.2 k), rfl⟩))
      simp only at this
      rw [this]
      rfl
    · rw [if_neg h2, find_none (fun m hmm e => by
        rcases (hl m).1 hmm with k | k
        · rw [e] at k; exact h1 (tin_iff.2 k.1)
        · rw [e] at k; exact h2 (tin_iff.2 k.1))]
theorem net_was {m : Mut} (h : m ∈ nl) : (decide (readA 0 1 = 0) && atA (applyA 2 (applyA 1 [] (putsL ts)) nl) m.2 1) = m.1 := by
  have e : readA 0 1 = 0 := by decide
  rw [decide_eq_true e, Bool.true_and]
  unfold atA
  rw [net_sp2 ha hb hn hm hd hl]
  rcases (hl m).1 h with ⟨k1, k2, k3⟩ | ⟨k1, k2, k3⟩
  · rw [if_pos (tin_iff.2 k1), if_neg (fun k => k2 (tin_iff.1 k)), k3]; decide
  · rw [if_neg (fun k => k2 (tin_iff.1 k)), if_pos (tin_iff.2 k1), k3]; decide
theorem net_now {m : Mut} (h : m ∈ nl) : (decide (readA 0 2 = 0) && atA (applyA 2 (applyA 1 [] (putsL ts)) nl) m.2 2) = !m.1 := by
  have e : readA 0 2 = 0 := by decide
  rw [decide_eq_true e, Bool.true_and]
  unfold atA
  rw [net_sp2 ha hb hn hm hd hl]
  rcases (hl m).1 h with ⟨k1, k2, k3⟩ | ⟨k1, k2, k3⟩
  · rw [if_pos (tin_iff.2 k1), if_neg (fun k => k2 (tin_iff.1 k)), k3]; decide
  · rw [if_neg (fun k => k2 (tin_iff.1 k)), if_pos (tin_iff.2 k1), k3]; decide
theorem net_at {rows : List RowT} (p : rows.Perm (flatA (applyA 2 (applyA 1 [] (putsL ts)) nl))) : atL rows 2 = playL b [] := by
  refine tlt_uniq (rising_iff.1 (atL_rising rows 2)) (playL_rise _ _) (fun t => ?_)
  rw [mem_there, mem_playL, List.foldl_nil, mem_kputs]
  have hg := net_good2 ha hb hn hm hd hl
  have hs := net_sp2 ha hb hn hm hd hl t
  unfold There
  constructor
  · rintro ⟨r, hr, e, h1, h2⟩
    have hx := (mem_flat_get hg).1 (p.mem_iff.1 hr)
    rw [e, hs] at hx
    by_cases k2 : tin t b = true
    · exact .inl (tin_iff.1 k2)
    · rw [if_neg k2, if_neg k2] at hx
      split at hx
      · simp at hx
        omega
      · cases hx
  · rintro (h | h)
    · rw [if_pos (tin_iff.2 h), if_pos (tin_iff.2 h)] at hs
      by_cases k1 : tin t a = true
      · rw [if_pos k1] at hs
        refine ⟨(t, 1, 0), p.mem_iff.2 ((mem_flat_get hg).2 ?_), rfl, (show (1 : Int) ≤ 2 by decide), .inl rfl⟩
        show (1, 0) ∈ aget _ t
        rw [hs]; exact List.mem_singleton.2 rfl
      · rw [if_neg k1] at hs
        refine ⟨(t, 2, 0), p.mem_iff.2 ((mem_flat_get hg).2 ?_), rfl, (show (2 : Int) ≤ 2 by decide), .inl rfl⟩
        show (2, 0) ∈ aget _ t
        rw [hs]; exact List.mem_singleton.2 rfl
    · cases h
end
end Go.Proofs.YtojjnfhgldjgbaaGreatDoor.Store
end
