/- A slice appended whole; the first of a slice read. No program in sight. -/
import Derived.Test.YtojjnfhgldjgbaaDoorPush
import Derived.Test.YtojjnfhgldjgbaaDoorStabW
import Derived.Laws.OwnMore
import Derived.Deep.MidRow
set_option linter.unusedVariables false
set_option linter.unusedSimpArgs false
namespace Go.Por
open Go.RowKit
/-- Nil, or none that is. -/
def NilOk (v : Value) : Prop := v = .slice none 0 0 ∨ ∃ a n cap, v = .slice (some a) n cap
section
variable {α : Type} {P : Program} {t E : TypeId} {f : α → List Value} {c bytes : Nat} {w : World} {v u : Value} {l m : List α}
theorem run_pushAll (H : Elem P t E f c bytes) (ty : TypeId) (hown : OwnS f c w E v l) (hr : ReadS f c w u m) (hu : NilOk u) (hb : (l.length + m.length) * bytes ≤ 140737488355328) (h63 : l.length + m.length ≤ maxLen) :
    ∃ v' w', (Builtin.append_ #[t, t] ty #[v, u]).run P w = .ok v' w' ∧ OwnS f c w' E v' (l ++ m) ∧ Mod (fun k => some k = v.ownBlock) w w' ∧ ∀ k, v'.ownBlock = some k → v.ownBlock = some k ∨ w.heap.size ≤ k := by
  obtain ⟨i, z, hi, hz, hs, hby, hzc⟩ := H.info
  obtain ⟨ao, cap, rfl, hlen⟩ := hr.form
  rcases hu with e | ⟨a, n', cap', e⟩
  · simp only [Value.slice.injEq] at e
    obtain ⟨rfl, h0, rfl⟩ := e
    have hm : m = [] := List.length_eq_zero_iff.1 h0
    subst hm
    refine ⟨v, w, run_append_owned_none w 0 t ty E i c H.und hi v l.length (l.flatMap f) hown, by rw [List.append_nil]; exact hown, Mod.refl _ _, fun k hk => .inl hk⟩
  · simp only [Value.slice.injEq] at e
    obtain ⟨rfl, -, -⟩ := e
    have hnews : ∀ j u, (m.flatMap f)[j]? = some u → w.cell? (a.add j) = some u := fun j u hj => by
      have hj' : j < m.length * c := by
        have := (List.getElem?_eq_some_iff.1 hj).1
        rwa [flat_length H.len] at this
      have hc := H.pos
      have hd : j / c < m.length := (Nat.div_lt_iff_lt_mul hc).2 hj'
      have hx := List.getElem?_eq_getElem hd
      obtain ⟨b, o, e, hra⟩ := hr.at hx
      cases e
      have hjj := Nat.mod_lt j hc
      have h1 := flat_at H.len m (j / c) (j % c) hjj
      have e1 : j / c * c + j % c = j := by rw [Nat.mul_comm]; exact Nat.div_add_mod j c
      rw [e1, hj, hx] at h1
      have h2 : (⟨b, o, none⟩ : Addr).add j = ⟨b, o + (j / c * c) + j % c, none⟩ := by
        unfold Addr.add
        split
        · rename_i e; rw [e]; simp
        · rw [Nat.add_assoc, e1]
      rw [h2]
      exact hra _ _ h1.symm
    have h1 : ∀ u ∈ m.flatMap f, u.oneCell' = true := fun u hu => by
      obtain ⟨x, _, hx⟩ := List.mem_flatMap.1 hu
      exact H.one x u hx
    obtain ⟨v', w', hr, h2, h3, h4⟩ := run_append_own2 (P := P) w 0 t ty E i z c bytes H.und hi hz hs hby hzc H.pos v l.length (l.flatMap f) hown a m.length cap (m.flatMap f) (flat_length H.len m) hnews h1 h63 hb (Nat.zero_le _)
    refine ⟨v', w', hr, ?_, Mod.of_grown h3, h4⟩
    unfold OwnS
    rw [List.length_append, List.flatMap_append]
    exact h2
theorem wpList_pushAll {ops : Array Oper} {rest : List Oper} {o : Oper} {a : Act} {Q : Exit → Act → World → Prop} (H : Elem P t E f c bytes) (hgd : o.guard = none) (s x0 : Operand)
    (ho : o.op = .call { callee := .builtin .append, args := #[s, x0], argTypes := #[t, t] }) (hs : a.eval s = v) (hown : OwnS f c w E v l) (hx : a.eval x0 = u) (hr : ReadS f c w u m) (hu : NilOk u)
    (hb : (l.length + m.length) * bytes ≤ 140737488355328) (h63 : l.length + m.length ≤ maxLen)
    (h : ∀ v' w', OwnS f c w' E v' (l ++ m) → Mod (fun k => some k = v.ownBlock) w w' → (∀ k, v'.ownBlock = some k → v.ownBlock = some k ∨ w.heap.size ≤ k) → wpList P ops Q rest (a.put o.dst v') w') : wpList P ops Q (o :: rest) a w := by
  refine wpList_plain hgd fun K' hK' => ?_
  obtain ⟨v', w', hrun, h2, h3, h4⟩ := run_pushAll H o.type hown hr hu hb h63
  unfold Oper.wp execOp
  simp only [ho, resolve, invoke, builtin, Sem.run_bind, Sem.run_pure, Result.andThen_ok, List.map_toArray, List.map_cons, List.map_nil, hs, hx, hrun]
  exact hK' _ _ (h v' w' h2 h3 h4)
/-- The first of a slice of the call's own, read. -/
theorem OwnS.front (hl : ∀ x, (f x).length = c) {g n cap : Nat} (h : OwnS f c w E (.slice (some ⟨g, 0, none⟩) n cap) (l ++ m)) : ReadS f c w (.slice (some ⟨g, 0, none⟩) l.length cap) l := by
  refine ⟨some ⟨g, 0, none⟩, cap, rfl, ?_, fun i x hx => ⟨g, 0, f x, rfl, hl x, fun j u hu => ?_, rfl⟩⟩
  · rcases h.form with ⟨e, _⟩ | ⟨g', cap', e, h1, h2⟩
    · cases e
    · rw [List.length_append] at h1
      unfold maxLen at h2
      omega
  · have hx' : (l ++ m)[i]? = some x := by rw [List.getElem?_append_left (List.getElem?_eq_some_iff.1 hx).1]; exact hx
    have := OwnS.range hl h hx' j u hu
    rwa [Nat.zero_add]
theorem OwnS.some_of (h : OwnS f c w E v l) (hl : 0 < l.length) : ∃ g cap, v = .slice (some ⟨g, 0, none⟩) l.length cap ∧ l.length ≤ cap ∧ cap ≤ maxLen := by
  rcases h.form with ⟨_, rfl⟩ | h
  · cases hl
  · exact h
end
end Go.Por
