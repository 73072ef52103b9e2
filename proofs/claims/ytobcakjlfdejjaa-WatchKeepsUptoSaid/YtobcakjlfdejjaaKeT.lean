/- The law WatchKeeps of the watch, where what came in is of bulk at most 1048576: what is handed in is left as it was and : part 20 of 25: what it leans on. -/
import Derived.Laws.OwnMore
import Derived.Deep.MidRow
import Derived.Test.YtobcakjlfdejjaaKeA
import Derived.Test.YtobcakjlfdejjaaKeB
import Derived.Test.YtobcakjlfdejjaaKeC
import Derived.Test.YtobcakjlfdejjaaKeD
import Derived.Test.YtobcakjlfdejjaaKeE
import Derived.Test.YtobcakjlfdejjaaKeF
import Derived.Test.YtobcakjlfdejjaaKeG
import Derived.Test.YtobcakjlfdejjaaKeH
import Derived.Test.YtobcakjlfdejjaaKeI
import Derived.Test.YtobcakjlfdejjaaKeJ
import Derived.Test.YtobcakjlfdejjaaKeK
import Derived.Test.YtobcakjlfdejjaaKeL
import Derived.Test.YtobcakjlfdejjaaKeM
import Derived.Test.YtobcakjlfdejjaaKeN
import Derived.Test.YtobcakjlfdejjaaKeO
import Derived.Test.YtobcakjlfdejjaaKeP
import Derived.Test.YtobcakjlfdejjaaKeQ
import Derived.Test.YtobcakjlfdejjaaKeR
import Derived.Test.YtobcakjlfdejjaaKeS
section
set_option linter.unusedVariables false
set_option linter.unusedSimpArgs false
namespace Go.Proofs.Ytobcakjlfdejjaa.Watch
open Go.RowKit Go.Por Go.ChangeShapes Go.WideShapes

theorem bulk_one {H : Type} (d : DataW H) : 1 ≤ Rows.uptoBulk d := by
  cases d with
  | lit l => cases l <;> simp [Rows.uptoBulk]
  | nil => simp [Rows.uptoBulk]
  | ptr d => simp [Rows.uptoBulk]
  | slice elems spare => simp [Rows.uptoBulk]
  | agg parts => simp [Rows.uptoBulk]
  | iface t d => simp [Rows.uptoBulk]
  | map entries => simp [Rows.uptoBulk]
  | held h => simp [Rows.uptoBulk]
theorem bulk_part {H : Type} {d : DataW H} {l : List (DataW H)} (h : d ∈ l) : Rows.uptoBulk d ≤ Rows.uptoBulkAll l := by
  induction l with
  | nil => cases h
  | cons x r ih =>
    simp only [Rows.uptoBulkAll]
    rcases List.mem_cons.1 h with e | e
    · subst e; omega
    · have := ih e; omega
theorem bulk_len {H : Type} (l : List (DataW H)) : l.length ≤ Rows.uptoBulkAll l := by
  induction l with
  | nil => simp [Rows.uptoBulkAll]
  | cons x r ih => have := bulk_one x; simp only [Rows.uptoBulkAll, List.length_cons]; omega
theorem bulk_slice {H : Type} (elems spare : List (DataW H)) : elems.length ≤ Rows.uptoBulk (.slice elems spare) := by
  have h1 := bulk_len elems
  simp only [Rows.uptoBulk]
  omega
/-- A slice's length is within its capacity. -/
def CapOk (v : Value) : Prop := ∀ ao n cap, v = .slice ao n cap → n ≤ cap
section
variable {H : Type} {enc : TypeId × Value → H} {w : World} {spare : Nat → Bool} {held : Bool}
theorem slice_bulk {α : Type} {c : Nat} {f : α → List Value} {t e : TypeId} (hu : Try.prog.underlying t = some (.slice e)) {ds : List (DataW H)} (hk : Rows.uptoSmall H ds = true) {v : Value} {d : DataW H} {p : List MemPlace} {ms : List α} (hd : d ∈ ds)
    (h : DataW.Trod enc Try.prog w 0 spare held t v d p) (hs : SliceIs c (fun _ cs x => cs = f x) w v ms) : ms.length ≤ 1048576 ∧ CapOk v := by
  obtain ⟨ao, cap, rfl, _, _⟩ := hs
  obtain ⟨fuel, hf⟩ := h
  have hb : Rows.uptoBulkAll ds ≤ 1048576 := of_decide_eq_true hk
  have hp := bulk_part hd
  rcases Go.Deep.open_slice hu (show DataW.trod enc Try.prog w 0 spare held fuel t [.slice ao ms.length cap] = some (d, p) from hf) with ⟨h, _⟩ | ⟨a, len, cap', m, n', D, Pl, h, _, _, _, _, hx, _⟩
  · simp at h
    obtain ⟨h1, h0, h2⟩ := h
    have h3 : ms.length = 0 := by rw [h0]; rfl
    exact ⟨by omega, fun a b c e => by simp only [Value.slice.injEq] at e; omega⟩
  · rename_i hlc _ _ _
    simp at h
    have hdd := (Prod.mk.inj hx).1
    rw [hdd] at hp
    have := bulk_slice ((List.range len).map D) ((List.range (m - len)).map fun j => D (len + j))
    rw [List.length_map, List.length_range] at this
    refine ⟨by omega, fun a' b' c' e => ?_⟩
    simp only [Value.slice.injEq] at e
    omega
theorem rows_bulk {ds : List (DataW H)} (hk : Rows.uptoSmall H ds = true) {v : Value} {d : DataW H} {p : List MemPlace} {ms : List RowT} (hd : d ∈ ds)
    (h : DataW.Trod enc Try.prog w 0 spare held 22 v d p) (hs : SliceIs 5 (fun _ cs x => cs = rowC x) w v ms) : ms.length ≤ 1048576 ∧ CapOk v := slice_bulk Try.underlying22 hk hd h hs
theorem chgs_bulk {ds : List (DataW H)} (hk : Rows.uptoSmall H ds = true) {v : Value} {d : DataW H} {p : List MemPlace} {ms : List Chg} (hd : d ∈ ds)
    (h : DataW.Trod enc Try.prog w 0 spare held 25 v d p) (hs : SliceIs 5 (fun _ cs x => cs = chgC x) w v ms) : ms.length ≤ 1048576 ∧ CapOk v := slice_bulk Try.underlying25 hk hd h hs
end
end Go.Proofs.Ytobcakjlfdejjaa.Watch
end
section
set_option linter.unusedVariables false
set_option linter.unusedSimpArgs false
namespace Go.Por
open Go.RowKit
/-- Nil, or none that is. -/
def NilOk (v : Value) : Prop := v = .slice none 0 0 ∨ ∃ a n cap, v = .slice (some a) n cap
section
variable {α : Type} {P : Program} {t E : TypeId} {f : α → List Value} {c bytes : Nat} {w : World} {v u : Value} {l m : List α}
theorem run_pushAll (H : Elem P t E f c bytes) (ty : TypeId) (hown : OwnS f c w E v l) (hr : ReadS f c w u m) (hu : NilOk u) (hb : (l.length + m.length) * bytes ≤ 140737488355328) (h63 : l.length + m.length ≤ maxLen) :
    ∃ v' w', (Builtin.append_ #[t, t] ty #[v, u]).run P w = .ok v' w' ∧ OwnS f c w' E v' (l ++ m) ∧ Mod (fun k => some k = v.ownBlock) w w' ∧ ∀ k, v'.ownBlock = some k → v.ownBlock = some k ∨ w.heap.size ≤ k := by
  obtain ⟨i, z, hi, hz, hs, hby, hzc⟩ := H.info
  obtain ⟨ao, cap, rfl, hlen⟩ := hr.form
  rcases hu with e | ⟨a, n', cap', e⟩
  · simp only [Value.slice.injEq] at e
    obtain ⟨rfl, h0, rfl⟩ := e
    have hm : m = [] := List.length_eq_zero_iff.1 h0
    subst hm
    refine ⟨v, w, run_append_owned_none w 0 t ty E i c H.und hi v l.length (l.flatMap f) hown, by rw [List.append_nil]; exact hown, Mod.refl _ _, fun k hk => .inl hk⟩
  · simp only [Value.slice.injEq] at e
    obtain ⟨rfl, -, -⟩ := e
    have hnews : ∀ j u, (m.flatMap f)[j]? = some u → w.cell? (a.add j) = some u := fun j u hj => by
      have hj' : j < m.length * c := by
        have := (List.getElem?_eq_some_iff.1 hj).1
        rwa [flat_length H.len] at this
      have hc := H.pos
      have hd : j / c < m.length := (Nat.div_lt_iff_lt_mul hc).2 hj'
      have hx := List.getElem?_eq_getElem hd
      obtain ⟨b, o, e, hra⟩ := hr.at hx
      cases e
      have hjj := Nat.mod_lt j hc
      have h1 := flat_at H.len m (j / c) (j % c) hjj
      have e1 : j / c * c + j % c = j := by rw [Nat.mul_comm]; exact Nat.div_add_mod j c
      rw [e1, hj, hx] at h1
      have h2 : (⟨b, o, none⟩ : Addr).add j = ⟨b, o + (j / c * c) + j % c, none⟩ := by
        unfold Addr.add
        split
        · rename_i e; rw [e]; simp
        · rw [Nat.add_assoc, e1]
      rw [h2]
      exact hra _ _ h1.symm
    have h1 : ∀ u ∈ m.flatMap f, u.oneCell' = true := fun u hu => by
      obtain ⟨x, _, hx⟩ := List.mem_flatMap.1 hu
      exact H.one x u hx
    obtain ⟨v', w', hr, h2, h3, h4⟩ := run_append_own2 (P := P) w 0 t ty E i z c bytes H.und hi hz hs hby hzc H.pos v l.length (l.flatMap f) hown a m.length cap (m.flatMap f) (flat_length H.len m) hnews h1 h63 hb (Nat.zero_le _)
    refine ⟨v', w', hr, ?_, Mod.of_grown h3, h4⟩
    unfold OwnS
    rw [List.length_append, List.flatMap_append]
    exact h2
theorem wpList_pushAll {ops : Array Oper} {rest : List Oper} {o : Oper} {a : Act} {Q : Exit → Act → World → Prop} (H : Elem P t E f c bytes) (hgd : o.guard = none) (s x0 : Operand)
    (ho : o.op = .call { callee := .builtin .append, args := #[s, x0], argTypes := #[t, t] }) (hs : a.eval s = v) (hown : OwnS f c w E v l) (hx : a.eval x0 = u) (hr : ReadS f c w u m) (hu : NilOk u)
    (hb : (l.length + m.length) * bytes ≤ 140737488355328) (h63 : l.length + m.length ≤ maxLen)
    (h : ∀ v' w', OwnS f c w' E v' (l ++ m) → Mod (fun k => some k = v.ownBlock) w w' → (∀ k, v'.ownBlock = some k → v.ownBlock = some k ∨ w.heap.size ≤ k) → wpList P ops Q rest (a.put o.dst v') w') : wpList P ops Q (o :: rest) a w := by
  refine wpList_plain hgd fun K' hK' => ?_
  obtain ⟨v', w', hrun, h2, h3, h4⟩ := run_pushAll H o.type hown hr hu hb h63
  unfold Oper.wp execOp
  simp only [ho, resolve, invoke, builtin, Sem.run_bind, Sem.run_pure, Result.andThen_ok, List.map_toArray, List.map_cons, List.map_nil, hs, hx, hrun]
  exact hK' _ _ (h v' w' h2 h3 h4)
/-- The first of a slice of the call's own, read. -/
theorem OwnS.front (hl : ∀ x, (f x).length = c) {g n cap : Nat} (h : OwnS f c w E (.slice (some ⟨g, 0, none⟩) n cap) (l ++ m)) : ReadS f c w (.slice (some ⟨g, 0, none⟩) l.length cap) l := by
  refine ⟨some ⟨g, 0, none⟩, cap, rfl, ?_, fun i x hx => ⟨g, 0, f x, rfl, hl x, fun j u hu => ?_, rfl⟩⟩
  · rcases h.form with ⟨e, _⟩ | ⟨g', cap', e, h1, h2⟩
    · cases e
    · rw [List.length_append] at h1
      unfold maxLen at h2
      omega
  · have hx' : (l ++ m)[i]? = some x := by rw [List.getElem?_append_left (List.getElem?_eq_some_iff.1 hx).1]; exact hx
    have := OwnS.range hl h hx' j u hu
    rwa [Nat.zero_add]
theorem OwnS.some_of (h : OwnS f c w E v l) (hl : 0 < l.length) : ∃ g cap, v = .slice (some ⟨g, 0, none⟩) l.length cap ∧ l.length ≤ cap ∧ cap ≤ maxLen := by
  rcases h.form with ⟨_, rfl⟩ | h
  · cases hl
  · exact h
end
end Go.Por
namespace Go.Proofs.Ytobcakjlfdejjaa.Watch
open Go.RowKit Go.Por Go.ChangeShapes Go.WideShapes
theorem nil_ok {H : Type} {enc : TypeId × Value → H} {w : World} {spare : Nat → Bool} {held : Bool} {t e : TypeId} (hu : Try.prog.underlying t = some (.slice e)) {v : Value} {d : DataW H} {p : List MemPlace} {ao : Option Addr} {n cap : Nat} (hv : v = .slice ao n cap)
    (h : DataW.Trod enc Try.prog w 0 spare held t v d p) : NilOk v := by
  subst hv
  obtain ⟨fuel, hf⟩ := h
  rcases Go.Deep.open_slice hu (show DataW.trod enc Try.prog w 0 spare held fuel t [.slice ao n cap] = some (d, p) from hf) with ⟨h, _⟩ | ⟨a, len, cap', m, n', D, Pl, h, _⟩
  · simp only [List.cons.injEq, and_true] at h
    exact .inl h
  · simp only [List.cons.injEq, and_true] at h
    exact .inr ⟨a, len, cap', h⟩
/-- What a bounded slice of an argument gives. -/
def ArgOk (v : Value) (n : Nat) : Prop := n ≤ 1048576 ∧ CapOk v ∧ NilOk v
section
variable {H : Type} {enc : TypeId × Value → H} {w : World} {spare : Nat → Bool} {held : Bool}
theorem rows_arg {ds : List (DataW H)} (hk : Rows.uptoSmall H ds = true) {v : Value} {d : DataW H} {p : List MemPlace} {ms : List RowT} (hd : d ∈ ds)
    (h : DataW.Trod enc Try.prog w 0 spare held 22 v d p) (hs : SliceIs 5 (fun _ cs x => cs = rowC x) w v ms) : ArgOk v ms.length := by
  have h1 := rows_bulk hk hd h hs
  obtain ⟨ao, cap, hv, _⟩ := hs
  exact ⟨h1.1, h1.2, nil_ok Try.underlying22 hv h⟩
theorem chgs_arg {ds : List (DataW H)} (hk : Rows.uptoSmall H ds = true) {v : Value} {d : DataW H} {p : List MemPlace} {ms : List Chg} (hd : d ∈ ds)
    (h : DataW.Trod enc Try.prog w 0 spare held 25 v d p) (hs : SliceIs 5 (fun _ cs x => cs = chgC x) w v ms) : ArgOk v ms.length := by
  have h1 := chgs_bulk hk hd h hs
  obtain ⟨ao, cap, hv, _⟩ := hs
  exact ⟨h1.1, h1.2, nil_ok Try.underlying25 hv h⟩
end
end Go.Proofs.Ytobcakjlfdejjaa.Watch
end
section
set_option linter.unusedVariables false
set_option linter.unusedSimpArgs false
namespace Go.Proofs.Ytobcakjlfdejjaa.Watch
open Go.RowKit Go.Por Go.Sort

/-- A change is put behind all that don't stand behind it. -/
structure PutAt (c : Chg) (l r : List Chg) (A B : List Chg) : Prop where
  l_eq : l = A ++ B
  r_eq : r = A ++ c :: B
  behind : ∀ b ∈ B, ltOf ccmp c b = true
  ahead : ∀ a, A.getLast? = some a → ltOf ccmp c a = false
theorem PutAt.len {c : Chg} {l r A B : List Chg} (h : PutAt c l r A B) : r.length = l.length + 1 := by
  rw [h.l_eq, h.r_eq]
  simp only [List.length_append, List.length_cons]
  omega
end Go.Proofs.Ytobcakjlfdejjaa.Watch
end
