/- Slices of structs that the call owns: the cells of element i, stores into them, one element taken out. No program in sight. -/
import Derived.Test.YtojjnfhgldjgbaaDoorMap
import Derived.Laws.OwnMore
set_option linter.unusedVariables false
set_option linter.unusedSimpArgs false
namespace Go.Por
open Go.RowKit

section
variable {α : Type} {f : α → List Value} {c : Nat}

theorem flat_length (hc : ∀ x, (f x).length = c) : ∀ l : List α, (l.flatMap f).length = l.length * c
  | [] => by simp
  | x :: r => by rw [List.flatMap_cons, List.length_append, flat_length hc r, hc, List.length_cons, Nat.add_mul]; omega
theorem flat_at (hc : ∀ x, (f x).length = c) : ∀ (l : List α) (i j : Nat), j < c → (l.flatMap f)[i * c + j]? = (l[i]?).bind (fun x => (f x)[j]?)
  | [], i, j, _ => by simp
  | x :: r, 0, j, hj => by
    rw [List.flatMap_cons, Nat.zero_mul, Nat.zero_add, List.getElem?_append_left (by rw [hc]; exact hj)]
    rfl
  | x :: r, i + 1, j, hj => by
    have h1 : (i + 1) * c + j = c + (i * c + j) := by rw [Nat.add_mul]; omega
    rw [List.flatMap_cons, h1, List.getElem?_append_right (by rw [hc]; omega), hc, Nat.add_sub_cancel_left, flat_at hc r i j hj]
    rfl
theorem flat_take (hc : ∀ x, (f x).length = c) : ∀ (l : List α) (i : Nat), (l.flatMap f).take (i * c) = (l.take i).flatMap f
  | [], i => by simp
  | x :: r, 0 => by simp
  | x :: r, i + 1 => by
    have h1 : (i + 1) * c = (f x).length + i * c := by rw [hc, Nat.add_mul]; omega
    rw [List.flatMap_cons, h1, List.take_length_add_append, flat_take hc r i, List.take_succ_cons, List.flatMap_cons]
theorem flat_drop (hc : ∀ x, (f x).length = c) : ∀ (l : List α) (i : Nat), (l.flatMap f).drop (i * c) = (l.drop i).flatMap f
  | [], i => by simp
  | x :: r, 0 => by simp
  | x :: r, i + 1 => by
    have h1 : (i + 1) * c = (f x).length + i * c := by rw [hc, Nat.add_mul]; omega
    rw [List.flatMap_cons, h1, List.drop_length_add_append, flat_drop hc r i, List.drop_succ_cons]
theorem flat_set (hc : ∀ x, (f x).length = c) {l : List α} {i j : Nat} {x y : α} {u : Value} (hj : j < c) (hx : l[i]? = some x) (hy : f y = (f x).set j u) :
    (l.flatMap f).set (i * c + j) u = (l.set i y).flatMap f := by
  have hi : i < l.length := by
    rcases Nat.lt_or_ge i l.length with h | h
    · exact h
    · simp [List.getElem?_eq_none h] at hx
  apply List.ext_getElem?
  intro k
  have hcp : 0 < c := by omega
  obtain ⟨q, s, hs, rfl⟩ : ∃ q s, s < c ∧ k = q * c + s := ⟨k / c, k % c, Nat.mod_lt _ hcp, by rw [Nat.mul_comm]; exact (Nat.div_add_mod k c).symm⟩
  rw [flat_at hc _ _ _ hs, List.getElem?_set, List.getElem?_set]
  by_cases hq : i = q
  · subst hq
    simp only [if_true, hi]
    by_cases hsj : j = s
    · subst hsj
      have hlt : i * c + j < (l.flatMap f).length := by
        rw [flat_length hc]
        calc i * c + j < i * c + c := by omega
          _ = (i + 1) * c := by rw [Nat.add_mul]; omega
          _ ≤ l.length * c := Nat.mul_le_mul_right _ hi
      rw [if_pos rfl, if_pos hlt]
      have hj' : j < (f x).length := by rw [hc]; exact hj
      show some u = (f y)[j]?
      rw [hy, List.getElem?_set, if_pos rfl, if_pos hj']
    · rw [if_neg (by omega), flat_at hc _ _ _ hs, hx]
      show (f x)[s]? = (f y)[s]?
      rw [hy, List.getElem?_set, if_neg hsj]
  · have hne : ¬ (i * c + j = q * c + s) := by
      intro e
      rcases Nat.lt_or_gt_of_ne hq with h | h
      · have : (i + 1) * c ≤ q * c := Nat.mul_le_mul_right _ h
        rw [Nat.add_mul] at this
        omega
      · have : (q + 1) * c ≤ i * c := Nat.mul_le_mul_right _ h
        rw [Nat.add_mul] at this
        omega
    rw [if_neg hne, if_neg hq, flat_at hc _ _ _ hs]
theorem flat_eraseIdx (l : List α) (i : Nat) : (l.eraseIdx i).flatMap f = (l.take i).flatMap f ++ (l.drop (i + 1)).flatMap f := by
  rw [List.eraseIdx_eq_take_drop_succ, List.flatMap_append]

variable {w : World} {E : TypeId} {g n cap : Nat} {l : List α}

/-- A slice of the call's own: its elements are l. -/
def OwnS (f : α → List Value) (c : Nat) (w : World) (E : TypeId) (v : Value) (l : List α) : Prop := w.ownsRow 0 E c v l.length (l.flatMap f)

theorem OwnS.nil (f : α → List Value) (c : Nat) (w : World) (E : TypeId) : OwnS f c w E (.slice none 0 0) [] := World.ownsRow_nil w 0 E c
theorem OwnS.form {v : Value} (h : OwnS f c w E v l) : (v = .slice none 0 0 ∧ l = []) ∨ ∃ g cap, v = .slice (some ⟨g, 0, none⟩) l.length cap ∧ l.length ≤ cap ∧ cap ≤ maxLen := by
  obtain ⟨_, ⟨h1, h2⟩ | ⟨g, cap, cur, h1, _, _, h2, h3, _⟩⟩ := h
  · exact .inl ⟨h1, List.length_eq_zero_iff.1 h2⟩
  · exact .inr ⟨g, cap, h1, h2, h3⟩
theorem OwnS.block (h : OwnS f c w E (.slice (some ⟨g, 0, none⟩) n cap) l) : ∃ cur, w.heap[g]? = some (.cells cur E (0, 0)) ∧ cur.size = cap * c ∧ cur.toList.take (l.length * c) = l.flatMap f ∧ n = l.length ∧ l.length ≤ cap ∧ cap ≤ maxLen := by
  obtain ⟨_, ⟨h1, h2⟩ | ⟨g', cap', cur, h1, _, h2, h3, h4, h5, h6⟩⟩ := h
  · simp at h1
  · simp only [Value.slice.injEq, Option.some.injEq, Addr.mk.injEq, and_true] at h1
    obtain ⟨rfl, rfl, rfl⟩ := h1
    exact ⟨cur, h2, h5, h6, rfl, h3, h4⟩
theorem OwnS.cell (hc : ∀ x, (f x).length = c) (h : OwnS f c w E (.slice (some ⟨g, 0, none⟩) n cap) l) {i j : Nat} {x : α} {u : Value} (hx : l[i]? = some x) (hj : j < c) (hu : (f x)[j]? = some u) : w.cell? ⟨g, i * c + j, none⟩ = some u := by
  obtain ⟨cur, h1, h2, h3, _⟩ := h.block
  have hi : i < l.length := by
    rcases Nat.lt_or_ge i l.length with h | h
    · exact h
    · simp [List.getElem?_eq_none h] at hx
  have hlt : i * c + j < l.length * c := by
    calc i * c + j < i * c + c := by omega
      _ = (i + 1) * c := by rw [Nat.add_mul]; omega
      _ ≤ l.length * c := Nat.mul_le_mul_right _ hi
  refine cell_of h1 ?_
  rw [← Array.getElem?_toList]
  have := congrArg (fun q => q[i * c + j]?) h3
  simp only [List.getElem?_take, hlt, if_true] at this
  rw [this, flat_at hc _ _ _ hj, hx]
  exact hu
theorem OwnS.free (h : OwnS f c w E (.slice (some ⟨g, 0, none⟩) n cap) l) (i : Nat) : w.frozen? ⟨g, i, none⟩ = false := by
  obtain ⟨cur, h1, _⟩ := h.block
  exact free_of h1
theorem OwnS.lt (h : OwnS f c w E (.slice (some ⟨g, 0, none⟩) n cap) l) : g < w.heap.size := by
  obtain ⟨cur, h1, _⟩ := h.block
  exact lt_block h1
theorem OwnS.mod {v : Value} {S : Nat → Prop} {w' : World} (h : OwnS f c w E v l) (hm : Mod S w w') (hn : ∀ k, v.ownBlock = some k → ¬ S k) : OwnS f c w' E v l := hm.row h hn
/-- A cell of an element is written. -/
theorem OwnS.set (hc : ∀ x, (f x).length = c) (h : OwnS f c w E (.slice (some ⟨g, 0, none⟩) n cap) l) {i j : Nat} {x y : α} {u : Value} (hx : l[i]? = some x) (hj : j < c) (hy : f y = (f x).set j u) :
    OwnS f c (w.setCell ⟨g, i * c + j, none⟩ u) E (.slice (some ⟨g, 0, none⟩) n cap) (l.set i y) := by
  obtain ⟨cur, h1, h2, h3, rfl, h4, h5⟩ := h.block
  have := (World.ownsRow.stored (w := w) h (i * c + j) u).1
  rw [flat_set hc hj hx hy] at this
  unfold OwnS
  rw [List.length_set]
  exact this

theorem mod_setRow {cs : Array Value} : Mod (fun x => x = g) w (w.setRow g cs) :=
  ⟨rfl, rfl, rfl, by simp, fun k _ hk => setRow_other w g k cs hk⟩

section
variable {P : Program}
/-- append(s[:i], s[i+1:]...) on an owned slice: one element is out; the row is written in place. -/
theorem OwnS.shift (hc : ∀ x, (f x).length = c) (hone : ∀ x, ∀ u ∈ f x, u.oneCell' = true) {t ty : TypeId} {ti : TypeInfo} (ht : P.underlying t = some (.slice E)) (hi : P.info? E = some ti) (hsz : ti.size = c)
    (h : OwnS f c w E (.slice (some ⟨g, 0, none⟩) n cap) l) {i : Nat} (hil : i < l.length) (x : Value) (hx : (∃ c', x = .slice (some ⟨g, (i + 1) * c, none⟩) (l.length - (i + 1)) c') ∨ (i + 1 = l.length ∧ ∃ a c', x = .slice (some a) 0 c')) :
    ∃ w', (Builtin.append_ #[t, t] ty #[.slice (some ⟨g, 0, none⟩) i cap, x]).run P w = .ok (.slice (some ⟨g, 0, none⟩) (l.length - 1) cap) w' ∧
      OwnS f c w' E (.slice (some ⟨g, 0, none⟩) (l.length - 1) cap) (l.eraseIdx i) ∧ Mod (fun x => x = g) w w' := by
  obtain ⟨cur, h1, h2, h3, rfl, h4, h5⟩ := h.block
  subst hsz
  have hcur : cur.toList.length = cap * ti.size := by simpa using h2
  have hle : l.length * ti.size ≤ cap * ti.size := Nat.mul_le_mul_right _ h4
  have hnl : ((l.drop (i + 1)).flatMap f).length = (l.length - (i + 1)) * ti.size := by rw [flat_length hc]; simp
  have hi1 : (i + 1) * ti.size ≤ l.length * ti.size := Nat.mul_le_mul_right _ hil
  have hi2 : (i + 1) * ti.size = i * ti.size + ti.size := by rw [Nat.add_mul]; omega
  have hsum : (i + 1) * ti.size + (l.length - (i + 1)) * ti.size = l.length * ti.size := by rw [← Nat.add_mul]; congr 1; omega
  have hsum2 : i * ti.size + (l.length - (i + 1)) * ti.size = (l.length - 1) * ti.size := by rw [← Nat.add_mul]; congr 1; omega
  obtain ⟨a, c', hxe, hnews⟩ : ∃ a c', x = .slice (some a) (l.length - (i + 1)) c' ∧ ∀ j u, ((l.drop (i + 1)).flatMap f)[j]? = some u → w.cell? (a.add j) = some u := by
    rcases hx with ⟨c', rfl⟩ | ⟨hn, a, c', rfl⟩
    · refine ⟨_, c', rfl, fun j u hu => ?_⟩
      have e : (⟨g, (i + 1) * ti.size, none⟩ : Addr).add j = ⟨g, (i + 1) * ti.size + j, none⟩ := by
        unfold Addr.add; split
        · rename_i e; subst e; rfl
        · rfl
      rw [e]
      refine cell_of h1 ?_
      rw [← flat_drop hc, List.getElem?_drop, ← h3, List.getElem?_take] at hu
      split at hu
      · rw [← Array.getElem?_toList]; exact hu
      · cases hu
    · refine ⟨a, c', by rw [show l.length - (i + 1) = 0 by omega], fun j u hu => ?_⟩
      rw [List.drop_eq_nil_of_le (by omega)] at hu
      simp at hu
  have hr := run_append_room (P := P) w t ty E ti ht hi g i cap cur h1 a (l.length - (i + 1)) c' ((l.drop (i + 1)).flatMap f) hnl hnews (fun u hu => by
    obtain ⟨y, _, hy⟩ := List.mem_flatMap.1 hu
    exact hone y u hy) (by omega) (by rw [hnl, hsum2]; have : (l.length - 1) * ti.size ≤ l.length * ti.size := Nat.mul_le_mul_right _ (by omega); omega)
  rw [show i + (l.length - (i + 1)) = l.length - 1 by omega] at hr
  subst hxe
  refine ⟨_, hr, ?_, mod_setRow⟩
  have hel : (l.eraseIdx i).length = l.length - 1 := by rw [List.length_eraseIdx, if_pos hil]
  refine ⟨by rw [flat_length hc], .inr ⟨g, cap, _, by rw [hel], Nat.zero_le _, setRow_heap w g cur _ E _ h1, by rw [hel]; omega, h5, ?_, ?_⟩⟩
  · simp only [List.size_toArray, List.length_append, List.length_take, List.length_drop, hnl, hcur]
    omega
  · rw [hel, flat_eraseIdx]
    have e1 : cur.toList.take (i * ti.size) = (l.take i).flatMap f := by
      rw [← flat_take hc, ← h3, List.take_take]
      congr 1
      omega
    rw [e1]
    refine List.take_left' ?_
    rw [List.length_append, hnl, flat_length hc, List.length_take, ← hsum2]
    congr 2
    omega
/-- clear(s[len:len+1]) behind it: what is owned stays. -/
theorem OwnS.wipe {t ty : TypeId} {z : Value} (ht : P.underlying t = some (.slice E)) (hz : (zeroValue E).run P w = .ok z w) (hzc : z.cells.size = c) (hzo : ∀ u ∈ (Builtin.zeroCells z.cells 1).toList, u.oneCell' = true)
    (h : OwnS f c w E (.slice (some ⟨g, 0, none⟩) n cap) l) (hroom : l.length < cap) (c' : Nat) :
    ∃ w', (Builtin.clear_ #[t] ty #[.slice (some ⟨g, l.length * c, none⟩) 1 c']).run P w = .ok (.tuple #[]) w' ∧ OwnS f c w' E (.slice (some ⟨g, 0, none⟩) n cap) l ∧ Mod (fun x => x = g) w w' := by
  obtain ⟨cur, h1, h2, h3, rfl, h4, h5⟩ := h.block
  have hzl : (Builtin.zeroCells z.cells 1).toList.length = c := by rw [Array.length_toList, size_zeroCells, hzc, Nat.one_mul]
  have hle : (l.length + 1) * c ≤ cap * c := Nat.mul_le_mul_right _ hroom
  rw [Nat.add_mul, Nat.one_mul] at hle
  have hr := run_storeCells_at P g (l.length * c) E (Builtin.zeroCells z.cells 1).toList 0 cur w h1 (by rw [hzl, h2]; omega) hzo
  have hcur : cur.toList.length = cap * c := by simpa using h2
  obtain ⟨W, hW⟩ : ∃ W, W = w.setRow g (cur.toList.take (l.length * c + 0) ++ (Builtin.zeroCells z.cells 1).toList ++ cur.toList.drop (l.length * c + 0 + (Builtin.zeroCells z.cells 1).toList.length)).toArray := ⟨_, rfl⟩
  rw [← hW] at hr
  refine ⟨W, by simp [Builtin.clear_, run_underlying ht, hz, Result.andThen, hr], ?_, by rw [hW]; exact mod_setRow⟩
  rw [hW]
  refine ⟨h.1, .inr ⟨g, cap, _, rfl, Nat.zero_le _, setRow_heap w g cur _ E _ h1, h4, h5, ?_, ?_⟩⟩
  · rw [List.size_toArray, List.length_append, List.length_append, List.length_take, List.length_drop, hzl, hcur]
    omega
  · have hl1 : (cur.toList.take (l.length * c + 0)).length = l.length * c := by rw [List.length_take, hcur]; omega
    rw [List.append_assoc]
    refine (List.take_left' hl1).trans ?_
    rw [Nat.add_zero]
    exact h3
end
end

section
variable {P : Program} (w : World)
/-- Append to a slice of the call's own, and where the new slice lies: where it lay, or in a new block. -/
theorem run_append_own2 (base : Nat) (t ty e : TypeId) (i : TypeInfo) (z : Value) (size bytes : Nat) (ht : P.underlying t = some (.slice e)) (hi : P.info? e = some i) (hz : i.zero = some z)
    (hsize : i.size = size) (hby : i.bytes = bytes) (hzs : z.cells.size = size) (hsz : 0 < size)
    (v : Value) (n : Nat) (xs : List Value) (hown : w.ownsRow base e size v n xs)
    (a : Addr) (m c : Nat) (news : List Value) (hl : news.length = m * size) (hnews : ∀ j u, news[j]? = some u → w.cell? (a.add j) = some u) (h1 : ∀ u ∈ news, u.oneCell' = true)
    (h63 : n + m ≤ maxLen) (hbytes : (n + m) * bytes ≤ 140737488355328) (hbase : base ≤ w.heap.size) :
    ∃ v' w', (Builtin.append_ #[t, t] ty #[v, .slice (some a) m c]).run P w = .ok v' w' ∧ w'.ownsRow base e size v' (n + m) (xs ++ news) ∧ w.grownBy w' v.ownBlock ∧
      ∀ x, v'.ownBlock = some x → v.ownBlock = some x ∨ w.heap.size ≤ x := by
  obtain ⟨v', w', hr, h2, h3, h4⟩ := run_append_own (P := P) w base t ty e i z size bytes ht hi hz hsize hby hzs hsz v n xs hown a m c news hl hnews h1 h63 hbytes hbase
  refine ⟨v', w', hr, h2, h3, fun x hx => ?_⟩
  subst hsize
  subst hby
  have hsmall : n + m ≤ 9223372036854775807 := by simp only [maxLen] at h63; omega
  rcases hown.2 with ⟨rfl, rfl⟩ | ⟨g, cap, cur, rfl, hbg, hg, hnc, hcm, hcs, htake⟩
  · by_cases hm : m = 0
    · have := h4.2 ⟨rfl, hm⟩
      subst this
      simp [Value.ownBlock] at hx
    · have hr2 := run_append_nil (P := P) w t ty e i z ht hi hz a m c news hl hnews (by omega) (by omega) (by have hb := hbytes; simp only [Nat.zero_add] at hb; omega)
      rw [hr2] at hr
      cases hr
      simp only [Value.ownBlock, Option.some.injEq] at hx
      exact .inr (by omega)
  · by_cases hroom : n + m ≤ cap
    · have hfit : n * i.size + news.length ≤ cur.size := by rw [hl, hcs, ← Nat.add_mul]; exact Nat.mul_le_mul_right _ hroom
      have hr2 := run_append_room (P := P) w t ty e i ht hi g n cap cur hg a m c news hl hnews h1 hroom hfit
      rw [hr2] at hr
      cases hr
      exact .inl hx
    · have holds : ∀ j u, xs[j]? = some u → w.cell? ((⟨g, 0, none⟩ : Addr).add j) = some u := hown.cells (g := g) rfl
      have hr2 := run_append_grow (P := P) w t ty e i z ht hi hz ⟨g, 0, none⟩ n cap xs hown.1 holds a m c news hl hnews (by omega) (by omega) (growslice_fits (by omega) hbytes)
      rw [hr2] at hr
      cases hr
      simp only [Value.ownBlock, Option.some.injEq] at hx
      exact .inr (by omega)
theorem wpList_append_own2 {ops : Array Oper} {rest : List Oper} {o : Oper} {a : Act} {Q : Exit → Act → World → Prop} (hgd : o.guard = none) (s x : Operand) (t : TypeId)
    (ho : o.op = .call { callee := .builtin .append, args := #[s, x], argTypes := #[t, t] })
    (base : Nat) (e : TypeId) (i : TypeInfo) (z : Value) (size bytes : Nat) (ht : P.underlying t = some (.slice e)) (hi : P.info? e = some i) (hz : i.zero = some z)
    (hsize : i.size = size) (hby : i.bytes = bytes) (hzs : z.cells.size = size) (hsz : 0 < size)
    (v : Value) (n : Nat) (xs : List Value) (hs : a.eval s = v) (hown : w.ownsRow base e size v n xs)
    (ad : Addr) (m c : Nat) (news : List Value) (hx : a.eval x = .slice (some ad) m c) (hl : news.length = m * size) (hnews : ∀ j u, news[j]? = some u → w.cell? (ad.add j) = some u) (h1 : ∀ u ∈ news, u.oneCell' = true)
    (h63 : n + m ≤ maxLen) (hbytes : (n + m) * bytes ≤ 140737488355328) (hbase : base ≤ w.heap.size)
    (h : ∀ v' w', w'.ownsRow base e size v' (n + m) (xs ++ news) → w.grownBy w' v.ownBlock → (∀ x, v'.ownBlock = some x → v.ownBlock = some x ∨ w.heap.size ≤ x) → wpList P ops Q rest (a.put o.dst v') w') : wpList P ops Q (o :: rest) a w := by
  refine wpList_plain hgd fun K' hK' => ?_
  obtain ⟨v', w', hr, h2, h3, h4⟩ := run_append_own2 (P := P) w base t o.type e i z size bytes ht hi hz hsize hby hzs hsz v n xs hown ad m c news hl hnews h1 h63 hbytes hbase
  unfold Oper.wp execOp
  simp only [ho, resolve, invoke, builtin, Sem.run_bind, Sem.run_pure, Result.andThen_ok, List.map_toArray, List.map_cons, List.map_nil, hs, hx, hr]
  exact hK' _ _ (h v' w' h2 h3 h4)
end
end Go.Por
