/- Maps that a call makes, as finite partial functions on keys: look-up, store, delete, len, ranging. No program in sight. -/
import Derived.Test.YtojjnfhgldjgbaaDoorBase
import Derived.MapKept
set_option linter.unusedVariables false
set_option linter.unusedSimpArgs false
namespace Go.Por
open Go.RowKit Go.MapKept

/-- What a map asks of its keys' type: 'enc k' is key k as a value. -/
structure KeyOK (P : Program) (kt : TypeId) (κ : Type) (enc : κ → Value) : Prop where
  inj : ∀ {a b : κ}, enc a = enc b → a = b
  check : ∀ (w : World) (em : Bool) (k : κ), (Instr.checkKey em 10000 kt (enc k)).run P w = .ok () w
  find : ∀ (w : World) (k : κ) (es : List MapEntry), (∀ e ∈ es, ∃ k', e.key = enc k') →
    ((Instr.findKey kt (enc k) es).run P w = .ok none w ∧ ∀ e ∈ es, e.key ≠ enc k) ∨
    ∃ j e, (Instr.findKey kt (enc k) es).run P w = .ok (some (j, e.val)) w ∧ es[j]? = some e ∧ e.key = enc k
  stays : ∀ (w : World) (k : κ), (Instr.keyThatStays (enc k) (enc k)).run P w = .ok (enc k) w

theorem KeyOK.plain {P : Program} {kt : TypeId} {κ : Type} {enc : κ → Value} {d : TypeDesc} (hd : P.underlying kt = some d) (hk : ∀ k, IsKey d (enc k)) (inj : ∀ {a b : κ}, enc a = enc b → a = b) : KeyOK P kt κ enc where
  inj := inj
  check w em k := run_checkKey hd (hk k) em 9999
  find w k es hes := by
    have hks : ∀ x ∈ es, IsKey d x.key := fun x hx => by obtain ⟨k', e⟩ := hes x hx; rw [e]; exact hk k'
    rcases findNow_spec (hk k) es 0 hks with ⟨h1, h2⟩ | ⟨j, e0, h1, h2, h3⟩
    · exact .inl ⟨run_findKey hd h1, h2⟩
    · exact .inr ⟨j, e0, by simpa using run_findKey hd h1, h2, h3⟩
  stays w k := run_keyThatStays (hk k)

theorem KeyOK.int {P : Program} {kt : TypeId} {q : IntKind} (hd : P.underlying kt = some (.int q)) : KeyOK P kt Int (fun n => .int q n) :=
  .plain hd (fun _ => by simp [IsKey]) (fun h => by cases h; rfl)
theorem KeyOK.str {P : Program} {kt : TypeId} (hd : P.underlying kt = some .string) : KeyOK P kt ByteArray (fun s => .string s) :=
  .plain hd (fun _ => by simp [IsKey]) (fun h => by cases h; rfl)

section
variable {P : Program} {kt et t : TypeId} {κ : Type} {enc : κ → Value} {w : World} {M : Nat}

/-- The entries of block M, as keys and values; their stamps are unlike, and below the clock. -/
def MapIs (w : World) (M : Nat) (enc : κ → Value) (l : List (κ × Value)) : Prop :=
  ∃ es clock, w.heap[M]? = some (.map es clock) ∧ es.toList.map (fun e => (e.key, e.val)) = l.map (fun p => (enc p.1, p.2)) ∧ (l.map Prod.fst).Nodup ∧
    (∀ e ∈ es.toList, e.born < clock) ∧ (es.toList.map (·.born)).Nodup

theorem MapIs.lt {l : List (κ × Value)} (h : MapIs w M enc l) : M < w.heap.size := by
  obtain ⟨es, c, hb, _⟩ := h
  exact lt_block hb
theorem MapIs.keep {l : List (κ × Value)} {w' : World} (h : MapIs w M enc l) (hb : w'.heap[M]? = w.heap[M]?) : MapIs w' M enc l := by
  obtain ⟨es, c, h1, h2⟩ := h
  exact ⟨es, c, hb.trans h1, h2⟩
theorem MapIs.mod {l : List (κ × Value)} {S : Nat → Prop} {w' : World} (h : MapIs w M enc l) (hm : Mod S w w') (hn : ¬ S M) : MapIs w' M enc l :=
  h.keep (hm.block M h.lt hn)
theorem MapIs.alloc {l : List (κ × Value)} (h : MapIs w M enc l) (o : Obj) : MapIs (w.alloc o) M enc l := h.keep (Below.heap_alloc _ _ _ h.lt)
theorem MapIs.setCell {l : List (κ × Value)} (h : MapIs w M enc l) {a : Addr} (u : Value) (hn : a.block ≠ M) : MapIs (w.setCell a u) M enc l :=
  h.keep (Below.heap_setCell _ _ _ _ hn.symm)
theorem MapIs.made (w : World) (enc : κ → Value) : MapIs (w.alloc (.map #[] 0)) w.heap.size enc [] :=
  ⟨#[], 0, block_new _ _, rfl, by simp, by simp, by simp⟩

theorem map_get {es : List MapEntry} {l : List (κ × Value)} (h : es.map (fun e => (e.key, e.val)) = l.map (fun p => (enc p.1, p.2))) :
    (∀ e ∈ es, ∃ k', e.key = enc k') := by
  intro e he
  have : (e.key, e.val) ∈ l.map (fun p => (enc p.1, p.2)) := by rw [← h]; exact List.mem_map.2 ⟨e, he, rfl⟩
  obtain ⟨p, _, hp⟩ := List.mem_map.1 this
  exact ⟨p.1, (Prod.mk.inj hp).1.symm⟩

/-- The entry at a place. -/
theorem map_at {es : List MapEntry} {l : List (κ × Value)} (h : es.map (fun e => (e.key, e.val)) = l.map (fun p => (enc p.1, p.2))) {j : Nat} {e : MapEntry} (he : es[j]? = some e) :
    ∃ p, l[j]? = some p ∧ e.key = enc p.1 ∧ e.val = p.2 := by
  have : (es.map (fun e => (e.key, e.val)))[j]? = some (e.key, e.val) := by simp [he]
  rw [h, List.getElem?_map] at this
  cases hl : l[j]? with
  | none => simp [hl] at this
  | some p => simp [hl] at this; exact ⟨p, rfl, this.1.symm, this.2.symm⟩

theorem miss_of {es : List MapEntry} {l : List (κ × Value)} (h : es.map (fun e => (e.key, e.val)) = l.map (fun p => (enc p.1, p.2))) {k : κ} (hm : ∀ e ∈ es, e.key ≠ enc k) : k ∉ l.map Prod.fst := by
  intro hk
  obtain ⟨p, hp, e⟩ := List.mem_map.1 hk
  have : (enc p.1, p.2) ∈ es.map (fun e => (e.key, e.val)) := by rw [h]; exact List.mem_map.2 ⟨p, hp, rfl⟩
  obtain ⟨x, hx, ex⟩ := List.mem_map.1 this
  exact hm x hx (by rw [(Prod.mk.inj ex).1, e])

/-- The two ways of finding a key. -/
theorem MapIs.find {l : List (κ × Value)} {es : Array MapEntry} (K : KeyOK P kt κ enc) (h : es.toList.map (fun e => (e.key, e.val)) = l.map (fun p => (enc p.1, p.2))) (k : κ) (w : World) :
    ((Instr.findKey kt (enc k) es.toList).run P w = .ok none w ∧ k ∉ l.map Prod.fst) ∨
    ∃ j v, (Instr.findKey kt (enc k) es.toList).run P w = .ok (some (j, v)) w ∧ l[j]? = some (k, v) ∧ ∃ e, es[j]? = some e ∧ e.key = enc k ∧ e.val = v := by
  rcases K.find w k es.toList (map_get h) with ⟨h1, h2⟩ | ⟨j, e, h1, h2, h3⟩
  · exact .inl ⟨h1, miss_of h h2⟩
  · obtain ⟨p, hp, e1, e2⟩ := map_at h h2
    have : p = (k, e.val) := by
      have := K.inj (e1.symm.trans h3)
      cases p; simp_all
    exact .inr ⟨j, e.val, h1, by rw [hp, this], e, by simpa using h2, h3, rfl⟩

theorem MapIs.look_miss {l : List (κ × Value)} (K : KeyOK P kt κ enc) (ht : P.underlying t = some (.map kt et)) (h : MapIs w M enc l) {k : κ} (hk : k ∉ l.map Prod.fst) {z : Value} (hz : (zeroValue et).run P w = .ok z w) (c : Bool) :
    (Instr.lookup t (.map (some M)) (enc k) c).run P w = .ok (if c then .tuple #[z, .bool false] else z) w := by
  obtain ⟨es, clock, hb, he, hn, _⟩ := h
  rcases MapIs.find K he k w with ⟨h1, h2⟩ | ⟨j, v, h1, h2, _⟩
  · simp [Instr.lookup, run_underlying ht, MapKept.run_getObj_map hb, K.check w _ k, h1, hz, Result.andThen]
  · exact absurd (List.mem_map.2 ⟨_, List.mem_of_getElem? h2, rfl⟩) hk
theorem nodup_val {l : List (κ × Value)} (hn : (l.map Prod.fst).Nodup) {k : κ} {u v : Value} (h1 : (k, u) ∈ l) (h2 : (k, v) ∈ l) : u = v := by
  induction l with
  | nil => cases h1
  | cons x r ih =>
    simp only [List.map_cons, List.nodup_cons] at hn
    rcases List.mem_cons.1 h1 with e1 | e1
    · rcases List.mem_cons.1 h2 with e2 | e2
      · rw [← e1] at e2; cases e2; rfl
      · exact absurd (List.mem_map.2 ⟨_, e2, by rw [← e1]⟩) hn.1
    · rcases List.mem_cons.1 h2 with e2 | e2
      · exact absurd (List.mem_map.2 ⟨_, e1, by rw [← e2]⟩) hn.1
      · exact ih hn.2 e1 e2
theorem MapIs.look_hit {l : List (κ × Value)} (K : KeyOK P kt κ enc) (ht : P.underlying t = some (.map kt et)) (h : MapIs w M enc l) {k : κ} {v : Value} (hk : (k, v) ∈ l) (c : Bool) :
    (Instr.lookup t (.map (some M)) (enc k) c).run P w = .ok (if c then .tuple #[v, .bool true] else v) w := by
  obtain ⟨es, clock, hb, he, hn, _⟩ := h
  rcases MapIs.find K he k w with ⟨h1, h2⟩ | ⟨j, u, h1, h2, _⟩
  · exact absurd (List.mem_map.2 ⟨_, hk, rfl⟩) h2
  · have : u = v := nodup_val hn (List.mem_of_getElem? h2) hk
    subst this
    simp [Instr.lookup, run_underlying ht, MapKept.run_getObj_map hb, K.check w _ k, h1, Result.andThen]
theorem MapIs.len {l : List (κ × Value)} {ty : TypeId} (ht : P.underlying t = some (.map kt et)) (h : MapIs w M enc l) :
    (Builtin.len_ #[t] ty #[.map (some M)]).run P w = .ok (goInt l.length) w := by
  obtain ⟨es, clock, hb, he, _⟩ := h
  have : es.size = l.length := by simpa using congrArg List.length he
  simp [Builtin.len_, run_underlying ht, MapKept.run_getObj_map hb, this]

theorem map_eraseIdx {α β : Type} (f : α → β) : ∀ (l : List α) (i : Nat), (l.eraseIdx i).map f = (l.map f).eraseIdx i
  | [], _ => rfl
  | _ :: _, 0 => rfl
  | x :: r, i + 1 => by simp [map_eraseIdx f r i]

/-- The world in which block M is another object. -/
def setB (w : World) (M : Nat) (o : Obj) : World := { w with heap := w.heap.setIfInBounds M o }
theorem setB_mod (w : World) (M : Nat) (o : Obj) : Mod (fun x => x = M) w (setB w M o) :=
  ⟨rfl, rfl, rfl, by simp [setB], fun k hk hn => by simp [setB, Ne.symm hn]⟩

/-- A list's entries with one put: in its place, or at the end. -/
def mput [DecidableEq κ] (l : List (κ × Value)) (k : κ) (v : Value) : List (κ × Value) :=
  if k ∈ l.map Prod.fst then l.map (fun p => if p.1 = k then (k, v) else p) else l ++ [(k, v)]
def mdel [DecidableEq κ] (l : List (κ × Value)) (k : κ) : List (κ × Value) := l.filter (fun p => decide (p.1 ≠ k))

theorem mput_fst_old [DecidableEq κ] (l : List (κ × Value)) (k : κ) (v : Value) (h : k ∈ l.map Prod.fst) : (mput l k v).map Prod.fst = l.map Prod.fst := by
  rw [mput, if_pos h, List.map_map]
  apply List.map_congr_left
  intro p _
  simp only [Function.comp]
  split <;> simp_all
theorem mput_fst_new [DecidableEq κ] (l : List (κ × Value)) (k : κ) (v : Value) (h : k ∉ l.map Prod.fst) : (mput l k v).map Prod.fst = l.map Prod.fst ++ [k] := by
  rw [mput, if_neg h]; simp
theorem mput_nodup [DecidableEq κ] {l : List (κ × Value)} (hn : (l.map Prod.fst).Nodup) (k : κ) (v : Value) : ((mput l k v).map Prod.fst).Nodup := by
  by_cases h : k ∈ l.map Prod.fst
  · rw [mput_fst_old l k v h]; exact hn
  · rw [mput_fst_new l k v h, List.nodup_append]
    exact ⟨hn, by simp, by intro a ha b hb; simp at hb; subst hb; intro e; subst e; exact h ha⟩
theorem mem_mput [DecidableEq κ] {l : List (κ × Value)} {k : κ} {v : Value} {q : κ} {u : Value} : (q, u) ∈ mput l k v ↔ (q = k ∧ u = v) ∨ (q ≠ k ∧ (q, u) ∈ l) := by
  by_cases h : k ∈ l.map Prod.fst
  · rw [mput, if_pos h, List.mem_map]
    constructor
    · rintro ⟨p, hp, e⟩
      split at e
      · cases e; exact .inl ⟨rfl, rfl⟩
      · rename_i hne; subst e; exact .inr ⟨hne, hp⟩
    · rintro (⟨rfl, rfl⟩ | ⟨hne, hp⟩)
      · obtain ⟨p, hp, e⟩ := List.mem_map.1 h
        exact ⟨p, hp, by rw [if_pos e]⟩
      · exact ⟨_, hp, by rw [if_neg hne]⟩
  · rw [mput, if_neg h, List.mem_append]
    constructor
    · rintro (hp | hp)
      · exact .inr ⟨fun e => h (List.mem_map.2 ⟨_, hp, e⟩), hp⟩
      · simp at hp; exact .inl hp
    · rintro (⟨rfl, rfl⟩ | ⟨_, hp⟩)
      · exact .inr (by simp)
      · exact .inl hp
theorem length_mput_old [DecidableEq κ] {l : List (κ × Value)} {k : κ} {v : Value} (h : k ∈ l.map Prod.fst) : (mput l k v).length = l.length := by rw [mput, if_pos h]; simp
theorem length_mput_new [DecidableEq κ] {l : List (κ × Value)} {k : κ} {v : Value} (h : k ∉ l.map Prod.fst) : (mput l k v).length = l.length + 1 := by rw [mput, if_neg h]; simp
theorem mem_mdel [DecidableEq κ] {l : List (κ × Value)} {k : κ} {q : κ} {u : Value} : (q, u) ∈ mdel l k ↔ q ≠ k ∧ (q, u) ∈ l := by
  simp [mdel, and_comm]
theorem mdel_nodup [DecidableEq κ] {l : List (κ × Value)} (hn : (l.map Prod.fst).Nodup) (k : κ) : ((mdel l k).map Prod.fst).Nodup :=
  (List.filter_sublist.map _).nodup hn
theorem mdel_id [DecidableEq κ] {l : List (κ × Value)} {k : κ} (h : k ∉ l.map Prod.fst) : mdel l k = l := by
  rw [mdel, List.filter_eq_self]
  intro p hp
  simp only [decide_eq_true_eq]
  intro e
  exact h (List.mem_map.2 ⟨p, hp, e⟩)
theorem eraseIdx_mdel [DecidableEq κ] : ∀ {l : List (κ × Value)} {k : κ} {v : Value} {j : Nat}, (l.map Prod.fst).Nodup → l[j]? = some (k, v) → l.eraseIdx j = mdel l k
  | [], _, _, _, _, h => by simp at h
  | x :: r, k, v, 0, hn, h => by
    simp only [List.map_cons, List.nodup_cons] at hn
    simp at h
    subst h
    simp only [List.eraseIdx_cons_zero]
    rw [mdel, List.filter_cons_of_neg (by simp)]
    exact (mdel_id hn.1).symm
  | x :: r, k, v, j + 1, hn, h => by
    simp only [List.map_cons, List.nodup_cons] at hn
    simp only [List.getElem?_cons_succ] at h
    simp only [List.eraseIdx_cons_succ]
    have hne : x.1 ≠ k := fun e => hn.1 (e ▸ List.mem_map.2 ⟨_, List.mem_of_getElem? h, rfl⟩)
    rw [mdel, List.filter_cons_of_pos (by simpa using hne), eraseIdx_mdel hn.2 h]
    rfl
theorem length_mdel_hit [DecidableEq κ] {l : List (κ × Value)} {k : κ} {v : Value} (hn : (l.map Prod.fst).Nodup) (h : (k, v) ∈ l) : (mdel l k).length + 1 = l.length := by
  obtain ⟨j, hj⟩ := List.getElem?_of_mem h
  have hlt : j < l.length := by
    rcases Nat.lt_or_ge j l.length with h' | h'
    · exact h'
    · simp [List.getElem?_eq_none h'] at hj
  rw [← eraseIdx_mdel hn hj, List.length_eraseIdx, if_pos hlt]; omega

theorem MapIs.store [DecidableEq κ] {l : List (κ × Value)} (K : KeyOK P kt κ enc) (ht : P.underlying t = some (.map kt et)) (h : MapIs w M enc l) (k : κ) (v : Value) :
    ∃ o, (Instr.mapUpdate t (.map (some M)) (enc k) v).run P w = .ok () (setB w M o) ∧ MapIs (setB w M o) M enc (mput l k v) := by
  have hlt := h.lt
  obtain ⟨es, clock, hb, he, hn, hborn, hbn⟩ := h
  rcases MapIs.find K he k w with ⟨h1, h2⟩ | ⟨j, u, h1, h2, e, hj, hk, hv⟩
  · refine ⟨_, by simp [Instr.mapUpdate, run_underlying ht, MapKept.run_getObj_map hb, K.check w _ k, h1, MapKept.run_setObj_map _ hb, Result.andThen, setB]; rfl, ?_⟩
    refine ⟨_, _, by simp [setB, hlt]; exact ⟨rfl, rfl⟩, ?_, mput_nodup hn k v, ?_, ?_⟩
    · rw [mput, if_neg h2]; simp [he]
    · intro x hx
      simp at hx
      rcases hx with hx | rfl
      · have := hborn x (by simpa using hx); omega
      · simp
    · simp only [Array.toList_push, List.map_append, List.map_cons, List.map_nil, List.nodup_append]
      refine ⟨hbn, by simp, ?_⟩
      intro a ha b hb'
      obtain ⟨x, hx, rfl⟩ := List.mem_map.1 ha
      simp at hb'
      subst hb'
      have := hborn x hx
      omega
  · have hmem : k ∈ l.map Prod.fst := List.mem_map.2 ⟨_, List.mem_of_getElem? h2, rfl⟩
    refine ⟨_, by simp [Instr.mapUpdate, run_underlying ht, MapKept.run_getObj_map hb, K.check w _ k, h1, hj, hk, K.stays w k, MapKept.run_setObj_map _ hb, Result.andThen, setB]; rfl, ?_⟩
    refine ⟨_, _, by simp [setB, hlt]; exact ⟨rfl, rfl⟩, ?_, mput_nodup hn k v, ?_, ?_⟩
    · rw [mput, if_pos hmem, List.map_map]
      apply List.ext_getElem?
      intro i
      have hi := congrArg (fun q => q[i]?) he
      simp only [List.getElem?_map] at hi
      simp only [List.getElem?_map, Array.getElem?_toList, Array.getElem?_modify]
      by_cases hij : j = i
      · subst hij
        rw [if_pos rfl, hj, h2]
        simp
      · rw [if_neg hij]
        rw [show es.toList[i]? = es[i]? from by simp] at hi
        rw [hi]
        cases hli : l[i]? with
        | none => rfl
        | some p =>
          have hne : p.1 ≠ k := by
            intro e1
            have hi1 : i < l.length := by
              rcases Nat.lt_or_ge i l.length with h' | h'
              · exact h'
              · simp [List.getElem?_eq_none h'] at hli
            have hj1 : j < l.length := by
              rcases Nat.lt_or_ge j l.length with h' | h'
              · exact h'
              · simp [List.getElem?_eq_none h'] at h2
            have a1 : (l.map Prod.fst)[i]'(by simpa using hi1) = (l.map Prod.fst)[j]'(by simpa using hj1) := by
              have q1 : l[i] = p := by simpa [List.getElem?_eq_getElem hi1] using hli
              have q2 : l[j] = (k, u) := by simpa [List.getElem?_eq_getElem hj1] using h2
              simp [q1, q2, e1]
            exact hij ((List.getElem_inj hn).1 a1).symm
          simp [hne]
    · intro x hx
      rw [Array.mem_toList_iff, Array.mem_iff_getElem?] at hx
      obtain ⟨i, hi⟩ := hx
      rw [Array.getElem?_modify] at hi
      split at hi
      · rename_i hji
        subst hji
        rw [hj] at hi
        simp at hi
        subst hi
        exact hborn e (by rw [Array.mem_toList_iff]; exact Array.mem_of_getElem? hj)
      · exact hborn x (by rw [Array.mem_toList_iff]; exact Array.mem_of_getElem? hi)
    · have : (es.modify j fun e => { e with key := enc k, val := v }).toList.map (·.born) = es.toList.map (·.born) := by
        apply List.ext_getElem?
        intro i
        simp only [List.getElem?_map, Array.getElem?_toList, Array.getElem?_modify]
        split
        · rename_i hji; subst hji; simp [hj]
        · rfl
      rw [this]; exact hbn

theorem MapIs.delete [DecidableEq κ] {l : List (κ × Value)} {ty t2 : TypeId} (K : KeyOK P kt κ enc) (ht : P.underlying t = some (.map kt et)) (h : MapIs w M enc l) (k : κ) :
    ∃ o, (Builtin.delete_ #[t, t2] ty #[.map (some M), enc k]).run P w = .ok (.tuple #[]) (setB w M o) ∧ MapIs (setB w M o) M enc (mdel l k) := by
  have hlt := h.lt
  obtain ⟨es, clock, hb, he, hn, hborn, hbn⟩ := h
  rcases MapIs.find K he k w with ⟨h1, h2⟩ | ⟨j, u, h1, h2, e, hj, hk, hv⟩
  · refine ⟨.map es clock, by simp [Builtin.delete_, run_underlying ht, MapKept.run_getObj_map hb, K.check w _ k, h1, MapKept.run_setObj_map _ hb, Result.andThen, setB], ?_⟩
    exact ⟨es, clock, by simp [setB, hlt], by rw [mdel_id h2]; exact he, mdel_nodup hn k, hborn, hbn⟩
  · refine ⟨_, by simp [Builtin.delete_, run_underlying ht, MapKept.run_getObj_map hb, K.check w _ k, h1, MapKept.run_setObj_map _ hb, Result.andThen, setB]; rfl, ?_⟩
    have hjs : j < es.size := by
      rcases Nat.lt_or_ge j es.size with h' | h'
      · exact h'
      · simp [Array.getElem?_eq_none h'] at hj
    have hel : (es.eraseIdxIfInBounds j).toList = es.toList.eraseIdx j := by
      simp [Array.eraseIdxIfInBounds, hjs]
    refine ⟨_, _, by simp [setB, hlt]; exact ⟨rfl, rfl⟩, ?_, mdel_nodup hn k, ?_, ?_⟩
    · rw [hel, ← eraseIdx_mdel hn h2]
      rw [map_eraseIdx, map_eraseIdx, he]
    · intro x hx
      rw [hel] at hx
      exact hborn x (List.mem_of_mem_eraseIdx hx)
    · rw [hel, map_eraseIdx]
      exact (List.eraseIdx_sublist _ _).nodup hbn
end
end Go.Por
