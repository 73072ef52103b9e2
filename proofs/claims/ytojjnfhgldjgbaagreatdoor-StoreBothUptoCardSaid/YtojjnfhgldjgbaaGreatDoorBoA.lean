/- StoreBoth, where what came in is of bulk at most 1048576: who has a relation, what a user has, and Has say the same: part 1 of 14: what it leans on. -/
import Derived.WalkKit
import Derived.WalkSpells
import Derived.WalkLawsBesides
import Derived.Lib.Hide
import Derived.MapKept
import Derived.Laws.OwnMore
import Derived.Shelf.Small.Bits
import Derived.Shelf.Small.Strs
import Derived.Shelf.Strconv.Itoa0
import Derived.Ground.SlgnProg
import Derived.Shelf.SlicesG.SearchI
import Derived.Ground.SlgcProg
import Derived.Shelf.SlicesG.Cmp
import Derived.Shelf.SlGeneric
import Derived.Shelf.SlSortCmp.NoneTotal
import Derived.Ground.SlsfProg
import Derived.Test.YtojjnfhgldjgbaaGreatDoorProg
section
set_option linter.unusedVariables false
set_option linter.unusedSimpArgs false
namespace Go.Por
open Go.RowKit

/-- Of the blocks of w only those in S may differ in w'. -/
structure Mod (S : Nat → Prop) (w w' : World) : Prop where
  os : w'.os = w.os
  tape : w'.tape = w.tape
  output : w'.output = w.output
  size : w.heap.size ≤ w'.heap.size
  block : ∀ k, k < w.heap.size → ¬ S k → w'.heap[k]? = w.heap[k]?

theorem Mod.refl (S : Nat → Prop) (w : World) : Mod S w w := ⟨rfl, rfl, rfl, Nat.le_refl _, fun _ _ _ => rfl⟩
theorem Mod.trans {S S' : Nat → Prop} {a b c : World} (h : Mod S a b) (k : Mod S' b c) (hs : ∀ x, S' x → S x ∨ a.heap.size ≤ x) : Mod S a c :=
  ⟨k.os.trans h.os, k.tape.trans h.tape, k.output.trans h.output, Nat.le_trans h.size k.size, fun i hi hn =>
    (k.block i (Nat.lt_of_lt_of_le hi h.size) (fun hx => by rcases hs i hx with h1 | h1; exact hn h1; omega)).trans (h.block i hi hn)⟩
theorem Mod.trans' {S : Nat → Prop} {a b c : World} (h : Mod S a b) (k : Mod S b c) : Mod S a c := h.trans k (fun _ h => Or.inl h)
theorem Mod.mono {S S' : Nat → Prop} {a b : World} (h : Mod S a b) (hs : ∀ x, x < a.heap.size → S x → S' x) : Mod S' a b :=
  ⟨h.os, h.tape, h.output, h.size, fun i hi hn => h.block i hi (fun hx => hn (hs i hi hx))⟩
theorem Mod.drew {S : Nat → Prop} {a w : World} (h : Mod S a w) : Mod S a w.drew := ⟨h.os, h.tape, h.output, h.size, h.block⟩
theorem Mod.drewN {S : Nat → Prop} {a w : World} (h : Mod S a w) (n : Nat) : Mod S a (w.drewN n) := ⟨h.os, h.tape, h.output, h.size, h.block⟩
theorem Mod.alloc {S : Nat → Prop} {a w : World} (h : Mod S a w) (o : Obj) : Mod S a (w.alloc o) :=
  h.trans' ⟨rfl, rfl, rfl, by simp, fun k hk _ => Below.heap_alloc _ _ _ hk⟩
theorem Mod.setCell {S : Nat → Prop} {a w : World} (h : Mod S a w) {p : Addr} (hp : S p.block ∨ a.heap.size ≤ p.block) (u : Value) : Mod S a (w.setCell p u) :=
  h.trans (S' := fun x => x = p.block) ⟨rfl, rfl, rfl, by simp, fun k _ hn => Below.heap_setCell _ _ _ _ hn⟩ (fun x hx => by subst hx; exact hp)
theorem Mod.of_below {w w' : World} (h : Below w.heap.size w w') (S : Nat → Prop) : Mod S w w' :=
  ⟨h.os, h.tape, h.output, h.size, fun k hk _ => h.block k hk⟩
theorem Mod.to_below {S : Nat → Prop} {w w' : World} (h : Mod S w w') {B : Nat} (hB : B ≤ w.heap.size) (hs : ∀ x, S x → B ≤ x) : Below B w w' :=
  ⟨h.os, h.tape, h.output, h.size, fun k hk => h.block k (by omega) (fun hx => by have := hs k hx; omega)⟩
theorem Mod.of_grown {w w' : World} {row : Option Nat} (h : w.grownBy w' row) : Mod (fun x => some x = row) w w' :=
  ⟨h.os, h.tape, h.output, h.size, fun k hk hn => h.block k hk hn⟩
theorem Mod.cell {S : Nat → Prop} {w w' : World} (h : Mod S w w') {p : Addr} (hp : p.block < w.heap.size) (hn : ¬ S p.block) : w'.cell? p = w.cell? p := World.cell?_of_block (w := w) (h.block p.block hp hn)
theorem Mod.row {S : Nat → Prop} {w w' : World} (h : Mod S w w') {base : Nat} {e : TypeId} {size : Nat} {v : Value} {n : Nat} {xs : List Value}
    (ho : w.ownsRow base e size v n xs) (hn : ∀ k, v.ownBlock = some k → ¬ S k) : w'.ownsRow base e size v n xs := by
  have hlt := ho.lt
  obtain ⟨h1, h2⟩ := ho
  refine ⟨h1, ?_⟩
  rcases h2 with h2 | ⟨g, cap, cur, rfl, hg, hh, r⟩
  · exact .inl h2
  · exact .inr ⟨g, cap, cur, rfl, hg, by rw [h.block g (hlt g rfl).2 (hn g rfl)]; exact hh, r⟩

/-- Strings of the same bytes. -/
theorem toList_inj {a b : ByteArray} (h : a.toList = b.toList) : a = b := by
  rw [ByteArray.toList_eq, ByteArray.toList_eq] at h
  cases a; cases b
  congr 1
  exact Array.toList_inj.1 h
theorem beq_no {a b : ByteArray} (h : a ≠ b) : (a.toList == b.toList) = false := by
  rw [beq_eq_false_iff_ne]; exact fun e => h (toList_inj e)
theorem beq_yes {a b : ByteArray} (h : a = b) : (a.toList == b.toList) = true := by subst h; simp

/-! ### blocks written out -/
theorem lt_block {w : World} {b : Nat} {o : Obj} (h : w.heap[b]? = some o) : b < w.heap.size := by
  rcases Nat.lt_or_ge b w.heap.size with h' | h'
  · exact h'
  · simp [Array.getElem?_eq_none h'] at h
theorem cell_of {w : World} {b i : Nat} {c : Array Value} {t : TypeId} {f : Nat × Nat} {v : Value} (h : w.heap[b]? = some (.cells c t f)) (hv : c[i]? = some v) : w.cell? ⟨b, i, none⟩ = some v := by
  simp [World.cell?, h, hv]
theorem free_of {w : World} {b i : Nat} {c : Array Value} {t : TypeId} (h : w.heap[b]? = some (.cells c t (0, 0))) : w.frozen? ⟨b, i, none⟩ = false := by
  simp [World.frozen?, h]
theorem block_alloc {w : World} {b : Nat} {x : Obj} (h : w.heap[b]? = some x) (o : Obj) : (w.alloc o).heap[b]? = some x := by
  rw [Below.heap_alloc _ _ _ (lt_block h)]; exact h
theorem block_new (w : World) (o : Obj) : (w.alloc o).heap[w.heap.size]? = some o := by
  show (w.heap.push o)[w.heap.size]? = _
  simp
theorem Mod.old {S : Nat → Prop} {w w' : World} (h : Mod S w w') {b : Nat} {x : Obj} (hb : w.heap[b]? = some x) (hn : ¬ S b) : w'.heap[b]? = some x := by
  rw [h.block b (lt_block hb) hn]; exact hb
end Go.Por
end
section
set_option linter.unusedVariables false
set_option linter.unusedSimpArgs false
namespace Go.Por
open Go.RowKit Go.MapKept

/-- What a map asks of its keys' type: 'enc k' is key k as a value. -/
structure KeyOK (P : Program) (kt : TypeId) (κ : Type) (enc : κ → Value) : Prop where
  inj : ∀ {a b : κ}, enc a = enc b → a = b
  check : ∀ (w : World) (em : Bool) (k : κ), (Instr.checkKey em 10000 kt (enc k)).run P w = .ok () w
  find : ∀ (w : World) (k : κ) (es : List MapEntry), (∀ e ∈ es, ∃ k', e.key = enc k') →
    ((Instr.findKey kt (enc k) es).run P w = .ok none w ∧ ∀ e ∈ es, e.key ≠ enc k) ∨
    ∃ j e, (Instr.findKey kt (enc k) es).run P w = .ok (some (j, e.val)) w ∧ es[j]? = some e ∧ e.key = enc k
  stays : ∀ (w : World) (k : κ), (Instr.keyThatStays (enc k) (enc k)).run P w = .ok (enc k) w

theorem KeyOK.plain {P : Program} {kt : TypeId} {κ : Type} {enc : κ → Value} {d : TypeDesc} (hd : P.underlying kt = some d) (hk : ∀ k, IsKey d (enc k)) (inj : ∀ {a b : κ}, enc a = enc b → a = b) : KeyOK P kt κ enc where
  inj := inj
  check w em k := run_checkKey hd (hk k) em 9999
  find w k es hes := by
    have hks : ∀ x ∈ es, IsKey d x.key := fun x hx => by obtain ⟨k', e⟩ := hes x hx; rw [e]; exact hk k'
    rcases findNow_spec (hk k) es 0 hks with ⟨h1, h2⟩ | ⟨j, e0, h1, h2, h3⟩
    · exact .inl ⟨run_findKey hd h1, h2⟩
    · exact .inr ⟨j, e0, by simpa using run_findKey hd h1, h2, h3⟩
  stays w k := run_keyThatStays (hk k)

theorem KeyOK.str {P : Program} {kt : TypeId} (hd : P.underlying kt = some .string) : KeyOK P kt ByteArray (fun s => .string s) :=
  .plain hd (fun _ => by simp [IsKey]) (fun h => by cases h; rfl)

section
variable {P : Program} {kt et t : TypeId} {κ : Type} {enc : κ → Value} {w : World} {M : Nat}

/-- The entries of block M, as keys and values; their stamps are unlike, and below the clock. -/
def MapIs (w : World) (M : Nat) (enc : κ → Value) (l : List (κ × Value)) : Prop :=
  ∃ es clock, w.heap[M]? = some (.map es clock) ∧ es.toList.map (fun e => (e.key, e.val)) = l.map (fun p => (enc p.1, p.2)) ∧ (l.map Prod.fst).Nodup ∧
    (∀ e ∈ es.toList, e.born < clock) ∧ (es.toList.map (·.born)).Nodup

theorem MapIs.lt {l : List (κ × Value)} (h : MapIs w M enc l) : M < w.heap.size := by
  obtain ⟨es, c, hb, _⟩ := h
  exact lt_block hb
theorem MapIs.keep {l : List (κ × Value)} {w' : World} (h : MapIs w M enc l) (hb : w'.heap[M]? = w.heap[M]?) : MapIs w' M enc l := by
  obtain ⟨es, c, h1, h2⟩ := h
  exact ⟨es, c, hb.trans h1, h2⟩
theorem MapIs.mod {l : List (κ × Value)} {S : Nat → Prop} {w' : World} (h : MapIs w M enc l) (hm : Mod S w w') (hn : ¬ S M) : MapIs w' M enc l :=
  h.keep (hm.block M h.lt hn)
theorem MapIs.alloc {l : List (κ × Value)} (h : MapIs w M enc l) (o : Obj) : MapIs (w.alloc o) M enc l := h.keep (Below.heap_alloc _ _ _ h.lt)
theorem MapIs.made (w : World) (enc : κ → Value) : MapIs (w.alloc (.map #[] 0)) w.heap.size enc [] :=
  ⟨#[], 0, block_new _ _, rfl, by simp, by simp, by simp⟩

theorem map_get {es : List MapEntry} {l : List (κ × Value)} (h : es.map (fun e => (e.key, e.val)) = l.map (fun p => (enc p.1, p.2))) :
    (∀ e ∈ es, ∃ k', e.key = enc k') := by
  intro e he
  have : (e.key, e.val) ∈ l.map (fun p => (enc p.1, p.2)) := by rw [← h]; exact List.mem_map.2 ⟨e, he, rfl⟩
  obtain ⟨p, _, hp⟩ := List.mem_map.1 this
  exact ⟨p.1, (Prod.mk.inj hp).1.symm⟩

/-- The entry at a place. -/
theorem map_at {es : List MapEntry} {l : List (κ × Value)} (h : es.map (fun e => (e.key, e.val)) = l.map (fun p => (enc p.1, p.2))) {j : Nat} {e : MapEntry} (he : es[j]? = some e) :
    ∃ p, l[j]? = some p ∧ e.key = enc p.1 ∧ e.val = p.2 := by
  have : (es.map (fun e => (e.key, e.val)))[j]? = some (e.key, e.val) := by simp [he]
  rw [h, List.getElem?_map] at this
  cases hl : l[j]? with
  | none => simp [hl] at this
  | some p => simp [hl] at this; exact ⟨p, rfl, this.1.symm, this.2.symm⟩

theorem miss_of {es : List MapEntry} {l : List (κ × Value)} (h : es.map (fun e => (e.key, e.val)) = l.map (fun p => (enc p.1, p.2))) {k : κ} (hm : ∀ e ∈ es, e.key ≠ enc k) : k ∉ l.map Prod.fst := by
  intro hk
  obtain ⟨p, hp, e⟩ := List.mem_map.1 hk
  have : (enc p.1, p.2) ∈ es.map (fun e => (e.key, e.val)) := by rw [h]; exact List.mem_map.2 ⟨p, hp, rfl⟩
  obtain ⟨x, hx, ex⟩ := List.mem_map.1 this
  exact hm x hx (by rw [(Prod.mk.inj ex).1, e])

/-- The two ways of finding a key. -/
theorem MapIs.find {l : List (κ × Value)} {es : Array MapEntry} (K : KeyOK P kt κ enc) (h : es.toList.map (fun e => (e.key, e.val)) = l.map (fun p => (enc p.1, p.2))) (k : κ) (w : World) :
    ((Instr.findKey kt (enc k) es.toList).run P w = .ok none w ∧ k ∉ l.map Prod.fst) ∨
    ∃ j v, (Instr.findKey kt (enc k) es.toList).run P w = .ok (some (j, v)) w ∧ l[j]? = some (k, v) ∧ ∃ e, es[j]? = some e ∧ e.key = enc k ∧ e.val = v := by
  rcases K.find w k es.toList (map_get h) with ⟨h1, h2⟩ | ⟨j, e, h1, h2, h3⟩
  · exact .inl ⟨h1, miss_of h h2⟩
  · obtain ⟨p, hp, e1, e2⟩ := map_at h h2
    have : p = (k, e.val) := by
      have := K.inj (e1.symm.trans h3)
      cases p; simp_all
    exact .inr ⟨j, e.val, h1, by rw [hp, this], e, by simpa using h2, h3, rfl⟩

theorem MapIs.look_miss {l : List (κ × Value)} (K : KeyOK P kt κ enc) (ht : P.underlying t = some (.map kt et)) (h : MapIs w M enc l) {k : κ} (hk : k ∉ l.map Prod.fst) {z : Value} (hz : (zeroValue et).run P w = .ok z w) (c : Bool) :
    (Instr.lookup t (.map (some M)) (enc k) c).run P w = .ok (if c then .tuple #[z, .bool false] else z) w := by
  obtain ⟨es, clock, hb, he, hn, _⟩ := h
  rcases MapIs.find K he k w with ⟨h1, h2⟩ | ⟨j, v, h1, h2, _⟩
  · simp [Instr.lookup, run_underlying ht, MapKept.run_getObj_map hb, K.check w _ k, h1, hz, Result.andThen]
  · exact absurd (List.mem_map.2 ⟨_, List.mem_of_getElem? h2, rfl⟩) hk
theorem nodup_val {l : List (κ × Value)} (hn : (l.map Prod.fst).Nodup) {k : κ} {u v : Value} (h1 : (k, u) ∈ l) (h2 : (k, v) ∈ l) : u = v := by
  induction l with
  | nil => cases h1
  | cons x r ih =>
    simp only [List.map_cons, List.nodup_cons] at hn
    rcases List.mem_cons.1 h1 with e1 | e1
    · rcases List.mem_cons.1 h2 with e2 | e2
      · rw [← e1] at e2; cases e2; rfl
      · exact absurd (List.mem_map.2 ⟨_, e2, by rw [← e1]⟩) hn.1
    · rcases List.mem_cons.1 h2 with e2 | e2
      · exact absurd (List.mem_map.2 ⟨_, e1, by rw [← e2]⟩) hn.1
      · exact ih hn.2 e1 e2
theorem MapIs.look_hit {l : List (κ × Value)} (K : KeyOK P kt κ enc) (ht : P.underlying t = some (.map kt et)) (h : MapIs w M enc l) {k : κ} {v : Value} (hk : (k, v) ∈ l) (c : Bool) :
    (Instr.lookup t (.map (some M)) (enc k) c).run P w = .ok (if c then .tuple #[v, .bool true] else v) w := by
  obtain ⟨es, clock, hb, he, hn, _⟩ := h
  rcases MapIs.find K he k w with ⟨h1, h2⟩ | ⟨j, u, h1, h2, _⟩
  · exact absurd (List.mem_map.2 ⟨_, hk, rfl⟩) h2
  · have : u = v := nodup_val hn (List.mem_of_getElem? h2) hk
    subst this
    simp [Instr.lookup, run_underlying ht, MapKept.run_getObj_map hb, K.check w _ k, h1, Result.andThen]
theorem MapIs.len {l : List (κ × Value)} {ty : TypeId} (ht : P.underlying t = some (.map kt et)) (h : MapIs w M enc l) :
    (Builtin.len_ #[t] ty #[.map (some M)]).run P w = .ok (goInt l.length) w := by
  obtain ⟨es, clock, hb, he, _⟩ := h
  have : es.size = l.length := by simpa using congrArg List.length he
  simp [Builtin.len_, run_underlying ht, MapKept.run_getObj_map hb, this]

/-- The world in which block M is another object. -/
def setB (w : World) (M : Nat) (o : Obj) : World := { w with heap := w.heap.setIfInBounds M o }
theorem setB_mod (w : World) (M : Nat) (o : Obj) : Mod (fun x => x = M) w (setB w M o) :=
  ⟨rfl, rfl, rfl, by simp [setB], fun k hk hn => by simp [setB, Ne.symm hn]⟩

/-- A list's entries with one put: in its place, or at the end. -/
def mput [DecidableEq κ] (l : List (κ × Value)) (k : κ) (v : Value) : List (κ × Value) :=
  if k ∈ l.map Prod.fst then l.map (fun p => if p.1 = k then (k, v) else p) else l ++ [(k, v)]

theorem mput_fst_old [DecidableEq κ] (l : List (κ × Value)) (k : κ) (v : Value) (h : k ∈ l.map Prod.fst) : (mput l k v).map Prod.fst = l.map Prod.fst := by
  rw [mput, if_pos h, List.map_map]
  apply List.map_congr_left
  intro p _
  simp only [Function.comp]
  split <;> simp_all
theorem mput_fst_new [DecidableEq κ] (l : List (κ × Value)) (k : κ) (v : Value) (h : k ∉ l.map Prod.fst) : (mput l k v).map Prod.fst = l.map Prod.fst ++ [k] := by
  rw [mput, if_neg h]; simp
theorem mput_nodup [DecidableEq κ] {l : List (κ × Value)} (hn : (l.map Prod.fst).Nodup) (k : κ) (v : Value) : ((mput l k v).map Prod.fst).Nodup := by
  by_cases h : k ∈ l.map Prod.fst
  · rw [mput_fst_old l k v h]; exact hn
  · rw [mput_fst_new l k v h, List.nodup_append]
    exact ⟨hn, by simp, by intro a ha b hb; simp at hb; subst hb; intro e; subst e; exact h ha⟩
theorem mem_mput [DecidableEq κ] {l : List (κ × Value)} {k : κ} {v : Value} {q : κ} {u : Value} : (q, u) ∈ mput l k v ↔ (q = k ∧ u = v) ∨ (q ≠ k ∧ (q, u) ∈ l) := by
  by_cases h : k ∈ l.map Prod.fst
  · rw [mput, if_pos h, List.mem_map]
    constructor
    · rintro ⟨p, hp, e⟩
      split at e
      · cases e; exact .inl ⟨rfl, rfl⟩
      · rename_i hne; subst e; exact .inr ⟨hne, hp⟩
    · rintro (⟨rfl, rfl⟩ | ⟨hne, hp⟩)
      · obtain ⟨p, hp, e⟩ := List.mem_map.1 h
        exact ⟨p, hp, by rw [if_pos e]⟩
      · exact ⟨_, hp, by rw [if_neg hne]⟩
  · rw [mput, if_neg h, List.mem_append]
    constructor
    · rintro (hp | hp)
      · exact .inr ⟨fun e => h (List.mem_map.2 ⟨_, hp, e⟩), hp⟩
      · simp at hp; exact .inl hp
    · rintro (⟨rfl, rfl⟩ | ⟨_, hp⟩)
      · exact .inr (by simp)
      · exact .inl hp

theorem MapIs.store [DecidableEq κ] {l : List (κ × Value)} (K : KeyOK P kt κ enc) (ht : P.underlying t = some (.map kt et)) (h : MapIs w M enc l) (k : κ) (v : Value) :
    ∃ o, (Instr.mapUpdate t (.map (some M)) (enc k) v).run P w = .ok () (setB w M o) ∧ MapIs (setB w M o) M enc (mput l k v) := by
  have hlt := h.lt
  obtain ⟨es, clock, hb, he, hn, hborn, hbn⟩ := h
  rcases MapIs.find K he k w with ⟨h1, h2⟩ | ⟨j, u, h1, h2, e, hj, hk, hv⟩
  · refine ⟨_, by simp [Instr.mapUpdate, run_underlying ht, MapKept.run_getObj_map hb, K.check w _ k, h1, MapKept.run_setObj_map _ hb, Result.andThen, setB]; rfl, ?_⟩
    refine ⟨_, _, by simp [setB, hlt]; exact ⟨rfl, rfl⟩, ?_, mput_nodup hn k v, ?_, ?_⟩
    · rw [mput, if_neg h2]; simp [he]
    · intro x hx
      simp at hx
      rcases hx with hx | rfl
      · have := hborn x (by simpa using hx); omega
      · simp
    · simp only [Array.toList_push, List.map_append, List.map_cons, List.map_nil, List.nodup_append]
      refine ⟨hbn, by simp, ?_⟩
      intro a ha b hb'
      obtain ⟨x, hx, rfl⟩ := List.mem_map.1 ha
      simp at hb'
      subst hb'
      have := hborn x hx
      omega
  · have hmem : k ∈ l.map Prod.fst := List.mem_map.2 ⟨_, List.mem_of_getElem? h2, rfl⟩
    refine ⟨_, by simp [Instr.mapUpdate, run_underlying ht, MapKept.run_getObj_map hb, K.check w _ k, h1, hj, hk, K.stays w k, MapKept.run_setObj_map _ hb, Result.andThen, setB]; rfl, ?_⟩
    refine ⟨_, _, by simp [setB, hlt]; exact ⟨rfl, rfl⟩, ?_, mput_nodup hn k v, ?_, ?_⟩
    · rw [mput, if_pos hmem, List.map_map]
      apply List.ext_getElem?
      intro i
      have hi := congrArg (fun q => q[i]?) he
      simp only [List.getElem?_map] at hi
      simp only [List.getElem?_map, Array.getElem?_toList, Array.getElem?_modify]
      by_cases hij : j = i
      · subst hij
        rw [if_pos rfl, hj, h2]
        simp
      · rw [if_neg hij]
        rw [show es.toList[i]? = es[i]? from by simp] at hi
        rw [hi]
        cases hli : l[i]? with
        | none => rfl
        | some p =>
          have hne : p.1 ≠ k := by
            intro e1
            have hi1 : i < l.length := by
              rcases Nat.lt_or_ge i l.length with h' | h'
              · exact h'
              · simp [List.getElem?_eq_none h'] at hli
            have hj1 : j < l.length := by
              rcases Nat.lt_or_ge j l.length with h' | h'
              · exact h'
              · simp [List.getElem?_eq_none h'] at h2
            have a1 : (l.map Prod.fst)[i]'(by simpa using hi1) = (l.map Prod.fst)[j]'(by simpa using hj1) := by
              have q1 : l[i] = p := by simpa [List.getElem?_eq_getElem hi1] using hli
              have q2 : l[j] = (k, u) := by simpa [List.getElem?_eq_getElem hj1] using h2
              simp [q1, q2, e1]
            exact hij ((List.getElem_inj hn).1 a1).symm
          simp [hne]
    · intro x hx
      rw [Array.mem_toList_iff, Array.mem_iff_getElem?] at hx
      obtain ⟨i, hi⟩ := hx
      rw [Array.getElem?_modify] at hi
      split at hi
      · rename_i hji
        subst hji
        rw [hj] at hi
        simp at hi
        subst hi
        exact hborn e (by rw [Array.mem_toList_iff]; exact Array.mem_of_getElem? hj)
      · exact hborn x (by rw [Array.mem_toList_iff]; exact Array.mem_of_getElem? hi)
    · have : (es.modify j fun e => { e with key := enc k, val := v }).toList.map (·.born) = es.toList.map (·.born) := by
        apply List.ext_getElem?
        intro i
        simp only [List.getElem?_map, Array.getElem?_toList, Array.getElem?_modify]
        split
        · rename_i hji; subst hji; simp [hj]
        · rfl
      rw [this]; exact hbn

end
end Go.Por
end
section
set_option linter.unusedVariables false
set_option linter.unusedSimpArgs false
namespace Go.Por
open Go.RowKit

section
variable {α : Type} {f : α → List Value} {c : Nat}

theorem flat_length (hc : ∀ x, (f x).length = c) : ∀ l : List α, (l.flatMap f).length = l.length * c
  | [] => by simp
  | x :: r => by rw [List.flatMap_cons, List.length_append, flat_length hc r, hc, List.length_cons, Nat.add_mul]; omega
theorem flat_at (hc : ∀ x, (f x).length = c) : ∀ (l : List α) (i j : Nat), j < c → (l.flatMap f)[i * c + j]? = (l[i]?).bind (fun x => (f x)[j]?)
  | [], i, j, _ => by simp
  | x :: r, 0, j, hj => by
    rw [List.flatMap_cons, Nat.zero_mul, Nat.zero_add, List.getElem?_append_left (by rw [hc]; exact hj)]
    rfl
  | x :: r, i + 1, j, hj => by
    have h1 : (i + 1) * c + j = c + (i * c + j) := by rw [Nat.add_mul]; omega
    rw [List.flatMap_cons, h1, List.getElem?_append_right (by rw [hc]; omega), hc, Nat.add_sub_cancel_left, flat_at hc r i j hj]
    rfl
theorem flat_set (hc : ∀ x, (f x).length = c) {l : List α} {i j : Nat} {x y : α} {u : Value} (hj : j < c) (hx : l[i]? = some x) (hy : f y = (f x).set j u) :
    (l.flatMap f).set (i * c + j) u = (l.set i y).flatMap f := by
  have hi : i < l.length := by
    rcases Nat.lt_or_ge i l.length with h | h
    · exact h
    · simp [List.getElem?_eq_none h] at hx
  apply List.ext_getElem?
  intro k
  have hcp : 0 < c := by omega
  obtain ⟨q, s, hs, rfl⟩ : ∃ q s, s < c ∧ k = q * c + s := ⟨k / c, k % c, Nat.mod_lt _ hcp, by rw [Nat.mul_comm]; exact (Nat.div_add_mod k c).symm⟩
  rw [flat_at hc _ _ _ hs, List.getElem?_set, List.getElem?_set]
  by_cases hq : i = q
  · subst hq
    simp only [if_true, hi]
    by_cases hsj : j = s
    · subst hsj
      have hlt : i * c + j < (l.flatMap f).length := by
        rw [flat_length hc]
        calc i * c + j < i * c + c := by omega
          _ = (i + 1) * c := by rw [Nat.add_mul]; omega
          _ ≤ l.length * c := Nat.mul_le_mul_right _ hi
      rw [if_pos rfl, if_pos hlt]
      have hj' : j < (f x).length := by rw [hc]; exact hj
      show some u = (f y)[j]?
      rw [hy, List.getElem?_set, if_pos rfl, if_pos hj']
    · rw [if_neg (by omega), flat_at hc _ _ _ hs, hx]
      show (f x)[s]? = (f y)[s]?
      rw [hy, List.getElem?_set, if_neg hsj]
  · have hne : ¬ (i * c + j = q * c + s) := by
      intro e
      rcases Nat.lt_or_gt_of_ne hq with h | h
      · have : (i + 1) * c ≤ q * c := Nat.mul_le_mul_right _ h
        rw [Nat.add_mul] at this
        omega
      · have : (q + 1) * c ≤ i * c := Nat.mul_le_mul_right _ h
        rw [Nat.add_mul] at this
        omega
    rw [if_neg hne, if_neg hq, flat_at hc _ _ _ hs]

variable {w : World} {E : TypeId} {g n cap : Nat} {l : List α}

/-- A slice of the call's own: its elements are l. -/
def OwnS (f : α → List Value) (c : Nat) (w : World) (E : TypeId) (v : Value) (l : List α) : Prop := w.ownsRow 0 E c v l.length (l.flatMap f)

theorem OwnS.nil (f : α → List Value) (c : Nat) (w : World) (E : TypeId) : OwnS f c w E (.slice none 0 0) [] := World.ownsRow_nil w 0 E c
theorem OwnS.form {v : Value} (h : OwnS f c w E v l) : (v = .slice none 0 0 ∧ l = []) ∨ ∃ g cap, v = .slice (some ⟨g, 0, none⟩) l.length cap ∧ l.length ≤ cap ∧ cap ≤ maxLen := by
  obtain ⟨_, ⟨h1, h2⟩ | ⟨g, cap, cur, h1, _, _, h2, h3, _⟩⟩ := h
  · exact .inl ⟨h1, List.length_eq_zero_iff.1 h2⟩
  · exact .inr ⟨g, cap, h1, h2, h3⟩
theorem OwnS.block (h : OwnS f c w E (.slice (some ⟨g, 0, none⟩) n cap) l) : ∃ cur, w.heap[g]? = some (.cells cur E (0, 0)) ∧ cur.size = cap * c ∧ cur.toList.take (l.length * c) = l.flatMap f ∧ n = l.length ∧ l.length ≤ cap ∧ cap ≤ maxLen := by
  obtain ⟨_, ⟨h1, h2⟩ | ⟨g', cap', cur, h1, _, h2, h3, h4, h5, h6⟩⟩ := h
  · simp at h1
  · simp only [Value.slice.injEq, Option.some.injEq, Addr.mk.injEq, and_true] at h1
    obtain ⟨rfl, rfl, rfl⟩ := h1
    exact ⟨cur, h2, h5, h6, rfl, h3, h4⟩
theorem OwnS.cell (hc : ∀ x, (f x).length = c) (h : OwnS f c w E (.slice (some ⟨g, 0, none⟩) n cap) l) {i j : Nat} {x : α} {u : Value} (hx : l[i]? = some x) (hj : j < c) (hu : (f x)[j]? = some u) : w.cell? ⟨g, i * c + j, none⟩ = some u := by
  obtain ⟨cur, h1, h2, h3, _⟩ := h.block
  have hi : i < l.length := by
    rcases Nat.lt_or_ge i l.length with h | h
    · exact h
    · simp [List.getElem?_eq_none h] at hx
  have hlt : i * c + j < l.length * c := by
    calc i * c + j < i * c + c := by omega
      _ = (i + 1) * c := by rw [Nat.add_mul]; omega
      _ ≤ l.length * c := Nat.mul_le_mul_right _ hi
  refine cell_of h1 ?_
  rw [← Array.getElem?_toList]
  have := congrArg (fun q => q[i * c + j]?) h3
  simp only [List.getElem?_take, hlt, if_true] at this
  rw [this, flat_at hc _ _ _ hj, hx]
  exact hu
theorem OwnS.free (h : OwnS f c w E (.slice (some ⟨g, 0, none⟩) n cap) l) (i : Nat) : w.frozen? ⟨g, i, none⟩ = false := by
  obtain ⟨cur, h1, _⟩ := h.block
  exact free_of h1
theorem OwnS.lt (h : OwnS f c w E (.slice (some ⟨g, 0, none⟩) n cap) l) : g < w.heap.size := by
  obtain ⟨cur, h1, _⟩ := h.block
  exact lt_block h1
theorem OwnS.mod {v : Value} {S : Nat → Prop} {w' : World} (h : OwnS f c w E v l) (hm : Mod S w w') (hn : ∀ k, v.ownBlock = some k → ¬ S k) : OwnS f c w' E v l := hm.row h hn
/-- A cell of an element is written. -/
theorem OwnS.set (hc : ∀ x, (f x).length = c) (h : OwnS f c w E (.slice (some ⟨g, 0, none⟩) n cap) l) {i j : Nat} {x y : α} {u : Value} (hx : l[i]? = some x) (hj : j < c) (hy : f y = (f x).set j u) :
    OwnS f c (w.setCell ⟨g, i * c + j, none⟩ u) E (.slice (some ⟨g, 0, none⟩) n cap) (l.set i y) := by
  obtain ⟨cur, h1, h2, h3, rfl, h4, h5⟩ := h.block
  have := (World.ownsRow.stored (w := w) h (i * c + j) u).1
  rw [flat_set hc hj hx hy] at this
  unfold OwnS
  rw [List.length_set]
  exact this

end

section
variable {P : Program} (w : World)
/-- Append to a slice of the call's own, and where the new slice lies: where it lay, or in a new block. -/
theorem run_append_own2 (base : Nat) (t ty e : TypeId) (i : TypeInfo) (z : Value) (size bytes : Nat) (ht : P.underlying t = some (.slice e)) (hi : P.info? e = some i) (hz : i.zero = some z)
    (hsize : i.size = size) (hby : i.bytes = bytes) (hzs : z.cells.size = size) (hsz : 0 < size)
    (v : Value) (n : Nat) (xs : List Value) (hown : w.ownsRow base e size v n xs)
    (a : Addr) (m c : Nat) (news : List Value) (hl : news.length = m * size) (hnews : ∀ j u, news[j]? = some u → w.cell? (a.add j) = some u) (h1 : ∀ u ∈ news, u.oneCell' = true)
    (h63 : n + m ≤ maxLen) (hbytes : (n + m) * bytes ≤ 140737488355328) (hbase : base ≤ w.heap.size) :
    ∃ v' w', (Builtin.append_ #[t, t] ty #[v, .slice (some a) m c]).run P w = .ok v' w' ∧ w'.ownsRow base e size v' (n + m) (xs ++ news) ∧ w.grownBy w' v.ownBlock ∧
      ∀ x, v'.ownBlock = some x → v.ownBlock = some x ∨ w.heap.size ≤ x := by
  obtain ⟨v', w', hr, h2, h3, h4⟩ := run_append_own (P := P) w base t ty e i z size bytes ht hi hz hsize hby hzs hsz v n xs hown a m c news hl hnews h1 h63 hbytes hbase
  refine ⟨v', w', hr, h2, h3, fun x hx => ?_⟩
  subst hsize
  subst hby
  have hsmall : n + m ≤ 9223372036854775807 := by simp only [maxLen] at h63; omega
  rcases hown.2 with ⟨rfl, rfl⟩ | ⟨g, cap, cur, rfl, hbg, hg, hnc, hcm, hcs, htake⟩
  · by_cases hm : m = 0
    · have := h4.2 ⟨rfl, hm⟩
      subst this
      simp [Value.ownBlock] at hx
    · have hr2 := run_append_nil (P := P) w t ty e i z ht hi hz a m c news hl hnews (by omega) (by omega) (by have hb := hbytes; simp only [Nat.zero_add] at hb; omega)
      rw [hr2] at hr
      cases hr
      simp only [Value.ownBlock, Option.some.injEq] at hx
      exact .inr (by omega)
  · by_cases hroom : n + m ≤ cap
    · have hfit : n * i.size + news.length ≤ cur.size := by rw [hl, hcs, ← Nat.add_mul]; exact Nat.mul_le_mul_right _ hroom
      have hr2 := run_append_room (P := P) w t ty e i ht hi g n cap cur hg a m c news hl hnews h1 hroom hfit
      rw [hr2] at hr
      cases hr
      exact .inl hx
    · have holds : ∀ j u, xs[j]? = some u → w.cell? ((⟨g, 0, none⟩ : Addr).add j) = some u := hown.cells (g := g) rfl
      have hr2 := run_append_grow (P := P) w t ty e i z ht hi hz ⟨g, 0, none⟩ n cap xs hown.1 holds a m c news hl hnews (by omega) (by omega) (growslice_fits (by omega) hbytes)
      rw [hr2] at hr
      cases hr
      simp only [Value.ownBlock, Option.some.injEq] at hx
      exact .inr (by omega)
end
end Go.Por
end
section
namespace Go.Proofs
open Go.Shelf
def Tryz.lays106_ren : Go.Shelf.Ren := ⟨fun | 106 => 79 | 213 => 111 | 265 => 156 | n => n, fun | 9 => 9 | 3 => 3 | n => n, fun | n => n⟩
theorem Tryz.lays106 : Go.Proofs.Lays.n106 Tryz.prog Tryz.lays106_ren := {
  mixed := by kernel_rfl
  f106 := Tryz.func79.trans (congrArg some (by kernel_rfl))
  f213 := Tryz.func111.trans (congrArg some (by kernel_rfl))
  f265 := Tryz.func156.trans (congrArg some (by kernel_rfl))
  t3 := Tryz.underlying3
  a3 := Tryz.isAgg3
  z3 := Tryz.sizeOf3
  v3 := Tryz.zeroValue3
  t9 := Tryz.underlying9
  a9 := Tryz.isAgg9
  z9 := Tryz.sizeOf9
  v9 := Tryz.zeroValue9 }
open Go.RowKit in
/-- strings.Compare: "Compare returns an integer comparing two strings lexicographically. The result will be 0 if a == b, -1 if a < b, and +1 if a > b.": IT RETURNS 'Lib.compareBytes a b'; the world is as it was. (LAID: no walk: one application.) -/
theorem Tryz.strings_Compare (a b : ByteArray) (w : World) :
    Calls Tryz.prog 79 #[.string a, .string b] w fun e w' => e = .returned (.int .i64 (Lib.compareBytes a.data.toList b.data.toList)) ∧ w' = w := Any.strings_Compare Tryz.lays106 a b w
def Tryz.laysSortTuple_ren : Go.Shelf.Ren := ⟨fun | 6 => 46 | 15 => 82 | 14 => 81 | 28 => 120 | 29 => 121 | 20 => 112 | 21 => 113 | 22 => 114 | 23 => 115 | 24 => 116 | 25 => 117 | 26 => 118 | 27 => 119 | 46 => 157 | 47 => 158 | 48 => 159 | 49 => 160 | 50 => 161 | 57 => 184 | n => n, fun | 22 => 34 | 24 => 41 | 25 => 93 | 3 => 3 | 39 => 150 | 0 => 0 | 53 => 181 | 55 => 183 | 4 => 4 | 46 => 175 | 45 => 174 | 50 => 90 | 5 => 5 | 9 => 9 | 66 => 206 | 70 => 210 | 76 => 227 | 77 => 228 | n => n, fun | n => n⟩
theorem Tryz.laysSortTuple : Go.Proofs.SlLaysF0.n6 Tryz.prog Tryz.laysSortTuple_ren := {
  mixed := by kernel_rfl
  f6 := ⟨Tryz.f46.name, by decide, Tryz.func46.trans (congrArg some (by kernel_rfl))⟩
  f14 := ⟨Tryz.f81.name, by decide, Tryz.func81.trans (congrArg some (by kernel_rfl))⟩
  f15 := Tryz.func82.trans (congrArg some (by kernel_rfl))
  f20 := ⟨Tryz.f112.name, by decide, Tryz.func112.trans (congrArg some (by kernel_rfl))⟩
  f21 := ⟨Tryz.f113.name, by decide, Tryz.func113.trans (congrArg some (by kernel_rfl))⟩
  f22 := ⟨Tryz.f114.name, by decide, Tryz.func114.trans (congrArg some (by kernel_rfl))⟩
  f23 := ⟨Tryz.f115.name, by decide, Tryz.func115.trans (congrArg some (by kernel_rfl))⟩
  f24 := ⟨Tryz.f116.name, by decide, Tryz.func116.trans (congrArg some (by kernel_rfl))⟩
  f25 := ⟨Tryz.f117.name, by decide, Tryz.func117.trans (congrArg some (by kernel_rfl))⟩
  f26 := ⟨Tryz.f118.name, by decide, Tryz.func118.trans (congrArg some (by kernel_rfl))⟩
  f27 := ⟨Tryz.f119.name, by decide, Tryz.func119.trans (congrArg some (by kernel_rfl))⟩
  f28 := Tryz.func120.trans (congrArg some (by kernel_rfl))
  f29 := Tryz.func121.trans (congrArg some (by kernel_rfl))
  f46 := ⟨Tryz.f157.name, by decide, Tryz.func157.trans (congrArg some (by kernel_rfl))⟩
  f47 := Tryz.func158.trans (congrArg some (by kernel_rfl))
  f48 := Tryz.func159.trans (congrArg some (by kernel_rfl))
  f49 := ⟨Tryz.f160.name, by decide, Tryz.func160.trans (congrArg some (by kernel_rfl))⟩
  f50 := ⟨Tryz.f161.name, by decide, Tryz.func161.trans (congrArg some (by kernel_rfl))⟩
  f57 := ⟨Tryz.f184.name, by decide, Tryz.func184.trans (congrArg some (by kernel_rfl))⟩
  t0 := Tryz.underlying0
  a0 := Tryz.isAgg0
  z0 := Tryz.sizeOf0
  v0 := Tryz.zeroValue0
  t3 := Tryz.underlying3
  a3 := Tryz.isAgg3
  z3 := Tryz.sizeOf3
  v3 := Tryz.zeroValue3
  t4 := Tryz.underlying4
  a4 := Tryz.isAgg4
  z4 := Tryz.sizeOf4
  v4 := Tryz.zeroValue4
  t5 := Tryz.underlying5
  a5 := Tryz.isAgg5
  z5 := Tryz.sizeOf5
  v5 := Tryz.zeroValue5
  t9 := Tryz.underlying9
  a9 := Tryz.isAgg9
  z9 := Tryz.sizeOf9
  v9 := Tryz.zeroValue9
  t22 := Tryz.underlying34
  a22 := Tryz.isAgg34
  z22 := Tryz.sizeOf34
  v22 := Tryz.zeroValue34
  t25 := Tryz.underlying93
  a25 := Tryz.isAgg93
  z25 := Tryz.sizeOf93
  v25 := Tryz.zeroValue93
  t39 := Tryz.underlying150
  a39 := Tryz.isAgg150
  z39 := Tryz.sizeOf150
  v39 := Tryz.zeroValue150
  t45 := Tryz.underlying174
  a45 := Tryz.isAgg174
  z45 := Tryz.sizeOf174
  v45 := Tryz.zeroValue174
  t46 := Tryz.underlying175
  a46 := Tryz.isAgg175
  z46 := Tryz.sizeOf175
  v46 := Tryz.zeroValue175
  t50 := Tryz.underlying90
  a50 := Tryz.isAgg90
  z50 := Tryz.sizeOf90
  v50 := Tryz.zeroValue90
  t53 := Tryz.underlying181
  a53 := Tryz.isAgg181
  z53 := Tryz.sizeOf181
  v53 := Tryz.zeroValue181
  t55 := Tryz.underlying183
  a55 := Tryz.isAgg183
  z55 := Tryz.sizeOf183
  v55 := Tryz.zeroValue183
  t66 := Tryz.underlying206
  a66 := Tryz.isAgg206
  z66 := Tryz.sizeOf206
  v66 := Tryz.zeroValue206
  t70 := Tryz.underlying210
  a70 := Tryz.isAgg210
  z70 := Tryz.sizeOf210
  v70 := Tryz.zeroValue210
  t76 := Tryz.underlying227
  a76 := Tryz.isAgg227
  z76 := Tryz.sizeOf227
  v76 := Tryz.zeroValue227
  t77 := Tryz.underlying228
  a77 := Tryz.isAgg228
  z77 := Tryz.sizeOf228
  v77 := Tryz.zeroValue228 }
end Go.Proofs
end
