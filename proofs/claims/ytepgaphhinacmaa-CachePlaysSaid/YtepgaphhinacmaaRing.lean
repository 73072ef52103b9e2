/- A ring of blocks, doubly linked: each block has its forerunner's address at cell po, its follower's at cell po + 1. No program in sight. -/
import Derived.Test.YtepgaphhinacmaaBase
namespace Go.Por
open Go.RowKit

/-- Neighbours in a list are related. -/
def Chn (R : Nat → Nat → Prop) : List Nat → Prop
  | a :: b :: t => R a b ∧ Chn R (b :: t)
  | _ => True

theorem chn_append {R : Nat → Nat → Prop} : ∀ (xs : List Nat) (a : Nat) (ys : List Nat), Chn R (xs ++ a :: ys) ↔ Chn R (xs ++ [a]) ∧ Chn R (a :: ys)
  | [], a, ys => by simp [Chn]
  | [x], a, ys => by simp [Chn]
  | x :: y :: xs, a, ys => by
    have h := chn_append (R := R) (y :: xs) a ys
    simp only [List.cons_append] at h
    simp only [List.cons_append, Chn, h, and_assoc]
theorem chn_imp {R R' : Nat → Nat → Prop} : ∀ (l : List Nat), Chn R l → (∀ a b, a ∈ l.dropLast → b ∈ l.tail → R a b → R' a b) → Chn R' l
  | [], _, _ => trivial
  | [_], _, _ => trivial
  | a :: b :: t, ⟨h1, h2⟩, h => ⟨h a b (by simp) (by simp) h1, chn_imp (b :: t) h2 (fun x y hx hy => h x y (by simp [hx]) (by simp at hy; simp [hy]))⟩

theorem chn_at {R : Nat → Nat → Prop} : ∀ {l : List Nat} {i a b : Nat}, Chn R l → l[i]? = some a → l[i + 1]? = some b → R a b
  | [], _, _, _, _, h, _ => by simp at h
  | [_], i, _, _, _, _, h => by simp at h
  | x :: y :: t, 0, a, b, ⟨h1, _⟩, ha, hb => by simp at ha hb; subst ha; subst hb; exact h1
  | x :: y :: t, i + 1, a, b, ⟨_, h2⟩, ha, hb => chn_at (l := y :: t) (i := i) h2 (by simpa using ha) (by simpa using hb)

abbrev ptr (b : Nat) : Value := .pointer (some ⟨b, 0, none⟩)
def Link (po : Nat) (w : World) (a b : Nat) : Prop := w.cell? ⟨a, po + 1, none⟩ = some (ptr b) ∧ w.cell? ⟨b, po, none⟩ = some (ptr a)
/-- Block b: what it holds but for its two addresses. -/
def Nd (w : World) (t : TypeId) (pre post : List Value) (b : Nat) : Prop := ∃ p n : Value, w.heap[b]? = some (.cells (pre ++ p :: n :: post).toArray t (0, 0))

theorem Nd.lt {w : World} {t : TypeId} {pre post : List Value} {b : Nat} (h : Nd w t pre post b) : b < w.heap.size := by obtain ⟨p, n, h⟩ := h; exact lt_block h
theorem Nd.keep {w w' : World} {t : TypeId} {pre post : List Value} {b : Nat} (h : Nd w t pre post b) (hb : w'.heap[b]? = w.heap[b]?) : Nd w' t pre post b := by
  obtain ⟨p, n, h⟩ := h; exact ⟨p, n, hb.trans h⟩
theorem Nd.free {w : World} {t : TypeId} {pre post : List Value} {b i : Nat} (h : Nd w t pre post b) : w.frozen? ⟨b, i, none⟩ = false := by obtain ⟨p, n, h⟩ := h; exact free_of h
theorem Nd.prev {w : World} {t : TypeId} {pre post : List Value} {b : Nat} (h : Nd w t pre post b) : ∃ x, w.cell? ⟨b, pre.length, none⟩ = some x := by
  obtain ⟨p, n, h⟩ := h; exact ⟨p, cell_of h (by simp)⟩
theorem Nd.next {w : World} {t : TypeId} {pre post : List Value} {b : Nat} (h : Nd w t pre post b) : ∃ x, w.cell? ⟨b, pre.length + 1, none⟩ = some x := by
  obtain ⟨p, n, h⟩ := h; exact ⟨n, cell_of h (by simp)⟩
theorem Nd.pre {w : World} {t : TypeId} {pre post : List Value} {b i : Nat} {v : Value} (h : Nd w t pre post b) (hv : pre[i]? = some v) : w.cell? ⟨b, i, none⟩ = some v := by
  obtain ⟨p, n, h⟩ := h
  have hi : i < pre.length := by
    rcases Nat.lt_or_ge i pre.length with h' | h'
    · exact h'
    · simp [List.getElem?_eq_none h'] at hv
  exact cell_of h (by simp [List.getElem?_append_left hi, hv])
theorem Nd.post {w : World} {t : TypeId} {pre post : List Value} {b i : Nat} {v : Value} (h : Nd w t pre post b) (hv : post[i]? = some v) : w.cell? ⟨b, pre.length + 2 + i, none⟩ = some v := by
  obtain ⟨p, n, h⟩ := h
  refine cell_of h ?_
  rw [List.getElem?_toArray, List.getElem?_append_right (by omega)]
  have : pre.length + 2 + i - pre.length = i + 2 := by omega
  rw [this]; simpa using hv
theorem Nd.setLink {w : World} {t : TypeId} {pre post : List Value} {b : Nat} (h : Nd w t pre post b) (c i : Nat) (hi : i = pre.length ∨ i = pre.length + 1) (u : Value) : Nd (w.setCell ⟨c, i, none⟩ u) t pre post b := by
  obtain ⟨p, n, h⟩ := h
  by_cases hc : b = c
  · subst hc
    rcases hi with rfl | rfl
    · exact ⟨u, n, by rw [block_setCell h]; simp⟩
    · exact ⟨p, u, by rw [block_setCell h]; simp⟩
  · exact ⟨p, n, block_setCell_ne h hc u⟩
theorem Nd.setPost {w : World} {t : TypeId} {pre post : List Value} {b : Nat} (h : Nd w t pre post b) (i : Nat) (u : Value) : Nd (w.setCell ⟨b, pre.length + 2 + i, none⟩ u) t pre (post.set i u) b := by
  obtain ⟨p, n, h⟩ := h
  refine ⟨p, n, ?_⟩
  rw [block_setCell h]
  have : pre.length + 2 + i - pre.length = i + 2 := by omega
  have h2 : ¬ pre.length + 2 + i < pre.length := by omega
  simp [List.set_append, this, h2]
theorem Nd.setPre {w : World} {t : TypeId} {pre post : List Value} {b : Nat} (h : Nd w t pre post b) {i : Nat} (hi : i < pre.length) (u : Value) : Nd (w.setCell ⟨b, i, none⟩ u) t (pre.set i u) post b := by
  obtain ⟨p, n, h⟩ := h
  refine ⟨p, n, ?_⟩
  rw [block_setCell h]
  simp [hi]

/-- A block of the ring: it can be written at its two addresses. -/
def Lk (po : Nat) (w : World) (b : Nat) : Prop := ∃ t pre post, pre.length = po ∧ Nd w t pre post b

theorem Lk.prev {po : Nat} {w : World} {b : Nat} (h : Lk po w b) : ∃ x, w.cell? ⟨b, po, none⟩ = some x := by obtain ⟨t, pre, post, rfl, h⟩ := h; exact h.prev
theorem Lk.next {po : Nat} {w : World} {b : Nat} (h : Lk po w b) : ∃ x, w.cell? ⟨b, po + 1, none⟩ = some x := by obtain ⟨t, pre, post, rfl, h⟩ := h; exact h.next
theorem Lk.free {po : Nat} {w : World} {b i : Nat} (h : Lk po w b) : w.frozen? ⟨b, i, none⟩ = false := by obtain ⟨t, pre, post, rfl, h⟩ := h; exact h.free
theorem Lk.set {po : Nat} {w : World} {b : Nat} (h : Lk po w b) (c i : Nat) (hi : i = po ∨ i = po + 1) (u : Value) : Lk po (w.setCell ⟨c, i, none⟩ u) b := by
  obtain ⟨t, pre, post, rfl, h⟩ := h; exact ⟨t, pre, post, rfl, h.setLink c i hi u⟩

theorem cell_ne {w : World} {a b i j : Nat} {u : Value} (h : a ≠ b ∨ i ≠ j) : (w.setCell ⟨a, i, none⟩ u).cell? ⟨b, j, none⟩ = w.cell? ⟨b, j, none⟩ :=
  World.cell?_setCell_other _ _ _ _ (fun e => by cases e; rcases h with h | h <;> exact h rfl)
theorem Link.set_next {po : Nat} {w : World} {a b c : Nat} (h : Link po w a b) (hne : c ≠ a) (u : Value) : Link po (w.setCell ⟨c, po + 1, none⟩ u) a b :=
  ⟨by rw [cell_ne (.inl hne)]; exact h.1, by rw [cell_ne (.inr (by omega))]; exact h.2⟩
theorem Link.set_prev {po : Nat} {w : World} {a b c : Nat} (h : Link po w a b) (hne : c ≠ b) (u : Value) : Link po (w.setCell ⟨c, po, none⟩ u) a b :=
  ⟨by rw [cell_ne (.inr (by omega))]; exact h.1, by rw [cell_ne (.inl hne)]; exact h.2⟩

def Ring (po : Nat) (w : World) (r : Nat) (bs : List Nat) : Prop := Chn (Link po w) (r :: bs ++ [r])

/-- One block taken out. -/
theorem ring_out {po : Nat} {w : World} {r e : Nat} {xs ys : List Nat} (hn : (r :: (xs ++ e :: ys)).Nodup) (hl : ∀ b ∈ r :: (xs ++ e :: ys), Lk po w b) (h : Ring po w r (xs ++ e :: ys)) :
    ∃ p n, w.cell? ⟨e, po, none⟩ = some (ptr p) ∧ w.cell? ⟨e, po + 1, none⟩ = some (ptr n) ∧ p ∈ r :: (xs ++ e :: ys) ∧ n ∈ r :: (xs ++ e :: ys) ∧
      Ring po ((w.setCell ⟨p, po + 1, none⟩ (ptr n)).setCell ⟨n, po, none⟩ (ptr p)) r (xs ++ ys) ∧ p ≠ e := by
  obtain ⟨A, p, hA⟩ : ∃ A p, r :: xs = A ++ [p] := ⟨_, _, (List.dropLast_concat_getLast (l := r :: xs) (by simp)).symm⟩
  obtain ⟨n, B, hB⟩ : ∃ n B, ys ++ [r] = n :: B := by
    cases ys with
    | nil => exact ⟨r, [], rfl⟩
    | cons y t => exact ⟨y, t ++ [r], rfl⟩
  have hp : p ∈ r :: xs := by rw [hA]; simp
  have hnn : n ∈ ys ++ [r] := by rw [hB]; simp
  have e1 : r :: (xs ++ e :: ys) ++ [r] = A ++ p :: ([e] ++ n :: B) := by
    have : r :: (xs ++ e :: ys) ++ [r] = (r :: xs) ++ e :: (ys ++ [r]) := by simp
    rw [this, hA, hB]; simp
  have e2 : r :: (xs ++ ys) ++ [r] = A ++ p :: n :: B := by
    have : r :: (xs ++ ys) ++ [r] = (r :: xs) ++ (ys ++ [r]) := by simp
    rw [this, hA, hB]; simp
  have hpm : p ∈ r :: (xs ++ e :: ys) := by
    rcases List.mem_cons.1 hp with h | h
    · simp [h]
    · simp [h]
  have hnm : n ∈ r :: (xs ++ e :: ys) := by
    rcases List.mem_append.1 hnn with h | h
    · simp [h]
    · simp at h; simp [h]
  unfold Ring at h ⊢
  rw [e1, chn_append] at h
  rw [e2]
  obtain ⟨h1, h2, h3⟩ := h
  obtain ⟨h3, h4⟩ := h3
  have hpe : p ≠ e := by
    intro e0
    subst e0
    simp only [List.nodup_cons, List.nodup_append, List.mem_append, List.mem_cons] at hn
    rcases List.mem_cons.1 hp with h' | h'
    · exact hn.1 (.inr (.inl h'.symm))
    · exact hn.2.2.2 _ h' _ (.inl rfl) rfl
  refine ⟨p, n, h2.2, h3.1, hpm, hnm, (chn_append _ _ _).2 ⟨?_, ⟨?_, ?_⟩, ?_⟩, hpe⟩
  · refine chn_imp _ h1 fun a b ha hb hab => ?_
    have hap : p ≠ a := by
      intro e0
      subst e0
      have : (r :: xs).Nodup := by
        refine List.Sublist.nodup ?_ hn
        exact List.Sublist.cons_cons _ (List.sublist_append_left _ _)
      rw [hA] at this
      rw [List.dropLast_concat] at ha
      exact (List.nodup_append.1 this).2.2 _ ha _ (by simp) rfl
    have hbn : n ≠ b := by
      intro e0
      subst e0
      rw [← hA] at hb
      simp at hb
      simp only [List.nodup_cons, List.nodup_append, List.mem_append, List.mem_cons] at hn
      rcases List.mem_append.1 hnn with h' | h'
      · exact hn.2.2.2 _ hb _ (.inr h') rfl
      · simp at h'
        subst h'
        exact hn.1 (.inl hb)
    exact (hab.set_next hap _).set_prev hbn _
  · rw [cell_ne (.inr (by omega))]
    obtain ⟨x, hx⟩ := (hl p hpm).next
    exact World.cell?_setCell_same _ _ _ hx
  · obtain ⟨x, hx⟩ := ((hl n hnm).set p (po + 1) (.inr rfl) (ptr n)).prev
    exact World.cell?_setCell_same _ _ _ hx
  · refine chn_imp _ h4 fun a b ha hb hab => ?_
    have hap : p ≠ a := by
      intro e0
      subst e0
      rw [← hB, List.dropLast_concat] at ha
      simp only [List.nodup_cons, List.nodup_append, List.mem_append, List.mem_cons] at hn
      rcases List.mem_cons.1 hp with h' | h'
      · subst h'; exact hn.1 (.inr (.inr ha))
      · exact hn.2.2.2 _ h' _ (.inr ha) rfl
    have hbn : n ≠ b := by
      intro e0
      subst e0
      simp at hb
      have : (ys ++ [r]).Nodup := by
        simp only [List.nodup_cons, List.nodup_append, List.mem_append, List.mem_cons] at hn ⊢
        refine ⟨hn.2.2.1.2, by simp, fun a ha c hc => ?_⟩
        simp at hc
        subst hc
        intro e0
        subst e0
        exact hn.1 (.inr (.inr ha))
      rw [hB] at this
      exact (List.nodup_cons.1 this).1 hb
    exact (hab.set_next hap _).set_prev hbn _

/-- One block put ahead. -/
theorem ring_first {po : Nat} {w : World} {r e : Nat} {bs : List Nat} (hn : (r :: bs).Nodup) (he : e ∉ r :: bs) (hl : ∀ b ∈ r :: bs, Lk po w b) (hle : Lk po w e) (h : Ring po w r bs) :
    ∃ n, w.cell? ⟨r, po + 1, none⟩ = some (ptr n) ∧ n ∈ r :: bs ∧
      Ring po ((((w.setCell ⟨e, po, none⟩ (ptr r)).setCell ⟨e, po + 1, none⟩ (ptr n)).setCell ⟨r, po + 1, none⟩ (ptr e)).setCell ⟨n, po, none⟩ (ptr e)) r (e :: bs) := by
  obtain ⟨n, B, hB⟩ : ∃ n B, bs ++ [r] = n :: B := by
    cases bs with
    | nil => exact ⟨r, [], rfl⟩
    | cons y t => exact ⟨y, t ++ [r], rfl⟩
  have hnn : n ∈ bs ++ [r] := by rw [hB]; simp
  have hnm : n ∈ r :: bs := by
    rcases List.mem_append.1 hnn with h | h
    · simp [h]
    · simp at h; simp [h]
  have her : e ≠ r := fun h => he (by simp [h])
  have hen : e ≠ n := fun h => he (h ▸ hnm)
  unfold Ring at h ⊢
  rw [show r :: bs ++ [r] = r :: (bs ++ [r]) from rfl, hB] at h
  rw [show r :: (e :: bs) ++ [r] = r :: e :: (bs ++ [r]) from rfl, hB]
  obtain ⟨h1, h2⟩ := h
  refine ⟨n, h1.1, hnm, ⟨?_, ?_⟩, ⟨?_, ?_⟩, ?_⟩
  · rw [cell_ne (.inr (by omega))]
    obtain ⟨x, hx⟩ := (((hl r (by simp)).set e po (.inl rfl) (ptr r)).set e (po + 1) (.inr rfl) (ptr n)).next
    exact World.cell?_setCell_same _ _ _ hx
  · rw [cell_ne (.inl hen.symm), cell_ne (.inr (by omega)), cell_ne (.inr (by omega))]
    obtain ⟨x, hx⟩ := hle.prev
    exact World.cell?_setCell_same _ _ _ hx
  · rw [cell_ne (.inl hen.symm), cell_ne (.inl her.symm)]
    obtain ⟨x, hx⟩ := (hle.set e po (.inl rfl) (ptr r)).next
    exact World.cell?_setCell_same _ _ _ hx
  · obtain ⟨x, hx⟩ := ((((hl n hnm).set e po (.inl rfl) (ptr r)).set e (po + 1) (.inr rfl) (ptr n)).set r (po + 1) (.inr rfl) (ptr e)).prev
    exact World.cell?_setCell_same _ _ _ hx
  · refine chn_imp _ h2 fun a b ha hb hab => ?_
    rw [← hB, List.dropLast_concat] at ha
    have hea : e ≠ a := fun h => he (by simp [h, ha])
    have hra : r ≠ a := by
      intro e0; subst e0
      exact (List.nodup_cons.1 hn).1 ha
    have heb : e ≠ b := by
      intro e0; subst e0
      simp at hb
      have : e ∈ bs ++ [r] := by rw [hB]; simp [hb]
      exact he (by rcases List.mem_append.1 this with h | h; simp [h]; simp at h; simp [h])
    have hnb : n ≠ b := by
      intro e0; subst e0
      simp at hb
      have : (bs ++ [r]).Nodup := by
        rw [List.nodup_append]
        refine ⟨(List.nodup_cons.1 hn).2, by simp, fun a ha c hc => ?_⟩
        simp at hc; subst hc
        intro e0; subst e0
        exact (List.nodup_cons.1 hn).1 ha
      rw [hB] at this
      exact (List.nodup_cons.1 this).1 hb
    exact (((hab.set_prev heb _).set_next hea _).set_next hra _).set_prev hnb _
theorem Ring.keep {po : Nat} {w w' : World} {r : Nat} {bs : List Nat} (h : Ring po w r bs) (hb : ∀ b ∈ r :: bs, w'.heap[b]? = w.heap[b]?) : Ring po w' r bs := by
  refine chn_imp _ h fun a b ha hb' hab => ?_
  have e1 : (r :: bs ++ [r]).dropLast = r :: bs := List.dropLast_concat
  have e2 : (r :: bs ++ [r]).tail = bs ++ [r] := rfl
  rw [e1] at ha
  rw [e2] at hb'
  have hb2 : b ∈ r :: bs := by rcases List.mem_append.1 hb' with h | h; simp [h]; simp at h; simp [h]
  exact ⟨by rw [World.cell?_of_block (w := w) (hb a ha)]; exact hab.1, by rw [World.cell?_of_block (w := w) (hb b hb2)]; exact hab.2⟩
/-- The follower of the i-th block. -/
theorem Ring.next {po : Nat} {w : World} {r : Nat} {bs : List Nat} (h : Ring po w r bs) {i a b : Nat} (ha : (r :: bs)[i]? = some a) (hb : (bs ++ [r])[i]? = some b) : w.cell? ⟨a, po + 1, none⟩ = some (ptr b) := by
  have hlt : i < (r :: bs).length := by
    rcases Nat.lt_or_ge i (r :: bs).length with h' | h'
    · exact h'
    · simp [List.getElem?_eq_none h'] at ha
  exact (chn_at h (by rw [List.getElem?_append_left hlt]; exact ha) (by simpa using hb)).1
theorem Ring.drew {po : Nat} {w : World} {r : Nat} {bs : List Nat} (h : Ring po w r bs) : Ring po w.drew r bs := h.keep (fun _ _ => rfl)
theorem Nd.drew {w : World} {t : TypeId} {pre post : List Value} {b : Nat} (h : Nd w t pre post b) : Nd w.drew t pre post b := h.keep rfl
/-- A store beside the two addresses. -/
theorem Ring.setCell {po : Nat} {w : World} {r : Nat} {bs : List Nat} (h : Ring po w r bs) {c i : Nat} (hi : i ≠ po ∧ i ≠ po + 1) (u : Value) : Ring po (w.setCell ⟨c, i, none⟩ u) r bs :=
  chn_imp _ h fun a b _ _ hab => ⟨by rw [cell_ne (.inr hi.2)]; exact hab.1, by rw [cell_ne (.inr hi.1)]; exact hab.2⟩
end Go.Por
