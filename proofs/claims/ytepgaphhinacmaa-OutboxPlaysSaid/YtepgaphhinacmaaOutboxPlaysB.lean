/- porterlaw13.OutboxPlays: the outbox and the document's, side by side in memory. -/
import Derived.Test.YtepgaphhinacmaaOutboxPlaysA
import Derived.Test.YtepgaphhinacmaaAwakeO
import Derived.Test.YtepgaphhinacmaaOps
import Derived.Test.YtepgaphhinacmaaOutboxDueB
namespace Go.Proofs.Ytepgaphhinacmaa.OutboxPlays
open Go.RowKit Go.Por Go.Proofs.Ytepgaphhinacmaa.OutOI Go.Proofs.Ytepgaphhinacmaa.Ref13 Go.Proofs.Ytepgaphhinacmaa.Ops
open Go.Proofs.Ytepgaphhinacmaa.OutboxDue (own_read)

/-- The outbox O with things l, and the document's in block RB with things 'items'. -/
structure Head (w0 w : World) (O RB : Nat) (v vI : Value) (l items : List It) (now p s : Int) : Prop where
  box : OutIs w O v l p s
  ref : w.heap[RB]? = some (.cells #[vI, .int .i64 now, .int .i64 p, .int .i64 s] 84 (0, 0))
  its : RefIs w vI items
  ge : ∀ x, ofoot O v x → w0.heap.size ≤ x
  geR : w0.heap.size ≤ RB
  geI : ∀ x, vI.ownBlock = some x → w0.heap.size ≤ x
  apR : ¬ ofoot O v RB
  apI : ∀ x, vI.ownBlock = some x → ¬ ofoot O v x ∧ x ≠ RB
  below : Below w0.heap.size w0 w

variable {w0 w w' : World} {O RB : Nat} {v vI : Value} {l items : List It} {now p s : Int}
theorem Head.fresh (h : Head w0 w O RB v vI l items now p s) (hm : Mod (fun x => w.heap.size ≤ x) w w') : Head w0 w' O RB v vI l items now p s where
  box := h.box.mod hm (fun x hx hS => by have := h.box.lt x hx; have h2 : w.heap.size ≤ x := hS; omega)
  ref := hm.old h.ref (fun hS => by have := lt_block h.ref; have h2 : w.heap.size ≤ RB := hS; omega)
  its := OwnS.mod h.its hm (fun x hx hS => by have := (World.ownsRow.lt h.its x hx).2; have h2 : w.heap.size ≤ x := hS; omega)
  ge := h.ge
  geR := h.geR
  geI := h.geI
  apR := h.apR
  apI := h.apI
  below := h.below.trans (hm.to_below h.below.size (fun x hx => by have := h.below.size; have h2 : w.heap.size ≤ x := hx; omega))
theorem Head.alloc (h : Head w0 w O RB v vI l items now p s) (o : Obj) : Head w0 (w.alloc o) O RB v vI l items now p s := h.fresh ((Mod.refl _ w).alloc o)
theorem Head.call (h : Head w0 w O RB v vI l items now p s) {v' : Value} {l' : List It} (hb : OutIs w' O v' l' p s) (hf : ∀ x, ofoot O v' x → ofoot O v x ∨ w.heap.size ≤ x) (hm : Mod (ofoot O v) w w') : Head w0 w' O RB v' vI l' items now p s where
  box := hb
  ref := hm.old h.ref h.apR
  its := OwnS.mod h.its hm (fun x hx => (h.apI x hx).1)
  ge := fun x hx => by rcases hf x hx with h1 | h1; exact h.ge x h1; have := h.below.size; omega
  geR := h.geR
  geI := h.geI
  apR := fun hR => by rcases hf RB hR with h1 | h1; exact h.apR h1; have := lt_block h.ref; omega
  apI := fun x hx => ⟨fun hR => by rcases hf x hR with h1 | h1; exact (h.apI x hx).1 h1; have := (World.ownsRow.lt h.its x hx).2; omega, (h.apI x hx).2⟩
  below := h.below.trans (hm.to_below h.below.size h.ge)
/-- The document's outbox is written anew. -/
def setRef (w : World) (RB : Nat) (vI : Value) (now p s : Int) : World :=
  (((w.setCell ⟨RB, 0, none⟩ vI).setCell ⟨RB, 1, none⟩ (.int .i64 now)).setCell ⟨RB, 2, none⟩ (.int .i64 p)).setCell ⟨RB, 3, none⟩ (.int .i64 s)
theorem setRef_mod (w : World) (RB : Nat) (vI : Value) (now p s : Int) : Mod (fun x => x = RB) w (setRef w RB vI now p s) :=
  ((((Mod.refl (fun x => x = RB) w).setCell (p := ⟨RB, 0, none⟩) (.inl rfl) _).setCell (p := ⟨RB, 1, none⟩) (.inl rfl) _).setCell (p := ⟨RB, 2, none⟩) (.inl rfl) _).setCell (p := ⟨RB, 3, none⟩) (.inl rfl) _
theorem Head.next (h : Head w0 w O RB v vI l items now p s) {w3 : World} {vI' : Value} {items' : List It} {now' : Int} (hm : Mod (fun x => w.heap.size ≤ x) w w3) (hI : RefIs w3 vI' items')
    (hw : ∀ x, vI'.ownBlock = some x → vI.ownBlock = some x ∨ w.heap.size ≤ x) : Head w0 (setRef w3 RB vI' now' p s) O RB v vI' l items' now' p s := by
  have h3 := h.fresh hm
  have hne : ∀ x, vI'.ownBlock = some x → x ≠ RB := by
    intro x hx
    rcases hw x hx with h1 | h1
    · exact (h.apI x h1).2
    · have := lt_block h.ref; omega
  refine ⟨h3.box.mod (setRef_mod w3 RB vI' now' p s) (fun x hx e => h.apR (by rw [← show x = RB from e]; exact hx)), ?_, OwnS.mod hI (setRef_mod w3 RB vI' now' p s) (fun x hx e => hne x hx e), h.ge, h.geR, ?_, h.apR, ?_,
    h3.below.trans ((setRef_mod w3 RB vI' now' p s).to_below h3.below.size (fun x hx => by rw [show x = RB from hx]; exact h.geR))⟩
  · have := block_setCell (block_setCell (block_setCell (block_setCell h3.ref (i := 0) vI') (i := 1) (.int .i64 now')) (i := 2) (.int .i64 p)) (i := 3) (.int .i64 s)
    exact this
  · intro x hx
    rcases hw x hx with h1 | h1
    · exact h.geI x h1
    · have := h.below.size; omega
  · intro x hx
    refine ⟨fun hf => ?_, hne x hx⟩
    rcases hw x hx with h1 | h1
    · exact (h.apI x h1).1 hf
    · have := h.box.lt x hf; omega
end Go.Proofs.Ytepgaphhinacmaa.OutboxPlays
