/- porterlaw10.CachePlays: the cache's and the document's, side by side in memory; the closure. -/
import Derived.Test.YtepgaphhinacmaaCachePlaysA
import Derived.Test.YtepgaphhinacmaaCacheJSI
import Derived.Test.YtepgaphhinacmaaAwakeC
import Derived.Test.YtepgaphhinacmaaOpsC
import Derived.Test.YtepgaphhinacmaaPCachePlaysx3
namespace Go.Proofs.Ytepgaphhinacmaa.CachePlays
open Go.RowKit Go.Por Go.Proofs.Ytepgaphhinacmaa.CacheSI Go.Proofs.Ytepgaphhinacmaa.OpsC Go.Proofs.Ytepgaphhinacmaa.Ref10K

abbrev Es := List (ByteArray × Int × Nat)
/-- The cache C with entries es, and the document's in block RB with the same pairs. -/
structure Head (w0 w : World) (C M RB : Nat) (vI : Value) (es : Es) (s h m : Int) : Prop where
  box : CacheIs w C M es s h m
  len : (es.length : Int) ≤ s
  ref : w.heap[RB]? = some (.cells #[vI, .int .i64 s, .int .i64 h, .int .i64 m] 50 (0, 0))
  its : w.ownsRow w0.heap.size 59 2 vI ((kv es).map mkP).length (((kv es).map mkP).flatMap pcells)
  ge : ∀ x ∈ foot C M es, w0.heap.size ≤ x
  geR : w0.heap.size ≤ RB
  apR : RB ∉ foot C M es
  apI : ∀ x, vI.ownBlock = some x → x ∉ foot C M es ∧ x ≠ RB
  below : Below w0.heap.size w0 w

variable {w0 w w' : World} {C M RB : Nat} {vI : Value} {es : Es} {s h m : Int}
theorem Head.fresh (H : Head w0 w C M RB vI es s h m) (hm : Mod (fun x => w.heap.size ≤ x) w w') : Head w0 w' C M RB vI es s h m where
  box := H.box.mod hm (fun x hx hS => by have := H.box.lt x hx; have h2 : w.heap.size ≤ x := hS; omega)
  len := H.len
  ref := hm.old H.ref (fun hS => by have := lt_block H.ref; have h2 : w.heap.size ≤ RB := hS; omega)
  its := hm.row H.its (fun x hx hS => by have := (H.its.lt x hx).2; have h2 : w.heap.size ≤ x := hS; omega)
  ge := H.ge
  geR := H.geR
  apR := H.apR
  apI := H.apI
  below := H.below.trans (hm.to_below H.below.size (fun x hx => by have := H.below.size; have h2 : w.heap.size ≤ x := hx; omega))
theorem Head.alloc (H : Head w0 w C M RB vI es s h m) (o : Obj) : Head w0 (w.alloc o) C M RB vI es s h m := H.fresh ((Mod.refl _ w).alloc o)
/-- The document's cache is written anew. -/
def setRef (w : World) (RB : Nat) (vI : Value) (s h m : Int) : World :=
  (((w.setCell ⟨RB, 0, none⟩ vI).setCell ⟨RB, 1, none⟩ (.int .i64 s)).setCell ⟨RB, 2, none⟩ (.int .i64 h)).setCell ⟨RB, 3, none⟩ (.int .i64 m)
theorem setRef_mod (w : World) (RB : Nat) (vI : Value) (s h m : Int) : Mod (fun x => x = RB) w (setRef w RB vI s h m) :=
  ((((Mod.refl (fun x => x = RB) w).setCell (p := ⟨RB, 0, none⟩) (.inl rfl) _).setCell (p := ⟨RB, 1, none⟩) (.inl rfl) _).setCell (p := ⟨RB, 2, none⟩) (.inl rfl) _).setCell (p := ⟨RB, 3, none⟩) (.inl rfl) _
/-- The document's part is ahead: its new pairs lie in w, the cache has still its old entries. -/
structure Half (w0 w : World) (C M RB : Nat) (vI : Value) (es : Es) (l : List KV) (s h m h' m' : Int) : Prop where
  box : CacheIs w C M es s h m
  ref : w.heap[RB]? = some (.cells #[vI, .int .i64 s, .int .i64 h', .int .i64 m'] 50 (0, 0))
  its : w.ownsRow w0.heap.size 59 2 vI (l.map mkP).length ((l.map mkP).flatMap pcells)
  ge : ∀ x ∈ foot C M es, w0.heap.size ≤ x
  geR : w0.heap.size ≤ RB
  apR : RB ∉ foot C M es
  apI : ∀ x, vI.ownBlock = some x → x ∉ foot C M es ∧ x ≠ RB
  below : Below w0.heap.size w0 w
theorem Head.next (H : Head w0 w C M RB vI es s h m) {w3 : World} {vI' : Value} {l : List KV} {h' m' : Int} (hm : Mod (fun x => w.heap.size ≤ x ∨ vI.ownBlock = some x) w w3) (hI : w3.ownsRow w0.heap.size 59 2 vI' (l.map mkP).length ((l.map mkP).flatMap pcells))
    (hw : ∀ x, vI'.ownBlock = some x → vI.ownBlock = some x ∨ w.heap.size ≤ x) : Half w0 (setRef w3 RB vI' s h' m') C M RB vI' es l s h m h' m' := by
  have hne : ∀ x, vI'.ownBlock = some x → x ≠ RB := by
    intro x hx
    rcases hw x hx with h1 | h1
    · exact (H.apI x h1).2
    · have := lt_block H.ref; omega
  have hb3 : CacheIs w3 C M es s h m := H.box.mod hm (fun x hx hS => by
    rcases hS with hS | hS
    · have := H.box.lt x hx; omega
    · exact (H.apI x hS).1 hx)
  have hr3 := hm.old H.ref (fun hS => by
    rcases hS with hS | hS
    · have := lt_block H.ref; omega
    · exact (H.apI RB hS).2 rfl)
  have hbl3 := H.below.trans (hm.to_below H.below.size (fun x hx => by
    rcases hx with hx | hx
    · have := H.below.size; omega
    · exact (H.its.lt x hx).1))
  refine ⟨hb3.mod (setRef_mod w3 RB vI' s h' m') (fun x hx e => H.apR (by rw [← show x = RB from e]; exact hx)), ?_, (setRef_mod w3 RB vI' s h' m').row hI (fun x hx e => hne x hx e), H.ge, H.geR, H.apR, ?_,
    hbl3.trans ((setRef_mod w3 RB vI' s h' m').to_below hbl3.size (fun x hx => by rw [show x = RB from hx]; exact H.geR))⟩
  · exact block_setCell (block_setCell (block_setCell (block_setCell hr3 (i := 0) vI') (i := 1) (.int .i64 s)) (i := 2) (.int .i64 h')) (i := 3) (.int .i64 m')
  · intro x hx
    refine ⟨fun hf => ?_, hne x hx⟩
    rcases hw x hx with h1 | h1
    · exact (H.apI x h1).1 hf
    · have := H.box.lt x hf; omega
theorem Half.fresh {l : List KV} {h' m' : Int} (H : Half w0 w C M RB vI es l s h m h' m') (hm : Mod (fun x => w.heap.size ≤ x) w w') : Half w0 w' C M RB vI es l s h m h' m' where
  box := H.box.mod hm (fun x hx hS => by have := H.box.lt x hx; have h2 : w.heap.size ≤ x := hS; omega)
  ref := hm.old H.ref (fun hS => by have := lt_block H.ref; have h2 : w.heap.size ≤ RB := hS; omega)
  its := hm.row H.its (fun x hx hS => by have := (H.its.lt x hx).2; have h2 : w.heap.size ≤ x := hS; omega)
  ge := H.ge
  geR := H.geR
  apR := H.apR
  apI := H.apI
  below := H.below.trans (hm.to_below H.below.size (fun x hx => by have := H.below.size; have h2 : w.heap.size ≤ x := hx; omega))
theorem Half.call {l : List KV} {h' m' : Int} {es' : Es} (H : Half w0 w C M RB vI es l s h m h' m') (hb : CacheIs w' C M es' s h' m') (hlen : (es'.length : Int) ≤ s) (hl : kv es' = l) (hf : ∀ x, x ∈ foot C M es' → x ∈ foot C M es ∨ w.heap.size ≤ x) (hm : Mod (fun x => x ∈ foot C M es) w w') :
    Head w0 w' C M RB vI es' s h' m' where
  box := hb
  len := hlen
  ref := hm.old H.ref H.apR
  its := by rw [hl]; exact hm.row H.its (fun x hx => (H.apI x hx).1)
  ge := fun x hx => by rcases hf x hx with h1 | h1; exact H.ge x h1; have := H.below.size; omega
  geR := H.geR
  apR := fun hR => by rcases hf RB hR with h1 | h1; exact H.apR h1; have := lt_block H.ref; omega
  apI := fun x hx => ⟨fun hR => by rcases hf x hR with h1 | h1; exact (H.apI x hx).1 h1; have := (H.its.lt x hx).2; omega, (H.apI x hx).2⟩
  below := H.below.trans (hm.to_below H.below.size H.ge)

set_option maxHeartbeats 800000 in
theorem hasPrefix_any (a b : ByteArray) (w : World) :
    Calls Try.prog 31 #[.string a, .string b] w fun e w' => e = .returned (.bool (pre a b)) ∧ w' = w := by
  have hin : Calls Try.prog 62 #[.string a, .string b] w fun e w' => e = .returned (.bool (pre a b)) ∧ w' = w := by
    by_cases hsz : b.size ≤ a.size
    · have hsz1 : (b.size : Int) ≤ (a.size : Int) := by omega
      by_cases hq : a.extract 0 b.size = b
      · have hp : pre a b = true := by unfold pre; simp [hq, hsz]
        have hk1 : ((a.extract 0 b.size).toList == b.toList) = true := by rw [hq]; simp
        have HP := Lib.hid hp
        clear hp hq
        go_enter Try.func62, Try.ntmps62
        go_wp2
        go_ret
        rw [HP.out]
        exact ⟨rfl, rfl⟩
      · have hp : pre a b = false := by unfold pre; simp [hq]
        have hk1 : ((a.extract 0 b.size).toList == b.toList) = false := beq_no hq
        have HP := Lib.hid hp
        clear hp hq
        go_enter Try.func62, Try.ntmps62
        go_wp2
        go_ret
        rw [HP.out]
        exact ⟨rfl, rfl⟩
    · have hp : pre a b = false := by unfold pre; simp; omega
      have HP := Lib.hid hp
      have hsz1 : ¬ (b.size : Int) ≤ (a.size : Int) := by omega
      clear hp hsz
      go_enter Try.func62, Try.ntmps62
      go_wp2
      go_ret
      rw [HP.out]
      exact ⟨rfl, rfl⟩
  go_enter Try.func31, Try.ntmps31
  go_wp2_with fail
  refine hin.mono ?_
  rintro e w' ⟨rfl, rfl⟩
  go_wp2
  go_ret
  exact ⟨rfl, rfl⟩
theorem closure_any (X : Nat) (key a : ByteArray) (w : World) (hx : w.cell? ⟨X, 2, none⟩ = some (.string key)) :
    Calls Try.prog 30 (#[.string a] ++ #[.pointer (some ⟨X, 0, none⟩)]) w fun e w' => e = .returned (.bool (pre a key)) ∧ w = w' := by
  go_enter Try.func30, Try.ntmps30
  go_wp2_with fail
  refine (hasPrefix_any a key w).mono ?_
  rintro e w' ⟨rfl, rfl⟩
  go_wp2
  go_ret
  exact ⟨rfl, rfl⟩
end Go.Proofs.Ytepgaphhinacmaa.CachePlays
