/- porterlaw13.OutboxSeen: what holds from round to round. -/
import Derived.Test.YtepgaphhinacmaaAwakeO
import Derived.Test.YtepgaphhinacmaaCacheTrueA
namespace Go.Proofs.Ytepgaphhinacmaa.OutboxSeen
open Go.RowKit Go.Por Go.Proofs.Ytepgaphhinacmaa.CacheII Go.Proofs.Ytepgaphhinacmaa.Seen Go.Proofs.Ytepgaphhinacmaa.CacheTrue

/-- What was seen, the map of times, and that nothing older has turned. -/
structure Inv (w0 w : World) (S C M L : Nat) (es : List (Int × Int × Nat)) (lm : List (Int × Value)) (sz : Int) : Prop where
  seen : SeenIs w S C M es sz
  last : MapIs w L (fun n => Value.int .i64 n) lm
  ge : ∀ b ∈ foot C M es, w0.heap.size ≤ b
  geS : w0.heap.size ≤ S
  geL : w0.heap.size ≤ L
  apart : L ∉ foot C M es
  apartS : L ≠ S
  below : Below w0.heap.size w0 w

variable {w0 w w' : World} {S C M L : Nat} {es : List (Int × Int × Nat)} {lm : List (Int × Value)} {sz : Int}
theorem Inv.mod (H : Inv w0 w S C M L es lm sz) {T : Nat → Prop} (hm : Mod T w w')
    (hs : ∀ x, T x → x ∉ foot C M es ∧ x ≠ L ∧ x ≠ S ∧ w0.heap.size ≤ x) : Inv w0 w' S C M L es lm sz where
  seen := H.seen.mod hm (fun x hx => ⟨(hs x hx).2.2.1, (hs x hx).1⟩)
  last := H.last.mod hm (fun hx => (hs L hx).2.1 rfl)
  ge := H.ge
  geS := H.geS
  geL := H.geL
  apart := H.apart
  apartS := H.apartS
  below := H.below.trans (hm.to_below H.below.size (fun x hx => (hs x hx).2.2.2))
theorem Inv.alloc (H : Inv w0 w S C M L es lm sz) (o : Obj) : Inv w0 (w.alloc o) S C M L es lm sz :=
  H.mod (T := fun _ => False) ((Mod.refl _ w).alloc o) (fun _ h => h.elim)
theorem Inv.drew (H : Inv w0 w S C M L es lm sz) : Inv w0 w.drew S C M L es lm sz :=
  H.mod (T := fun _ => False) (Mod.refl _ w).drew (fun _ h => h.elim)
theorem Inv.first (H : Inv w0 w S C M L es lm sz) (k : Int) (hsz : 1 ≤ sz) (hlen : (es.length : Int) ≤ sz) {f : Bool} {u : Int} (hf : (!(klook (kv es) k).isSome) = f) (hu : wrap64 ((klook (kv es) k).getD 0 + 1) = u) :
    Calls Try.prog 41 #[.pointer (some ⟨S, 0, none⟩), .int .i64 k] w fun e w' => e = .returned (.bool f) ∧
      ∃ es', Inv w0 w' S C M L es' lm sz ∧ kv es' = lput sz (kv es) k u := by
  refine (first_any H.seen k hsz hlen).mono ?_
  rintro e w' ⟨rfl, es', H', hk, hft, hm⟩
  have hL := H.last.lt
  rw [hf]
  rw [hu] at hk
  exact ⟨rfl, es', ⟨H', H.last.mod hm H.apart, fun b hb => by rcases hft b hb with h1 | h1; exact H.ge b h1; have := H.below.size; omega, H.geS, H.geL,
    fun hL' => by rcases hft L hL' with h1 | h1; exact H.apart h1; omega, H.apartS, H.below.trans (hm.to_below H.below.size H.ge)⟩, hk⟩
theorem Inv.times (H : Inv w0 w S C M L es lm sz) (k : Int) {u : Int} (hu : (klook (kv es) k).getD 0 = u) :
    Calls Try.prog 42 #[.pointer (some ⟨S, 0, none⟩), .int .i64 k] w fun e w' => e = .returned (.int .i64 u) ∧
      ∃ es', Inv w0 w' S C M L es' lm sz ∧ kv es' = lget (kv es) k := by
  refine (times_any H.seen k).mono ?_
  rintro e w' ⟨rfl, es', H', hk, hft, hm⟩
  rw [hu]
  exact ⟨rfl, es', ⟨H', H.last.mod hm H.apart, fun b hb => H.ge b (hft b hb), H.geS, H.geL, fun hL => H.apart (hft L hL), H.apartS, H.below.trans (hm.to_below H.below.size H.ge)⟩, hk⟩
/-- A place of the times is written. -/
theorem Inv.store (H : Inv w0 w S C M L es lm sz) (k : Int) (v : Value) :
    ∃ o, (Instr.mapUpdate 29 (.map (some L)) (.int .i64 k) v).run Try.prog w = .ok () (setB w L o) ∧ Inv w0 (setB w L o) S C M L es (mput lm k v) sz := by
  obtain ⟨o, h1, h2⟩ := H.last.store keyInt Try.underlying29 k v
  exact ⟨o, h1, ⟨H.seen.mod (setB_mod w L o) (fun b e => by rw [show b = L from e]; exact ⟨H.apartS, H.apart⟩), h2, H.ge, H.geS, H.geL, H.apart, H.apartS,
    H.below.trans ((setB_mod w L o).to_below H.below.size (fun x hx => by rw [show x = L from hx]; exact H.geL))⟩⟩

theorem lget_lput (sz : Int) (l : List (Int × Int)) (k v : Int) : lget (lput sz l k v) k = lput sz l k v := by
  have h1 : klook (lput sz l k v) k = some v := by simp [lput, klook]
  rw [lget, h1]
  show (k, v) :: kdrop (lput sz l k v) k = lput sz l k v
  have h2 : ∀ t : List (Int × Int), (∀ p ∈ t, p.1 ≠ k) → kdrop ((k, v) :: t) k = t := by
    intro t ht
    simp only [kdrop, ne_eq, not_true_eq_false, decide_false, Bool.false_eq_true, not_false_eq_true, List.filter_cons_of_neg]
    rw [List.filter_eq_self]
    intro p hp
    simpa using ht p hp
  unfold lput
  rw [h2]
  intro p hp
  split at hp
  · have := (List.mem_filter.1 hp).2
    simpa using this
  · rename_i hn
    have hk : k ∉ l.map (·.1) := klook_none.1 (by simpa using hn)
    have hpl : p ∈ l := by
      split at hp
      · exact List.dropLast_subset l hp
      · exact hp
    exact fun e => hk (List.mem_map.2 ⟨p, hpl, e⟩)
theorem klook_lput (sz : Int) (l : List (Int × Int)) (k v : Int) : (klook (lput sz l k v) k).getD 0 = v := by simp [lput, klook]
end Go.Proofs.Ytepgaphhinacmaa.OutboxSeen
