/- porterlaw10.CacheTrue: what holds from round to round. -/
import Derived.Test.YtepgaphhinacmaaCacheJIA
import Derived.Test.YtepgaphhinacmaaAwakeC
import Derived.Test.YtepgaphhinacmaaIter
import Derived.Test.YtepgaphhinacmaaLruLaw
import Derived.Deep.DeepCutAuto
import Derived.Deep.LoopGhost
namespace Go.Proofs.Ytepgaphhinacmaa.CacheTrue
open Go.RowKit Go.Por Go.Proofs.Ytepgaphhinacmaa.CacheIA

theorem keyInt : KeyOK Try.prog 3 Int (fun n => Value.int .i64 n) := KeyOK.int Try.underlying3

/-- The cache, the map of last places, and that nothing older has turned. -/
structure Inv (w0 w : World) (C M L : Nat) (es : List (Int × (Int × Int) × Nat)) (lm : List (Int × Value)) (sz : Int) : Prop where
  cache : ∃ h m, CacheIs w C M es sz h m
  last : MapIs w L (fun n => Value.int .i64 n) lm
  ge : ∀ b ∈ foot C M es, w0.heap.size ≤ b
  geL : w0.heap.size ≤ L
  apart : L ∉ foot C M es
  below : Below w0.heap.size w0 w

theorem Inv.lt {w0 w : World} {C M L : Nat} {es : List (Int × (Int × Int) × Nat)} {lm : List (Int × Value)} {sz : Int} (H : Inv w0 w C M L es lm sz) : ∀ b ∈ foot C M es, b < w.heap.size := by
  obtain ⟨h, m, hc⟩ := H.cache
  exact hc.lt
theorem Inv.mod {w0 w w' : World} {C M L : Nat} {es : List (Int × (Int × Int) × Nat)} {lm : List (Int × Value)} {sz : Int} (H : Inv w0 w C M L es lm sz) {S : Nat → Prop} (hm : Mod S w w')
    (hs : ∀ x, S x → x ∉ foot C M es ∧ x ≠ L ∧ w0.heap.size ≤ x) : Inv w0 w' C M L es lm sz where
  cache := by
    obtain ⟨h, m, hc⟩ := H.cache
    exact ⟨h, m, hc.mod hm (fun b hb hx => (hs b hx).1 hb)⟩
  last := H.last.mod hm (fun hx => (hs L hx).2.1 rfl)
  ge := H.ge
  geL := H.geL
  apart := H.apart
  below := H.below.trans (hm.to_below H.below.size (fun x hx => (hs x hx).2.2))
theorem Inv.alloc {w0 w : World} {C M L : Nat} {es : List (Int × (Int × Int) × Nat)} {lm : List (Int × Value)} {sz : Int} (H : Inv w0 w C M L es lm sz) (o : Obj) : Inv w0 (w.alloc o) C M L es lm sz :=
  H.mod (S := fun _ => False) ((Mod.refl _ w).alloc o) (fun _ h => h.elim)
theorem Inv.get {w0 w : World} {C M L : Nat} {es : List (Int × (Int × Int) × Nat)} {lm : List (Int × Value)} {sz : Int} (H : Inv w0 w C M L es lm sz) (k : Int) :
    Calls Try.prog 12 #[.pointer (some ⟨C, 0, none⟩), .int .i64 k] w fun e w' =>
      ∃ (a b : Int) (ok : Bool), e = .returned (.tuple #[.agg #[.int .i64 a, .int .i64 b], .bool ok]) ∧ (klook (kv es) k).getD (0, 0) = (a, b) ∧ (klook (kv es) k).isSome = ok ∧ ∃ es', Inv w0 w' C M L es' lm sz ∧ kv es' = lget (kv es) k ∧ w.heap.size ≤ w'.heap.size := by
  obtain ⟨h, m, hc⟩ := H.cache
  refine (get_any hc k).mono ?_
  rintro e w' ⟨rfl, es', H', hk, hf, hm⟩
  exact ⟨_, _, _, rfl, rfl, rfl, es', ⟨⟨_, _, H'⟩, H.last.mod hm H.apart, fun b hb => H.ge b (hf b hb), H.geL, fun hL => H.apart (hf L hL), H.below.trans (hm.to_below H.below.size H.ge)⟩, hk, hm.size⟩
theorem Inv.put {w0 w : World} {C M L : Nat} {es : List (Int × (Int × Int) × Nat)} {lm : List (Int × Value)} {sz : Int} (H : Inv w0 w C M L es lm sz) (k : Int) (v : Int × Int) (hsz : 1 ≤ sz) (hlen : (es.length : Int) ≤ sz) :
    Calls Try.prog 13 #[.pointer (some ⟨C, 0, none⟩), .int .i64 k, .agg #[.int .i64 v.1, .int .i64 v.2]] w fun e w' =>
      e = .returned (.tuple #[]) ∧ ∃ es', Inv w0 w' C M L es' lm sz ∧ kv es' = lput sz (kv es) k v ∧ w.heap.size ≤ w'.heap.size := by
  obtain ⟨h, m, hc⟩ := H.cache
  refine (put_any hc k v hsz hlen).mono ?_
  rintro e w' ⟨rfl, es', H', hk, hf, hm⟩
  have hL := H.last.lt
  exact ⟨rfl, es', ⟨⟨_, _, H'⟩, H.last.mod hm H.apart, fun b hb => by rcases hf b hb with h1 | h1; exact H.ge b h1; have := H.below.size; omega, H.geL,
    fun hL' => by rcases hf L hL' with h1 | h1; exact H.apart h1; omega, H.below.trans (hm.to_below H.below.size H.ge)⟩, hk, hm.size⟩
/-- A place of the last map is written. -/
theorem Inv.store {w0 w : World} {C M L : Nat} {es : List (Int × (Int × Int) × Nat)} {lm : List (Int × Value)} {sz : Int} (H : Inv w0 w C M L es lm sz) (k : Int) (v : Value) :
    ∃ o, (Instr.mapUpdate 29 (.map (some L)) (.int .i64 k) v).run Try.prog w = .ok () (setB w L o) ∧ Inv w0 (setB w L o) C M L es (mput lm k v) sz ∧ w.heap.size = (setB w L o).heap.size := by
  obtain ⟨o, h1, h2⟩ := H.last.store keyInt Try.underlying29 k v
  obtain ⟨h, m, hc⟩ := H.cache
  exact ⟨o, h1, ⟨⟨h, m, hc.mod (setB_mod w L o) (fun b hb e => H.apart (by rw [← show b = L from e]; exact hb))⟩, h2, H.ge, H.geL, H.apart,
    H.below.trans ((setB_mod w L o).to_below H.below.size (fun x hx => by rw [show x = L from hx]; exact H.geL))⟩, by simp [setB]⟩

theorem zeroInt (w : World) : (zeroValue 3).run Try.prog w = .ok (.int .i64 0) w := by kernel_rfl
/-- What a look-up in a map of numbers gives. -/
theorem look_int {w : World} {U : Nat} {l : List (Int × Value)} (h : MapIs w U (fun n => Value.int .i64 n) l) (hi : ∀ p ∈ l, ∃ c : Int, p.2 = .int .i64 c) (k : Int) :
    ∃ c : Int, (Instr.lookup 29 (.map (some U)) (.int .i64 k) false).run Try.prog w = .ok (.int .i64 c) w ∧ ((k, Value.int .i64 c) ∈ l ∨ (k ∉ l.map Prod.fst ∧ c = 0)) := by
  by_cases hk : k ∈ l.map Prod.fst
  · obtain ⟨p, hp, e⟩ := List.mem_map.1 hk
    obtain ⟨c, hc⟩ := hi p hp
    have hm : (k, Value.int .i64 c) ∈ l := by rw [← e, ← hc]; exact hp
    exact ⟨c, h.look_hit keyInt Try.underlying29 hm false, .inl hm⟩
  · exact ⟨0, h.look_miss keyInt Try.underlying29 hk (zeroInt w) false, .inr ⟨hk, rfl⟩⟩

theorem intPlain : Try.prog.plainKey 3 = true := by kernel_rfl
theorem intCells : Try.prog.cellsOf 3 = 1 := by kernel_rfl
theorem intInfo : (Try.prog.info? 3).map (fun i => (i.zero, i.size, i.bytes)) = some (some (Value.int .i64 0), 1, 8) := by kernel_rfl
theorem eq_pair (a b c d : Int) (w : World) : (Op.equalIn 10000 28 (.agg #[.int .i64 a, .int .i64 b]) (.agg #[.int .i64 c, .int .i64 d])).run Try.prog w = .ok ((a == c) && (b == d)) w := by
  obtain ⟨i0, hi, _, _, _⟩ := info_parts intInfo
  have e1 : ∀ (a c : Int), (Op.equalIn 9999 3 (.int .i64 a) (.int .i64 c)).run Try.prog w = .ok (a == c) w := fun a c => run_equalIn_int w 9998 3 .i64 .i64 a c Try.underlying3
  rw [run_equalIn_array w 9999 _ _ Try.underlying28 hi, intCells]
  have p0 : ∀ (x y : Value), (part 3 #[x, y] 0).run Try.prog w = .ok x w := fun x y => run_part_plain w intPlain rfl
  have p1 : ∀ (x y : Value), (part 3 #[x, y] 1).run Try.prog w = .ok y w := fun x y => run_part_plain w intPlain rfl
  cases h1 : (a == c) <;> cases h2 : (b == d) <;> simp [Op.eqItems, List.range_succ, p0, p1, e1, h1, h2, Result.andThen]
theorem eq_same (a b : Int) (w : World) : (Op.equalIn 10000 28 (.agg #[.int .i64 a, .int .i64 b]) (.agg #[.int .i64 a, .int .i64 b])).run Try.prog w = .ok true w := by
  rw [eq_pair]
  simp
end Go.Proofs.Ytepgaphhinacmaa.CacheTrue
