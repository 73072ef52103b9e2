/- The cache at keys string and values int: Get and Put in one word each. -/
import Derived.Test.YtepgaphhinacmaaCacheFSI
import Derived.Test.YtepgaphhinacmaaCacheDSI
import Derived.Test.YtepgaphhinacmaaLru
namespace Go.Proofs.Ytepgaphhinacmaa.CacheSI
open Go.RowKit Go.Por

section
variable {w : World} {C M : Nat} {es : List (ByteArray × Int × Nat)} {sz h m : Int}

/-- A value of the element's type. -/
def vval (v : Int) : Value := .int .i64 v
def vzero : Int := 0

theorem get_any (H : CacheIs w C M es sz h m) (k : ByteArray) :
    Calls Try.prog 25 #[.pointer (some ⟨C, 0, none⟩), Value.string k] w fun e w' =>
      e = .returned (.tuple #[vval ((klook (kv es) k).getD vzero), .bool (klook (kv es) k).isSome]) ∧
      ∃ es', CacheIs w' C M es' sz (if (klook (kv es) k).isSome then wrap64 (h + 1) else h) (if (klook (kv es) k).isSome then m else wrap64 (m + 1)) ∧ kv es' = lget (kv es) k ∧
        (∀ b, b ∈ foot C M es' → b ∈ foot C M es) ∧ Mod (fun x => x ∈ foot C M es) w w' := by
  cases hl : klook (kv es) k with
  | none =>
    have hk : k ∉ es.map (·.1) := by rw [← kv_fst]; exact klook_none.1 hl
    refine (get_miss H hk).mono ?_
    rintro e w' ⟨rfl, H', hm⟩
    refine ⟨rfl, es, by simpa using H', by rw [lget, hl], fun b hb => hb, hm.mono (fun x _ hx => by rw [show x = C from hx]; simp [foot])⟩
  | some v =>
    obtain ⟨xs, ys, b, rfl, hd⟩ := klook_split H.keys hl
    refine (get_hit H).mono ?_
    rintro e w' ⟨rfl, H', hm⟩
    refine ⟨rfl, _, by simpa using H', ?_, ?_, hm.mono (fun x _ hx => ?_)⟩
    · rw [lget, hl, ← hd]; rfl
    · intro c hc
      simp only [foot, List.map_append, List.map_cons, List.mem_cons, List.mem_append] at hc ⊢
      grind
    · simp only [foot, List.mem_cons] at hx ⊢
      rcases hx with h1 | h1
      · exact .inl h1
      · exact .inr (.inr h1)

theorem put_any (H : CacheIs w C M es sz h m) (k : ByteArray) (v : Int) (hsz : 1 ≤ sz) (hlen : (es.length : Int) ≤ sz) :
    Calls Try.prog 27 #[.pointer (some ⟨C, 0, none⟩), Value.string k, vval v] w fun e w' =>
      e = .returned (.tuple #[]) ∧
      ∃ es', CacheIs w' C M es' sz h m ∧ kv es' = lput sz (kv es) k v ∧
        (∀ b, b ∈ foot C M es' → b ∈ foot C M es ∨ w.heap.size ≤ b) ∧ Mod (fun x => x ∈ foot C M es) w w' := by
  cases hl : klook (kv es) k with
  | none =>
    have hk : k ∉ es.map (·.1) := by rw [← kv_fst]; exact klook_none.1 hl
    by_cases hfull : (es.length : Int) = sz
    · obtain ⟨xs, x, rfl⟩ := last_split (l := es) (n := es.length - 1) (by omega)
      obtain ⟨k0, v0, b0⟩ := x
      refine (put_full (v := v) H hk (by simp at hfull; omega)).mono ?_
      rintro e w' ⟨rfl, b, hb, H', hm⟩
      refine ⟨rfl, _, H', ?_, ?_, hm⟩
      · rw [lput, hl, kv_length, if_neg (by simp), if_pos hfull, kv_append]
        have : kv [(k0, v0, b0)] = [(k0, v0)] := rfl
        rw [this, List.dropLast_concat]
        rfl
      · intro c hc
        simp only [foot, List.map_append, List.map_cons, List.map_nil, List.mem_cons, List.mem_append] at hc ⊢
        grind
    · refine (put_new (v := v) H hk (by omega)).mono ?_
      rintro e w' ⟨rfl, b, hb, H', hm⟩
      refine ⟨rfl, _, H', ?_, ?_, hm⟩
      · rw [lput, hl, kv_length, if_neg (by simp), if_neg hfull]
        rfl
      · intro c hc
        simp only [foot, List.map_cons, List.mem_cons] at hc ⊢
        grind
  | some v0 =>
    obtain ⟨xs, ys, b, rfl, hd⟩ := klook_split H.keys hl
    refine (put_hit (v' := v) H).mono ?_
    rintro e w' ⟨rfl, H', hm⟩
    refine ⟨rfl, _, H', ?_, ?_, hm.mono (fun x _ hx => ?_)⟩
    · rw [lput, hl, if_pos (by simp), ← hd]; rfl
    · intro c hc
      simp only [foot, List.map_append, List.map_cons, List.mem_cons, List.mem_append] at hc ⊢
      grind
    · simp only [foot, List.mem_cons] at hx ⊢
      rcases hx with h1 | h1
      · exact .inl h1
      · exact .inr (.inr h1)
end
end Go.Proofs.Ytepgaphhinacmaa.CacheSI
