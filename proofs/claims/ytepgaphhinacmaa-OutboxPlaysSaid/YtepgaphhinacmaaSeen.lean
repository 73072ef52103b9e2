/- What was seen: NewSeen, First, Times. -/
import Derived.Test.YtepgaphhinacmaaCacheJII
import Derived.Test.YtepgaphhinacmaaLruLaw
namespace Go.Proofs.Ytepgaphhinacmaa.Seen
open Go.RowKit Go.Por Go.Proofs.Ytepgaphhinacmaa.CacheII

/-- Block S remembers these keys. -/
structure SeenIs (w : World) (S C M : Nat) (es : List (Int × Int × Nat)) (sz : Int) : Prop where
  root : w.heap[S]? = some (.cells #[.pointer (some ⟨C, 0, none⟩)] 138 (0, 0))
  cache : ∃ h m, CacheIs w C M es sz h m
  ne : S ∉ foot C M es

theorem SeenIs.lt {w : World} {S C M : Nat} {es : List (Int × Int × Nat)} {sz : Int} (H : SeenIs w S C M es sz) : S < w.heap.size ∧ ∀ b ∈ foot C M es, b < w.heap.size := by
  obtain ⟨h, m, hc⟩ := H.cache
  exact ⟨lt_block H.root, hc.lt⟩
theorem SeenIs.mod {w w' : World} {S C M : Nat} {es : List (Int × Int × Nat)} {sz : Int} (H : SeenIs w S C M es sz) {T : Nat → Prop} (hm : Mod T w w') (hs : ∀ x, T x → x ≠ S ∧ x ∉ foot C M es) : SeenIs w' S C M es sz where
  root := hm.old H.root (fun h => (hs S h).1 rfl)
  cache := by
    obtain ⟨h, m, hc⟩ := H.cache
    exact ⟨h, m, hc.mod hm (fun b hb hx => (hs b hx).2 hb)⟩
  ne := H.ne

theorem new_bad (n : Int) (w : World) (hn : n < 1 ∨ 4096 < n) :
    Calls Try.prog 40 #[.int .i64 n] w fun e w' => e = .returned (.tuple #[.pointer none, .int .i64 1]) ∧ w = w' := by
  go_enter Try.func40, Try.ntmps40
  go_wp2_with fail
  refine (CacheII.new_bad n w hn).mono ?_
  rintro e w1 ⟨rfl, rfl⟩
  go_wp2
  go_ret2
  exact ⟨rfl, rfl⟩
theorem new_good (n : Int) (w : World) (h1 : 1 ≤ n) (h2 : n ≤ 4096) :
    Calls Try.prog 40 #[.int .i64 n] w fun e w' => ∃ S C M, e = .returned (.tuple #[.pointer (some ⟨S, 0, none⟩), .int .i64 0]) ∧
      SeenIs w' S C M [] n ∧ w.heap.size ≤ S ∧ w.heap.size ≤ C ∧ w.heap.size ≤ M ∧ Below w.heap.size w w' := by
  go_enter Try.func40, Try.ntmps40
  go_wp2_with fail
  refine (CacheII.new_good n w h1 h2).mono ?_
  rintro e w1 ⟨C, M, rfl, hc, hC, hM, hb1⟩
  have HE := Lib.hid (And.intro hc (And.intro hC (And.intro hM hb1)))
  clear hc hC hM hb1
  go_wp2
  go_ret2
  obtain ⟨hc, hC, hM, hb1⟩ := HE.out
  have hs := hb1.size
  refine ⟨_, C, M, rfl, ⟨block_new _ _, ⟨0, 0, hc.mod (S := fun _ => False) ((Mod.refl _ w1).alloc _) (fun _ _ h => h)⟩, fun h => ?_⟩, hs, hC, hM, hb1.alloc hs _⟩
  have := hc.lt _ h
  omega

section
variable {w : World} {S C M : Nat} {es : List (Int × Int × Nat)} {sz : Int}
set_option maxHeartbeats 800000 in
theorem first_any (H : SeenIs w S C M es sz) (k : Int) (hsz : 1 ≤ sz) (hlen : (es.length : Int) ≤ sz) :
    Calls Try.prog 41 #[.pointer (some ⟨S, 0, none⟩), .int .i64 k] w fun e w' => e = .returned (.bool (!(klook (kv es) k).isSome)) ∧
      ∃ es', SeenIs w' S C M es' sz ∧ kv es' = lput sz (kv es) k (wrap64 ((klook (kv es) k).getD 0 + 1)) ∧ (∀ b, b ∈ foot C M es' → b ∈ foot C M es ∨ w.heap.size ≤ b) ∧ Mod (fun x => x ∈ foot C M es) w w' := by
  obtain ⟨h, m, hc⟩ := H.cache
  have c0 : w.cell? ⟨S, 0, none⟩ = some (.pointer (some ⟨C, 0, none⟩)) := cell_of H.root rfl
  have HH := Lib.hid (And.intro H hc)
  clear H hc
  go_enter Try.func41, Try.ntmps41
  go_wp2_with fail
  refine (get_any HH.out.2 k).mono ?_
  rintro e w1 ⟨rfl, es1, hc1, hk1, hf1, hm1⟩
  have c1 : w1.cell? ⟨S, 0, none⟩ = some (.pointer (some ⟨C, 0, none⟩)) := by rw [hm1.cell (p := ⟨S, 0, none⟩) HH.out.1.lt.1 HH.out.1.ne]; exact c0
  have HE := Lib.hid (And.intro hc1 (And.intro hk1 (And.intro hf1 hm1)))
  clear hc1 hk1 hf1 hm1
  have hvz : (klook (kv es) k).getD vzero = (klook (kv es) k).getD 0 := rfl
  rw [hvz]
  generalize hn : (klook (kv es) k).getD 0 = n
  generalize hok : (klook (kv es) k).isSome = ok
  have HN := Lib.hid (And.intro hn hok)
  clear hvz hn hok
  unfold vval
  go_wp2_with fail
  refine (put_any HE.out.1 k (wrap64 (n + 1)) hsz (by
    have h1 := congrArg List.length HE.out.2.1
    rw [kv_length] at h1
    have h2 : (lget (kv es) k).length ≤ (kv es).length := by
      rw [lget]
      cases hl : klook (kv es) k with
      | none => exact Nat.le_refl _
      | some u => simpa using length_kdrop_hit (l := kv es) (k := k) (by rw [hl]; rfl)
    rw [kv_length] at h2
    omega)).mono ?_
  rintro e w2 ⟨rfl, es2, hc2, hk2, hf2, hm2⟩
  have HF := Lib.hid (And.intro hc2 (And.intro hk2 (And.intro hf2 hm2)))
  clear hc2 hk2 hf2 hm2
  cases ok <;> go_wp2
  all_goals go_ret
  all_goals
    obtain ⟨hc1, hk1, hf1, hm1⟩ := HE.out
    obtain ⟨hc2, hk2, hf2, hm2⟩ := HF.out
    have hs1 := hm1.size
    refine ⟨by rw [HN.out.2]; rfl, es2, ⟨?_, ⟨_, _, hc2⟩, ?_⟩, ?_, ?_, ?_⟩
    · exact hm2.old (hm1.old HH.out.1.root HH.out.1.ne) (fun h => HH.out.1.ne (hf1 _ h))
    · intro h
      rcases hf2 _ h with h1 | h1
      · exact HH.out.1.ne (hf1 _ h1)
      · have := HH.out.1.lt.1; omega
    · rw [hk2, hk1, lput_lget, HN.out.1]
    · intro b hb
      rcases hf2 b hb with h1 | h1
      · exact .inl (hf1 b h1)
      · exact .inr (by omega)
    · exact hm1.trans hm2 (fun x hx => .inl (hf1 x hx))

set_option maxHeartbeats 800000 in
theorem times_any (H : SeenIs w S C M es sz) (k : Int) :
    Calls Try.prog 42 #[.pointer (some ⟨S, 0, none⟩), .int .i64 k] w fun e w' => e = .returned (.int .i64 ((klook (kv es) k).getD 0)) ∧
      ∃ es', SeenIs w' S C M es' sz ∧ kv es' = lget (kv es) k ∧ (∀ b, b ∈ foot C M es' → b ∈ foot C M es) ∧ Mod (fun x => x ∈ foot C M es) w w' := by
  obtain ⟨h, m, hc⟩ := H.cache
  have c0 : w.cell? ⟨S, 0, none⟩ = some (.pointer (some ⟨C, 0, none⟩)) := cell_of H.root rfl
  have HH := Lib.hid (And.intro H hc)
  clear H hc
  go_enter Try.func42, Try.ntmps42
  go_wp2_with fail
  refine (get_any HH.out.2 k).mono ?_
  rintro e w1 ⟨rfl, es1, hc1, hk1, hf1, hm1⟩
  have HE := Lib.hid (And.intro hc1 (And.intro hk1 (And.intro hf1 hm1)))
  clear hc1 hk1 hf1 hm1
  have hvz : (klook (kv es) k).getD vzero = (klook (kv es) k).getD 0 := rfl
  rw [hvz]
  generalize hn : (klook (kv es) k).getD 0 = n
  generalize hok : (klook (kv es) k).isSome = ok
  have HN := Lib.hid (And.intro hn hok)
  clear hvz hn hok
  unfold vval
  go_wp2
  go_ret
  obtain ⟨hc1, hk1, hf1, hm1⟩ := HE.out
  refine ⟨by rw [HN.out.1]; rfl, es1, ⟨?_, ⟨_, _, hc1⟩, fun h => HH.out.1.ne (hf1 _ h)⟩, hk1, hf1, hm1⟩
  exact hm1.old HH.out.1.root HH.out.1.ne
end
end Go.Proofs.Ytepgaphhinacmaa.Seen
