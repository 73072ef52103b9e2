/- porterlaw10.awake answers true. -/
import Derived.Test.YtepgaphhinacmaaCacheJSI
namespace Go.Proofs.Ytepgaphhinacmaa.AwakeC
open Go.RowKit Go.Por Go.Proofs.Ytepgaphhinacmaa.CacheSI

def A : ByteArray := ByteArray.mk #[97]
def B : ByteArray := ByteArray.mk #[98]
def D : ByteArray := ByteArray.mk #[99]

/-- What is carried from call to call: the cache, and that nothing older has turned. -/
def St (w w' : World) (C M : Nat) (l : List (ByteArray × Int)) (h m : Int) : Prop :=
  ∃ es, CacheIs w' C M es 2 h m ∧ kv es = l ∧ (∀ b ∈ foot C M es, w.heap.size ≤ b) ∧ Below w.heap.size w w'

theorem St.put {w w' : World} {C M : Nat} {l l' : List (ByteArray × Int)} {h m : Int} (H : St w w' C M l h m) (k : ByteArray) (v : Int) (hl : l.length ≤ 2) (e : lput 2 l k v = l') :
    Calls Try.prog 27 #[.pointer (some ⟨C, 0, none⟩), .string k, .int .i64 v] w' fun e w'' => e = .returned (.tuple #[]) ∧ St w w'' C M l' h m := by
  obtain ⟨es, H, rfl, hf, hb⟩ := H
  refine (put_any H k v (by omega) (by rw [kv_length] at hl; omega)).mono ?_
  rintro x w'' ⟨rfl, es', H', hk, hf', hm⟩
  exact ⟨rfl, es', H', hk.trans e, fun b hb' => by rcases hf' b hb' with h1 | h1; exact hf b h1; have := hb.size; omega,
    hb.trans (hm.to_below hb.size hf)⟩
theorem St.get {w w' : World} {C M : Nat} {l l' : List (ByteArray × Int)} {h m : Int} (H : St w w' C M l h m) (k : ByteArray) (v : Int) (ok : Bool) (h' m' : Int) (e : lget l k = l') (e1 : (klook l k).getD 0 = v) (e2 : (klook l k).isSome = ok)
    (e3 : (if ok then wrap64 (h + 1) else h) = h') (e4 : (if ok then m else wrap64 (m + 1)) = m') :
    Calls Try.prog 25 #[.pointer (some ⟨C, 0, none⟩), .string k] w' fun e w'' => e = .returned (.tuple #[.int .i64 v, .bool ok]) ∧ St w w'' C M l' h' m' := by
  obtain ⟨es, H, rfl, hf, hb⟩ := H
  refine (get_any H k).mono ?_
  rintro x w'' ⟨rfl, es', H', hk, hf', hm⟩
  subst e1 e2 e3 e4
  exact ⟨rfl, es', H', hk.trans e, fun b hb' => hf b (hf' b hb'), hb.trans (hm.to_below hb.size hf)⟩

set_option maxHeartbeats 1600000 in
theorem awake_any (w : World) :
    Calls Try.prog 10 #[] w fun e w' => e = .returned (.bool true) ∧ Below w.heap.size w w' := by
  go_enter Try.func10, Try.ntmps10
  go_wp2_with fail
  refine (new_good 2 _ (by omega) (by omega)).mono ?_
  rintro e w1 ⟨C, M, rfl, H1, hC, hM, hb1⟩
  have S1 : Hid (St w w1 C M [] 0 0) := ⟨[], H1, rfl, fun b hb => by simp [foot] at hb; rcases hb with h | h <;> omega, hb1⟩
  clear H1 hC hM hb1
  go_wp2_with fail
  refine (S1.out.put (l' := [(A, 1)]) A 1 (by simp) rfl).mono ?_
  rintro e w2 ⟨rfl, h⟩
  have S2 := Lib.hid h
  clear h S1
  go_wp2_with fail
  refine (S2.out.put (l' := [(B, 2), (A, 1)]) B 2 (by simp) rfl).mono ?_
  rintro e w3 ⟨rfl, h⟩
  have S3 := Lib.hid h
  clear h S2
  go_wp2_with fail
  refine (S3.out.get (l' := [(A, 1), (B, 2)]) A 1 true 1 0 rfl rfl rfl (by simp [wrap64]) rfl).mono ?_
  rintro e w4 ⟨rfl, h⟩
  have S4 := Lib.hid h
  clear h S3
  go_wp2_with fail
  refine (S4.out.put (l' := [(D, 3), (A, 1)]) D 3 (by simp) rfl).mono ?_
  rintro e w5 ⟨rfl, h⟩
  have S5 := Lib.hid h
  clear h S4
  go_wp2_with fail
  refine (S5.out.get (l' := [(A, 1), (D, 3)]) A 1 true 2 0 rfl rfl rfl (by simp [wrap64]) rfl).mono ?_
  rintro e w6 ⟨rfl, h⟩
  have S6 := Lib.hid h
  clear h S5
  go_wp2_with fail
  refine (S6.out.get (l' := [(A, 1), (D, 3)]) B 0 false 2 1 rfl rfl rfl rfl (by simp [wrap64])).mono ?_
  rintro e w7 ⟨rfl, h⟩
  have S7 := Lib.hid h
  clear h S6
  go_wp2_with fail
  obtain ⟨es, H7, hk, hf, hb⟩ := S7.out
  refine (counts_any H7).mono ?_
  rintro e w8 ⟨rfl, n, rfl⟩
  have hlen : es.length = 2 := by rw [← kv_length, hk]; rfl
  have S8 := Lib.hid (And.intro (H7.keep (w' := w7.drewN n) (fun _ _ => rfl)) (And.intro hb hlen))
  clear H7 hk hf hb hlen
  go_wp2_with fail
  refine (len_any S8.out.1).mono ?_
  rintro e w9 ⟨rfl, rfl⟩
  have e2 : goInt es.length = .int .i64 2 := by rw [S8.out.2.2]; rfl
  rw [e2]
  clear e2
  go_wp2
  go_ret
  refine ⟨rfl, ?_⟩
  exact ⟨S8.out.2.1.os, S8.out.2.1.tape, S8.out.2.1.output, S8.out.2.1.size, S8.out.2.1.block⟩
end Go.Proofs.Ytepgaphhinacmaa.AwakeC
