/- slices.Backward at changes: an iterator. -/
import Derived.Test.YtobcakjlfdejjaaRowsW
import Derived.RangeFuncNested
import Derived.RangeFuncBound
import Derived.RangeFuncCalls
import Derived.RangeFuncLeaves
import Derived.RangeFuncBox
import Derived.Shelf.Abstract
import Derived.Shelf.RegionOpen
import Derived.OwnWalkIn
import Derived.TacticsInMore
import Derived.LoopNIn
import Derived.LoopIn
set_option linter.unusedVariables false
set_option linter.unusedSimpArgs false
namespace Go.Proofs.Ytobcakjlfdejjaa.Back
open Go.RowKit Go.Por Go.Sort Go.Shelf Go.Proofs.Ytobcakjlfdejjaa.Watch

attribute [local go_sem] Oper.semAt_some

/-- What has come behind k rounds: from the last on. -/
def upto (l : List Chg) (k : Nat) : List (Nat × Chg) := (List.range k).map (fun j => (l.length - 1 - j, (l[l.length - 1 - j]?).getD (0, false, ByteArray.empty, ByteArray.empty, ByteArray.empty)))
theorem upto_succ (l : List Chg) (k : Nat) : upto l (k + 1) = upto l k ++ [(l.length - 1 - k, (l[l.length - 1 - k]?).getD (0, false, ByteArray.empty, ByteArray.empty, ByteArray.empty))] := by simp [upto, List.range_succ]
theorem upto_length (l : List Chg) (k : Nat) : (upto l k).length = k := by simp [upto]
theorem upto_snd (l : List Chg) : ∀ k, k ≤ l.length → (upto l k).map Prod.snd = l.reverse.take k
  | 0, _ => by simp [upto]
  | k + 1, h => by
    rw [upto_succ, List.map_append, upto_snd l k (by omega), List.take_add_one]
    congr 1
    rw [List.getElem?_reverse (by omega)]
    have hi : l.length - 1 - k < l.length := by omega
    rw [List.getElem?_eq_getElem hi]
    rfl
/-- What lay below n₀, and block Bs, lie as they lay. -/
def KB (n₀ Bs : Nat) (A B : World) : Prop := Below n₀ A B ∧ B.heap[Bs]? = A.heap[Bs]?
theorem KB.refl (n₀ Bs : Nat) (A : World) : KB n₀ Bs A A := ⟨Below.refl _ _, rfl⟩
theorem KB.trans {n₀ Bs : Nat} {A B C : World} (h : KB n₀ Bs A B) (k : KB n₀ Bs B C) : KB n₀ Bs A C := ⟨h.1.trans k.1, k.2.trans h.2⟩
def encP (x : Nat × Chg) : Array Value := #[.int .i64 (x.1 : Int), .agg (chgC x.2).toArray]

set_option maxRecDepth 100000 in
set_option maxHeartbeats 2000000 in
theorem back1_in (F : Fence) (n : Nat) (hf : F.fn 53) (hro : F.round = none) (hn : 1 ≤ n) (l Bs n₀ b off len cap : Nat) (cs : List Chg) (hlen : cs.length = len) (hl63 : len < 4611686018427387904) (hb : b < n₀) (J Jx : List (Nat × Chg) → World → Prop)
    (hY : ∀ pre x W, J pre W → pre.length < len → YieldAt F (n - 1) Try.prog l (encP x) W fun e W' =>
      (e = .returned (.bool true) ∧ J (pre ++ [x]) W' ∧ KB n₀ Bs W W') ∨ (e = .returned (.bool false) ∧ Jx (pre ++ [x]) W'))
    (W : World) (hBc : W.cell? ⟨Bs, 0, none⟩ = some (.slice (some ⟨b, off, none⟩) len cap)) (hc : ∀ i x, cs[i]? = some x → W.rangeAt b (off + i * 5) (chgC x)) (h0 : J [] W) :
    CallsIn F n Try.prog 53 #[.func (.yield l) #[] #[], .pointer (some ⟨Bs, 0, none⟩)] W fun e W' => (∃ v, e = .returned v) ∧
      ((∃ ys, ys = upto cs len ∧ J ys W') ∨ (∃ pre, (∃ k, k ≤ len ∧ pre = upto cs k) ∧ Jx pre W')) := by
  refine callsIn_of_wp Try.func53 rfl hf ?_ hro
  simp only [Try.ntmps53, List.size_toArray, List.length_cons, List.length_nil, Nat.reduceAdd, Nat.reduceSub, Array.replicate_succ, Array.replicate_zero, List.push_toArray, List.append_toArray, List.nil_append, List.cons_append]
  gi_wp2
  gi_loopw [3] (fun i wr => ∃ k : Nat, k ≤ len ∧ i = .int .i64 ((len : Int) - 1 - (k : Int)) ∧ J (upto cs k) wr ∧ KB n₀ Bs W wr)
    (fun i _ => (intOf i + 1).toNat)
  case atStart => exact ⟨0, Nat.zero_le _, by simp, h0, KB.refl _ _ _⟩
  case round =>
    obtain ⟨k, hk, rfl, hJs, hnx⟩ := hrel
    by_cases hlt : k < len
    · obtain ⟨p, hp⟩ : ∃ p, len - 1 - k = p := ⟨_, rfl⟩
      have hpi : (len : Int) - 1 - (k : Int) = (p : Int) := by omega
      obtain ⟨x, hx⟩ : ∃ x, cs[p]? = some x := ⟨_, List.getElem?_eq_getElem (by omega)⟩
      have hup : upto cs (k + 1) = upto cs k ++ [(p, x)] := by rw [upto_succ, hlen, hp, hx]; rfl
      obtain ⟨fn, tmps, assign, body, hy, hR⟩ := hY _ (p, x) wr hJs (by rw [upto_length]; exact hlt)
      have hrng := hc p x hx
      obtain ⟨rev, del, x0, x1, x2⟩ := x
      simp only [encP, chgC] at hy
      have hq : ∀ j u, (chgC (rev, del, x0, x1, x2))[j]? = some u → wr.cell? ⟨b, off + p * 5 + j, none⟩ = some u := fun j u hu => (hnx.1.cell (p := ⟨b, _, none⟩) hb).trans (hrng j u hu)
      have q0 : wr.cell? ⟨b, off + p * 5, none⟩ = some (.int .i64 rev) := hq 0 _ rfl
      have q1 : wr.cell? ⟨b, off + p * 5 + 1, none⟩ = some (.bool del) := hq 1 _ rfl
      have q2 : wr.cell? ⟨b, off + p * 5 + 2, none⟩ = some (.string x0) := hq 2 _ rfl
      have q3 : wr.cell? ⟨b, off + p * 5 + 3, none⟩ = some (.string x1) := hq 3 _ rfl
      have q4 : wr.cell? ⟨b, off + p * 5 + 4, none⟩ = some (.string x2) := hq 4 _ rfl
      have qB : wr.cell? ⟨Bs, 0, none⟩ = some (.slice (some ⟨b, off, none⟩) len cap) := (World.cell?_of_block (w := W) (w' := wr) (a := ⟨Bs, 0, none⟩) hnx.2).trans hBc
      have p0 : (0 : Int) ≤ (p : Int) := by omega
      have p1 : (p : Int) < (len : Int) := by omega
      have p2 : (p : Int) < 4611686018427387904 := by omega
      rw [hpi]
      clear hq hrng
      gi_wp2
      refine hR.mono ?_
      rintro e W3 (⟨rfl, hJ3, hk3⟩ | ⟨rfl, hJx3⟩)
      · gi_wp2
        go_roundw
        case rel => exact ⟨k + 1, by omega, by congr 1; omega, by rw [hup]; exact hJ3, hnx.trans hk3⟩
        case measure => simp only [intOf]; omega
      · gi_wp2
        refine bodyPost_ret (results_none rfl _ _ _) rfl ?_
        exact ⟨⟨_, rfl⟩, .inr ⟨_, ⟨k + 1, by omega, hup.symm⟩, hJx3⟩⟩
    · obtain rfl : k = len := by omega
      have hneg : ¬ (0 : Int) ≤ (k : Int) - 1 - (k : Int) := by omega
      gi_wp2
      go_end0
      exact ⟨⟨_, rfl⟩, .inl hJs⟩

set_option maxRecDepth 100000 in
set_option maxHeartbeats 1000000 in
theorem back1_nil_in (F : Fence) (n : Nat) (hf : F.fn 53) (hro : F.round = none) (l Bs : Nat) (ao : Option Addr) (cap : Nat) (J : List (Nat × Chg) → World → Prop) (W : World) (hBs : W.cell? ⟨Bs, 0, none⟩ = some (.slice ao 0 cap)) (h0 : J [] W) :
    CallsIn F n Try.prog 53 #[.func (.yield l) #[] #[], .pointer (some ⟨Bs, 0, none⟩)] W fun e W' => (∃ v, e = .returned v) ∧ J [] W' := by
  refine callsIn_of_wp Try.func53 rfl hf ?_ hro
  simp only [Try.ntmps53, List.size_toArray, List.length_cons, List.length_nil, Nat.reduceAdd, Nat.reduceSub, Array.replicate_succ, Array.replicate_zero, List.push_toArray, List.append_toArray, List.nil_append, List.cons_append]
  gi_wp2
  gi_loopw [3] (fun i wr => i = .int .i64 (-1) ∧ J [] wr) (fun _ _ => 0)
  case atStart => exact ⟨rfl, h0⟩
  case round =>
    obtain ⟨rfl, hJs⟩ := hrel
    gi_wp2
    go_end0
    exact ⟨⟨_, rfl⟩, hJs⟩

set_option maxHeartbeats 1000000 in
theorem backward_in (F : Fence) (n : Nat) (hf : F.fn 39) (hro : F.round = none) (a : Option Addr) (len cap : Nat) (w : World) :
    CallsIn F n Try.prog 39 #[.slice a len cap] w fun e w' => e = .returned (.func (.func 53) #[] #[.pointer (some ⟨w.heap.size, 0, none⟩)]) ∧ w' = w.alloc (.cells #[.slice a len cap] 25) := by
  refine callsIn_of_wp Try.func39 rfl hf ?_ hro
  simp only [Try.ntmps39, List.size_toArray, List.length_cons, List.length_nil, Nat.reduceAdd, Nat.reduceSub, Array.replicate_succ, Array.replicate_zero, List.push_toArray, List.append_toArray, List.nil_append, List.cons_append]
  gi_wp2
  go_ret
  exact ⟨rfl, rfl⟩

/-- slices.Backward(s) hands back a value that stops: all of s, the last first. -/
theorem back_stops (F : Fence) (n : Nat) (hf : F.fn 53) (hro : F.round = none) (hn : 1 ≤ n) (Bs n₀ : Nat) (sv : Value) (cs : List Chg) (w : World) (hl63 : cs.length < 4611686018427387904) (hBn : Bs < w.heap.size) (hn₀ : n₀ ≤ w.heap.size)
    (hc : w.cell? ⟨Bs, 0, none⟩ = some sv) (hI : ReadS chgC 5 w sv cs) (hlt : ∀ b o m c, sv = .slice (some ⟨b, o, none⟩) m c → 0 < cs.length → b < n₀) :
    SeqStopsK F n Try.prog 53 #[.pointer (some ⟨Bs, 0, none⟩)] encP (KB n₀ Bs) (fun ys => ys.map Prod.snd = cs.reverse) (fun pre => ∃ k, k ≤ cs.length ∧ pre = upto cs k) cs.length w := fun l J Jx W hW _ _ hY h0 => by
  have hc' := (hW.cell (p := ⟨Bs, 0, none⟩) (by show Bs < w.heap.size; omega)).trans hc
  obtain ⟨ao, cap, rfl, _⟩ := hI.form
  by_cases h0l : cs.length = 0
  · have e := List.length_eq_zero_iff.1 h0l
    subst e
    exact (back1_nil_in F n hf hro l Bs ao cap J W hc' h0).mono fun e W' ⟨he, hj⟩ => ⟨he, .inl ⟨_, rfl, hj⟩⟩
  · obtain ⟨x0, hx0⟩ : ∃ x, cs[0]? = some x := ⟨_, List.getElem?_eq_getElem (by omega)⟩
    obtain ⟨b, o, rfl, _⟩ := hI.at hx0
    have hbn := hlt b o _ _ rfl (by omega)
    refine (back1_in F n hf hro hn l Bs n₀ b o cs.length cap cs rfl hl63 hbn J Jx hY W hc' (fun i x hx => ?_) h0).mono ?_
    · obtain ⟨b2, o2, e2, hr⟩ := hI.at hx
      cases e2
      exact range_below hr hW (by omega)
    · rintro e W' ⟨he, ⟨ys, rfl, hj⟩ | ⟨pre, ⟨k, hk, rfl⟩, hj⟩⟩
      · exact ⟨he, .inl ⟨_, by show (upto cs cs.length).map Prod.snd = cs.reverse; rw [upto_snd cs _ (Nat.le_refl _)]; exact List.take_of_length_le (by simp), hj⟩⟩
      · exact ⟨he, .inr ⟨_, ⟨k, hk, rfl⟩, hj⟩⟩
end Go.Proofs.Ytobcakjlfdejjaa.Back
