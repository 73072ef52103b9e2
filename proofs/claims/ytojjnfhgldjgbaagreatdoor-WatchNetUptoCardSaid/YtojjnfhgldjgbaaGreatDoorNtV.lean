/- WatchNet, where what came in is of bulk at most 1048576: what leads from some tuples to others does so in a store, and n: part 22 of 32: what it leans on. -/
import Derived.RangeFuncNested
import Derived.RangeFuncBound
import Derived.RangeFuncCalls
import Derived.RangeFuncLeaves
import Derived.RangeFuncBox
import Derived.Shelf.Abstract
import Derived.Shelf.RegionOpen
import Derived.OwnWalkIn
import Derived.TacticsInMore
import Derived.LoopNIn
import Derived.LoopIn
import Derived.Handy
import Derived.Test.YtojjnfhgldjgbaaGreatDoorNtA
import Derived.Test.YtojjnfhgldjgbaaGreatDoorNtB
import Derived.Test.YtojjnfhgldjgbaaGreatDoorNtC
import Derived.Test.YtojjnfhgldjgbaaGreatDoorNtD
import Derived.Test.YtojjnfhgldjgbaaGreatDoorNtE
import Derived.Test.YtojjnfhgldjgbaaGreatDoorNtL
import Derived.Test.YtojjnfhgldjgbaaGreatDoorNtM
import Derived.Test.YtojjnfhgldjgbaaGreatDoorNtN
import Derived.Test.YtojjnfhgldjgbaaGreatDoorNtO
import Derived.Test.YtojjnfhgldjgbaaGreatDoorNtP
import Derived.Test.YtojjnfhgldjgbaaGreatDoorNtQ
import Derived.Test.YtojjnfhgldjgbaaGreatDoorNtR
import Derived.Test.YtojjnfhgldjgbaaGreatDoorNtS
import Derived.Test.YtojjnfhgldjgbaaGreatDoorNtT
import Derived.Test.YtojjnfhgldjgbaaGreatDoorNtU
section
set_option linter.unusedVariables false
set_option linter.unusedSimpArgs false
namespace Go.Proofs.YtojjnfhgldjgbaaGreatDoor.Back
open Go.RowKit Go.Por Go.Sort Go.Shelf Go.Proofs.YtojjnfhgldjgbaaGreatDoor.Watch

attribute [local go_sem] Oper.semAt_some

/-- What has come behind k rounds: from the last on. -/
def upto (l : List Chg) (k : Nat) : List (Nat × Chg) := (List.range k).map (fun j => (l.length - 1 - j, (l[l.length - 1 - j]?).getD (0, false, ByteArray.empty, ByteArray.empty, ByteArray.empty)))
theorem upto_succ (l : List Chg) (k : Nat) : upto l (k + 1) = upto l k ++ [(l.length - 1 - k, (l[l.length - 1 - k]?).getD (0, false, ByteArray.empty, ByteArray.empty, ByteArray.empty))] := by simp [upto, List.range_succ]
theorem upto_length (l : List Chg) (k : Nat) : (upto l k).length = k := by simp [upto]
theorem upto_snd (l : List Chg) : ∀ k, k ≤ l.length → (upto l k).map Prod.snd = l.reverse.take k
  | 0, _ => by simp [upto]
  | k + 1, h => by
    rw [upto_succ, List.map_append, upto_snd l k (by omega), List.take_add_one]
    congr 1
    rw [List.getElem?_reverse (by omega)]
    have hi : l.length - 1 - k < l.length := by omega
    rw [List.getElem?_eq_getElem hi]
    rfl
/-- What lay below n₀, and block Bs, lie as they lay. -/
def KB (n₀ Bs : Nat) (A B : World) : Prop := Below n₀ A B ∧ B.heap[Bs]? = A.heap[Bs]?
theorem KB.refl (n₀ Bs : Nat) (A : World) : KB n₀ Bs A A := ⟨Below.refl _ _, rfl⟩
theorem KB.trans {n₀ Bs : Nat} {A B C : World} (h : KB n₀ Bs A B) (k : KB n₀ Bs B C) : KB n₀ Bs A C := ⟨h.1.trans k.1, k.2.trans h.2⟩
def encP (x : Nat × Chg) : Array Value := #[.int .i64 (x.1 : Int), .agg (chgC x.2).toArray]

set_option maxRecDepth 100000 in
set_option maxHeartbeats 2000000 in
theorem back1_in (F : Fence) (n : Nat) (hf : F.fn 83) (hro : F.round = none) (hn : 1 ≤ n) (l Bs n₀ b off len cap : Nat) (cs : List Chg) (hlen : cs.length = len) (hl63 : len < 4611686018427387904) (hb : b < n₀) (J Jx : List (Nat × Chg) → World → Prop)
    (hY : ∀ pre x W, J pre W → pre.length < len → YieldAt F (n - 1) Tryz.prog l (encP x) W fun e W' =>
      (e = .returned (.bool true) ∧ J (pre ++ [x]) W' ∧ KB n₀ Bs W W') ∨ (e = .returned (.bool false) ∧ Jx (pre ++ [x]) W'))
    (W : World) (hBc : W.cell? ⟨Bs, 0, none⟩ = some (.slice (some ⟨b, off, none⟩) len cap)) (hc : ∀ i x, cs[i]? = some x → W.rangeAt b (off + i * 5) (chgC x)) (h0 : J [] W) :
    CallsIn F n Tryz.prog 83 #[.func (.yield l) #[] #[], .pointer (some ⟨Bs, 0, none⟩)] W fun e W' => (∃ v, e = .returned v) ∧
      ((∃ ys, ys = upto cs len ∧ J ys W') ∨ (∃ pre, (∃ k, k ≤ len ∧ pre = upto cs k) ∧ Jx pre W')) := by
  refine callsIn_of_wp Tryz.func83 rfl hf ?_ hro
  simp only [Tryz.ntmps83, List.size_toArray, List.length_cons, List.length_nil, Nat.reduceAdd, Nat.reduceSub, Array.replicate_succ, Array.replicate_zero, List.push_toArray, List.append_toArray, List.nil_append, List.cons_append]
  gi_wp2
  gi_loopw [3] (fun i wr => ∃ k : Nat, k ≤ len ∧ i = .int .i64 ((len : Int) - 1 - (k : Int)) ∧ J (upto cs k) wr ∧ KB n₀ Bs W wr)
    (fun i _ => (intOf i + 1).toNat)
  case atStart => exact ⟨0, Nat.zero_le _, by simp, h0, KB.refl _ _ _⟩
  case round =>
    obtain ⟨k, hk, rfl, hJs, hnx⟩ := hrel
    by_cases hlt : k < len
    · obtain ⟨p, hp⟩ : ∃ p, len - 1 - k = p := ⟨_, rfl⟩
      have hpi : (len : Int) - 1 - (k : Int) = (p : Int) := by omega
      obtain ⟨x, hx⟩ : ∃ x, cs[p]? = some x := ⟨_, List.getElem?_eq_getElem (by omega)⟩
      have hup : upto cs (k + 1) = upto cs k ++ [(p, x)] := by rw [upto_succ, hlen, hp, hx]; rfl
      obtain ⟨fn, tmps, assign, body, hy, hR⟩ := hY _ (p, x) wr hJs (by rw [upto_length]; exact hlt)
      have hrng := hc p x hx
      obtain ⟨rev, del, x0, x1, x2⟩ := x
      simp only [encP, chgC] at hy
      have hq : ∀ j u, (chgC (rev, del, x0, x1, x2))[j]? = some u → wr.cell? ⟨b, off + p * 5 + j, none⟩ = some u := fun j u hu => (hnx.1.cell (p := ⟨b, _, none⟩) hb).trans (hrng j u hu)
      have q0 : wr.cell? ⟨b, off + p * 5, none⟩ = some (.int .i64 rev) := hq 0 _ rfl
      have q1 : wr.cell? ⟨b, off + p * 5 + 1, none⟩ = some (.bool del) := hq 1 _ rfl
      have q2 : wr.cell? ⟨b, off + p * 5 + 2, none⟩ = some (.string x0) := hq 2 _ rfl
      have q3 : wr.cell? ⟨b, off + p * 5 + 3, none⟩ = some (.string x1) := hq 3 _ rfl
      have q4 : wr.cell? ⟨b, off + p * 5 + 4, none⟩ = some (.string x2) := hq 4 _ rfl
      have qB : wr.cell? ⟨Bs, 0, none⟩ = some (.slice (some ⟨b, off, none⟩) len cap) := (World.cell?_of_block (w := W) (w' := wr) (a := ⟨Bs, 0, none⟩) hnx.2).trans hBc
      have p0 : (0 : Int) ≤ (p : Int) := by omega
      have p1 : (p : Int) < (len : Int) := by omega
      have p2 : (p : Int) < 4611686018427387904 := by omega
      rw [hpi]
      clear hq hrng
      gi_wp2
      refine hR.mono ?_
      rintro e W3 (⟨rfl, hJ3, hk3⟩ | ⟨rfl, hJx3⟩)
      · gi_wp2
        go_roundw
        case rel => exact ⟨k + 1, by omega, by congr 1; omega, by rw [hup]; exact hJ3, hnx.trans hk3⟩
        case measure => simp only [intOf]; omega
      · gi_wp2
        refine bodyPost_ret (results_none rfl _ _ _) rfl ?_
        exact ⟨⟨_, rfl⟩, .inr ⟨_, ⟨k + 1, by omega, hup.symm⟩, hJx3⟩⟩
    · obtain rfl : k = len := by omega
      have hneg : ¬ (0 : Int) ≤ (k : Int) - 1 - (k : Int) := by omega
      gi_wp2
      go_end0
      exact ⟨⟨_, rfl⟩, .inl hJs⟩

set_option maxRecDepth 100000 in
set_option maxHeartbeats 1000000 in
theorem back1_nil_in (F : Fence) (n : Nat) (hf : F.fn 83) (hro : F.round = none) (l Bs : Nat) (ao : Option Addr) (cap : Nat) (J : List (Nat × Chg) → World → Prop) (W : World) (hBs : W.cell? ⟨Bs, 0, none⟩ = some (.slice ao 0 cap)) (h0 : J [] W) :
    CallsIn F n Tryz.prog 83 #[.func (.yield l) #[] #[], .pointer (some ⟨Bs, 0, none⟩)] W fun e W' => (∃ v, e = .returned v) ∧ J [] W' := by
  refine callsIn_of_wp Tryz.func83 rfl hf ?_ hro
  simp only [Tryz.ntmps83, List.size_toArray, List.length_cons, List.length_nil, Nat.reduceAdd, Nat.reduceSub, Array.replicate_succ, Array.replicate_zero, List.push_toArray, List.append_toArray, List.nil_append, List.cons_append]
  gi_wp2
  gi_loopw [3] (fun i wr => i = .int .i64 (-1) ∧ J [] wr) (fun _ _ => 0)
  case atStart => exact ⟨rfl, h0⟩
  case round =>
    obtain ⟨rfl, hJs⟩ := hrel
    gi_wp2
    go_end0
    exact ⟨⟨_, rfl⟩, hJs⟩

set_option maxHeartbeats 1000000 in
theorem backward_in (F : Fence) (n : Nat) (hf : F.fn 48) (hro : F.round = none) (a : Option Addr) (len cap : Nat) (w : World) :
    CallsIn F n Tryz.prog 48 #[.slice a len cap] w fun e w' => e = .returned (.func (.func 83) #[] #[.pointer (some ⟨w.heap.size, 0, none⟩)]) ∧ w' = w.alloc (.cells #[.slice a len cap] 26) := by
  refine callsIn_of_wp Tryz.func48 rfl hf ?_ hro
  simp only [Tryz.ntmps48, List.size_toArray, List.length_cons, List.length_nil, Nat.reduceAdd, Nat.reduceSub, Array.replicate_succ, Array.replicate_zero, List.push_toArray, List.append_toArray, List.nil_append, List.cons_append]
  gi_wp2
  go_ret
  exact ⟨rfl, rfl⟩

/-- slices.Backward(s) hands back a value that stops: all of s, the last first. -/
theorem back_stops (F : Fence) (n : Nat) (hf : F.fn 83) (hro : F.round = none) (hn : 1 ≤ n) (Bs n₀ : Nat) (sv : Value) (cs : List Chg) (w : World) (hl63 : cs.length < 4611686018427387904) (hBn : Bs < w.heap.size) (hn₀ : n₀ ≤ w.heap.size)
    (hc : w.cell? ⟨Bs, 0, none⟩ = some sv) (hI : ReadS chgC 5 w sv cs) (hlt : ∀ b o m c, sv = .slice (some ⟨b, o, none⟩) m c → 0 < cs.length → b < n₀) :
    SeqStopsK F n Tryz.prog 83 #[.pointer (some ⟨Bs, 0, none⟩)] encP (KB n₀ Bs) (fun ys => ys.map Prod.snd = cs.reverse) (fun pre => ∃ k, k ≤ cs.length ∧ pre = upto cs k) cs.length w := fun l J Jx W hW _ _ hY h0 => by
  have hc' := (hW.cell (p := ⟨Bs, 0, none⟩) (by show Bs < w.heap.size; omega)).trans hc
  obtain ⟨ao, cap, rfl, _⟩ := hI.form
  by_cases h0l : cs.length = 0
  · have e := List.length_eq_zero_iff.1 h0l
    subst e
    exact (back1_nil_in F n hf hro l Bs ao cap J W hc' h0).mono fun e W' ⟨he, hj⟩ => ⟨he, .inl ⟨_, rfl, hj⟩⟩
  · obtain ⟨x0, hx0⟩ : ∃ x, cs[0]? = some x := ⟨_, List.getElem?_eq_getElem (by omega)⟩
    obtain ⟨b, o, rfl, _⟩ := hI.at hx0
    have hbn := hlt b o _ _ rfl (by omega)
    refine (back1_in F n hf hro hn l Bs n₀ b o cs.length cap cs rfl hl63 hbn J Jx hY W hc' (fun i x hx => ?_) h0).mono ?_
    · obtain ⟨b2, o2, e2, hr⟩ := hI.at hx
      cases e2
      exact range_below hr hW (by omega)
    · rintro e W' ⟨he, ⟨ys, rfl, hj⟩ | ⟨pre, ⟨k, hk, rfl⟩, hj⟩⟩
      · exact ⟨he, .inl ⟨_, by show (upto cs cs.length).map Prod.snd = cs.reverse; rw [upto_snd cs _ (Nat.le_refl _)]; exact List.take_of_length_le (by simp), hj⟩⟩
      · exact ⟨he, .inr ⟨_, ⟨k, hk, rfl⟩, hj⟩⟩
end Go.Proofs.YtojjnfhgldjgbaaGreatDoor.Back
end
section
set_option linter.unusedVariables false
set_option linter.unusedSimpArgs false
namespace Go.Proofs.YtojjnfhgldjgbaaGreatDoor.Back
open Go.RowKit Go.Por Go.Sort Go.Shelf Go.Proofs.YtojjnfhgldjgbaaGreatDoor.Watch

attribute [local go_sem] Oper.semAt_some

theorem wpListIn_push {F : Fence} {n : Nat} {P : Program} {α : Type} {t E : TypeId} {f : α → List Value} {c bytes : Nat} {w : World} {v : Value} {l : List α} {ops : Array Oper} {rest : List Oper} {o : Oper} {a : Act} {Q : Exit → Act → World → Prop} (H : Elem P t E f c bytes) (hgd : o.guard = none) (s x0 : Operand)
    (ho : o.op = .call { callee := .builtin .append, args := #[s, x0], argTypes := #[t, t] }) (hs : a.eval s = v) (hown : OwnS f c w E v l) (B : Nat) (x : α) (hx : a.eval x0 = .slice (some ⟨B, 0, none⟩) 1 1)
    (hB : w.heap[B]? = some (.cells (f x).toArray E (0, 0))) (hb : (l.length + 1) * bytes ≤ 140737488355328) (h63 : l.length + 1 ≤ maxLen)
    (h : ∀ v' w', OwnS f c w' E v' (l ++ [x]) → Mod (fun k => some k = v.ownBlock) w w' → (∀ k, v'.ownBlock = some k → v.ownBlock = some k ∨ w.heap.size ≤ k) → wpListIn F n P ops Q rest (a.put o.dst v') w') : wpListIn F n P ops Q (o :: rest) a w := by
  refine wpListIn_plain hgd fun K hK' => ?_
  obtain ⟨v', w', hrun, r1, r2, r3⟩ := run_push H o.type hown hB hb h63
  unfold Oper.wpIn
  refine ⟨?_, ?_⟩
  · simp [Oper.about, ho, resolve, Target.leads, Sem.run_pure]
  · rw [Oper.semAt_plain F _ _ (by rw [ho]; intro c hc'; cases hc')]
    simp [execOp, ho, resolve, invoke, builtin, hs, hx, hrun, Result.andThen]
    exact hK' _ _ (h v' w' r1 r2 r3)
/-- A change undone. -/
def flipC (c : Chg) : Chg := (c.1, !c.2.1, c.2.2)
def backL (cs : List Chg) : List Chg := cs.reverse.map flipC
def Iv (w : World) (O : Nat) (pre : List (Nat × Chg)) (W : World) : Prop := ∃ v, BoxC W O v (pre.map (fun p => flipC p.2)) ∧ (∀ k, v.ownBlock = some k → O + 2 ≤ k) ∧ Below O w W ∧ O + 2 ≤ W.heap.size
theorem own_cells {α : Type} {f : α → List Value} {c : Nat} {w : World} {E : TypeId} {v : Value} {l : List α} (h : OwnS f c w E v l) {k : Nat} (hk : v.ownBlock = some k) {o : Obj} (ho : w.heap[k]? = some o) (hc : o.isCells = false) : False := by
  rcases h.form with ⟨rfl, _⟩ | ⟨g, cap, rfl, _, _⟩
  · simp [Value.ownBlock] at hk
  · obtain ⟨cur, h1, _⟩ := h.block
    simp only [Value.ownBlock, Option.some.injEq] at hk
    subst hk
    rw [h1] at ho
    cases ho
    simp [Obj.isCells] at hc
theorem own_lt {α : Type} {f : α → List Value} {c : Nat} {w : World} {E : TypeId} {v : Value} {l : List α} (h : OwnS f c w E v l) {k : Nat} (hk : v.ownBlock = some k) : k < w.heap.size := by
  rcases h.form with ⟨rfl, _⟩ | ⟨g, cap, rfl, _, _⟩
  · simp [Value.ownBlock] at hk
  · simp only [Value.ownBlock, Option.some.injEq] at hk
    rw [← hk]
    exact h.lt
theorem Iv_own (w : World) (O : Nat) : OwnFrom (O + 2) (Iv w O) := by
  rintro s A B row ⟨v, hb, hv, hbel, hsz⟩ hg hr
  have hne : row ≠ some O := fun e => by have := (hr O e).1; omega
  refine ⟨v, ⟨(hg.block O (lt_block hb.box) (fun e => hne e.symm)).trans hb.box, hb.own.mod (Mod.of_grown hg) (fun k hk e => ?_)⟩, hv, hbel.trans ((Mod.of_grown hg).to_below (by omega) (fun k e => by have := (hr k e.symm).1; omega)), by have := hg.size; omega⟩
  obtain ⟨_, o, ho, hc⟩ := hr k e.symm
  exact own_cells hb.own hk ho hc
theorem keepsFrom_mod {S : Nat → Prop} {W W' : World} (B : Nat) (hm : Mod S W W') (hS : ∀ k o, S k → W.heap[k]? = some o → o.isCells = true) : KeepsFrom B W W' :=
  ⟨hm.size, fun k o _ hk ho => (hm.block k (lt_block hk) (fun h => by rw [hS k o h hk] at ho; cases ho)).trans hk⟩

set_option maxRecDepth 100000 in
set_option maxHeartbeats 4000000 in
theorem back_in (F : Fence) (n : Nat) (hf0 : F.fn 22) (hf1 : F.fn 48) (hf2 : F.fn 83) (hro : F.round = none) (hn : 6 ≤ n) {w : World} {v : Value} {cs : List Chg} (hr : ReadS chgC 5 w v cs) (hb : (cs.length + 1) * 64 ≤ 140737488355328) :
    CallsIn F n Tryz.prog 22 #[v] w fun e W' => ∃ v', e = .returned v' ∧ OwnS chgC 5 W' 83 v' (backL cs) ∧ Below w.heap.size w W' ∧ ∀ k, v'.ownBlock = some k → w.heap.size ≤ k := by
  have h1 : 1 ≤ n := by omega
  obtain ⟨ao, cap, rfl, hlen⟩ := hr.form
  obtain ⟨O, hO⟩ : ∃ O, w.heap.size = O := ⟨_, rfl⟩
  obtain ⟨m, hm⟩ : ∃ m, cs.length = m := ⟨_, rfl⟩
  rw [hm] at hr ⊢
  rw [hO]
  have HH := Lib.hid (And.intro hr (And.intro hb (And.intro hlen (And.intro hO hm))))
  clear hr hb hlen
  refine callsIn_of_wp_marks Tryz.func22 rfl hf0 ?_ hro
  simp only [Tryz.ntmps22, List.size_toArray, List.length_cons, List.length_nil, Nat.reduceAdd, Nat.reduceSub, Array.replicate_succ, Array.replicate_zero, List.push_toArray, List.append_toArray, List.nil_append, List.cons_append]
  gi_wp2_with (gi_at_call 48; refine (backward_in F (n - 1) hf1 hro _ _ _ _).mono ?_; rintro e w' ⟨rfl, rfl⟩)
  have hb1 := block_alloc (block_new w (.cells #[.slice none 0 0] 26)) (.cells #[.slice ao m cap] 26)
  have hb2 := block_new (w.alloc (.cells #[.slice none 0 0] 26)) (.cells #[.slice ao m cap] 26)
  rw [hO] at hb1
  rw [World.size_alloc, hO] at hb2
  have hsz : ((w.alloc (.cells #[.slice none 0 0] 26)).alloc (.cells #[.slice ao m cap] 26)).heap.size = O + 2 := by simp [hO]
  have hB0 : Below O w ((w.alloc (.cells #[.slice none 0 0] 26)).alloc (.cells #[.slice ao m cap] 26)) := ((Below.refl _ w).alloc (by omega) _).alloc (by simp; omega) _
  have hread : ReadS chgC 5 ((w.alloc (.cells #[.slice none 0 0] 26)).alloc (.cells #[.slice ao m cap] 26)) (.slice ao m cap) cs := HH.out.1.mod (S := fun _ => False) (by decide) chgC_len (((Mod.refl _ w).alloc _).alloc _) (fun _ _ h => h)
  generalize hW0 : (w.alloc (.cells #[.slice none 0 0] 26)).alloc (.cells #[.slice ao m cap] 26) = W0 at *
  clear hW0
  refine wpIn_rangeFunc_ownH (α := Nat × Chg) hro h1 (gf := 83) (lb := #[.pointer (some ⟨O + 1, 0, none⟩)]) rfl hf2 (enters_of Tryz.func83 (by kernel_rfl) rfl)
    (back_stops F (n - 1) hf2 hro (by omega) (O + 1) O (.slice ao m cap) cs W0 (by have := room64 (Nat.le_refl cs.length) HH.out.2.1; omega) (by omega) (by omega) (cell_of hb2 rfl) hread (fun b o mm c e hpos => by
      obtain ⟨x0, hx0⟩ : ∃ x, cs[0]? = some x := ⟨_, List.getElem?_eq_getElem hpos⟩
      obtain ⟨b2, o2, e2, _, hl2⟩ := HH.out.1.lt (by decide) chgC_len hx0
      simp only [Value.slice.injEq] at e
      rw [e2] at e
      cases e.1
      omega))
    (fun h k => KB.trans h k) (fun W l o o' hl h hc hw => ⟨belowK_b (by omega) W l o o' hl h hc hw, (belowK_b (n₀ := O + 2) (by omega) W l o o' hl h hc hw).block (O + 1) (by omega)⟩) (Below.refl _ _) (fun _ => rfl)
    (Iv w O) (fun _ _ _ => False) (by rw [hsz]; exact Iv_own w O) (fun _ _ _ _ _ hs _ _ => hs)
    ⟨_, ⟨hb1, OwnS.nil _ _ _ _⟩, fun k h => by simp [Value.ownBlock] at h, hB0, by omega⟩
    (fun x a' W => ∃ X, O + 2 ≤ X ∧ W.heap[X]? = some (.cells (chgC x.2).toArray 83 (0, 0)) ∧ (∀ v, W.heap[O]? = some (.cells #[v] 26 (0, 0)) → v.ownBlock ≠ some X) ∧ a' = { tmps := #[.slice ao m cap, undef, .slice none 0 0, .pointer (some ⟨O, 0, none⟩), undef, .pointer (some ⟨X, 0, none⟩), .slice ao m cap, .func (.func 83) #[] #[.pointer (some ⟨O + 1, 0, none⟩)], .int .i64 (x.1 : Int), .agg (chgC x.2).toArray, undef, undef, undef, undef, undef, undef, undef, undef, undef, undef, undef], defers := [] })
    (fun x a' _ A B row hs hg hr => by
      obtain ⟨X, g1, g2, g3, g4⟩ := hs
      have hne : row ≠ some X := fun e => by
        obtain ⟨_, o, ho, hc⟩ := hr X e
        rw [g2] at ho
        cases ho
        simp [Obj.isCells] at hc
      have hO2 : B.heap[O]? = A.heap[O]? := hg.block O (by have := lt_block g2; omega) (fun e => by have := (hr O e.symm).1; omega)
      exact ⟨X, g1, (hg.block X (lt_block g2) (fun e => hne e.symm)).trans g2, fun v h => g3 v (by rw [← hO2]; exact h), g4⟩)
    ?assign ?body ?done ?stop
  case assign =>
    rintro l pre ⟨i, rev, del, x0, x1, x2⟩ W K ⟨v, hbx, hv, hbel, hs2⟩ hK
    simp only [encP, chgC]
    gi_wp2
    refine hK _ _ ((KeepsOthers.alloc _ _).from _) ⟨(Below.refl O W).alloc (by omega) _, Below.heap_alloc _ _ _ (by omega)⟩ ⟨v, ⟨block_alloc hbx.box _, hbx.own.mod ((Mod.refl (fun _ => False) W).alloc _) (fun _ _ h => h)⟩, hv, hbel.alloc (by omega) _, by simp; omega⟩ ⟨W.heap.size, hs2, block_new _ _, fun v2 h2 e => ?_, rfl⟩
    have h3 := block_alloc hbx.box (.cells #[.int .i64 rev, .bool del, .string x0, .string x1, .string x2] 83)
    rw [h3] at h2
    simp only [Option.some.injEq, Obj.cells.injEq, Array.mk.injEq, List.cons.injEq, and_true] at h2
    rw [← h2] at e
    exact Nat.lt_irrefl _ (own_lt hbx.own e)
  case body =>
    rintro l pre ⟨i, rev, del, x0, x1, x2⟩ a' W hl ⟨r, hr⟩ ⟨v, hbx, hv, hbel, hs2⟩ ⟨X, g1, g2, g3, rfl⟩ hlt
    have c0 : W.cell? ⟨X, 0, none⟩ = some (.int .i64 rev) := cell_of g2 rfl
    have c1 : W.cell? ⟨X, 1, none⟩ = some (.bool del) := cell_of g2 rfl
    have c2 : W.cell? ⟨X, 2, none⟩ = some (.string x0) := cell_of g2 rfl
    have c3 : W.cell? ⟨X, 3, none⟩ = some (.string x1) := cell_of g2 rfl
    have c4 : W.cell? ⟨X, 4, none⟩ = some (.string x2) := cell_of g2 rfl
    have cf := free_of (i := 1) g2
    have cO : W.cell? ⟨O, 0, none⟩ = some v := cell_of hbx.box rfl
    have hXO : ¬ X = O := by omega
    have hOX : ¬ O = X := by omega
    have hroom := room64 (a := pre.length) (n := cs.length) (by omega) HH.out.2.1
    have hlen2 : (pre.map (fun p => flipC p.2)).length = pre.length := List.length_map _
    have HB := Lib.hid (And.intro hbx (And.intro hv (And.intro hbel (And.intro hs2 (And.intro g2 (And.intro g1 (And.intro (g3 v hbx.box) (And.intro hroom hlen2))))))))
    clear hbx hv hbel hs2 g2 g1 g3 hroom hlen2 hlt hr hl
    have hoo := OwnS.mod HB.out.1.own (((Mod.refl (fun x => x = X) W).setCell (p := ⟨X, 1, none⟩) (.inl rfl) (.bool (!del))).alloc (.cells #[.int .i64 rev, .bool (!del), .string x0, .string x1, .string x2] 83)) (fun k hk e => HB.out.2.2.2.2.2.2.1 (by rw [hk, show k = X from e]))
    gi_wp2_with (gi_at_builtin; refine wpListIn_push elemChg rfl _ _ rfl rfl hoo W.heap.size (rev, !del, x0, x1, x2) rfl ?c1 ?c2 ?c3 ?_)
    case c1 =>
      have := block_new (W.setCell ⟨X, 1, none⟩ (.bool (!del))) (.cells #[.int .i64 rev, .bool (!del), .string x0, .string x1, .string x2] 83)
      rw [World.size_setCell] at this
      exact (Array.getElem?_eq_some_iff.1 this).2
    case c2 => exact HB.out.2.2.2.2.2.2.2.1.1
    case c3 => exact HB.out.2.2.2.2.2.2.2.1.2.1
    intro v' w' hown' hm' hb'
    obtain ⟨ao', n', cap', rfl, hn'⟩ := hown'.sl
    clear hn' hoo
    obtain ⟨hbx, hv, hbel, hs2, g2, g1, g3, hroom, hlen2⟩ := HB.out
    have hO5 : w'.heap[O]? = some (.cells #[v] 26 (0, 0)) := hm'.old (block_alloc (block_setCell_ne hbx.box hOX _) _) (fun e => own_ne hbx.own hbx.box (by decide) e.symm)
    have cO5 : w'.cell? ⟨O, 0, none⟩ = some v := cell_of hO5 rfl
    have fO5 := free_of (i := 0) hO5
    have HC := Lib.hid (And.intro hown' (And.intro hm' (And.intro hb' hO5)))
    clear hown' hm' hb' hO5 hbx hv hbel hs2 g2 g1 g3 hroom hlen2
    gi_wp2
    obtain ⟨hbx, hv, hbel, hs2, g2, g1, g3, hroom, hlen2⟩ := HB.out
    obtain ⟨hown', hm', hb', hO5⟩ := HC.out
    have hsz1 := hm'.size
    simp only [World.size_alloc, World.size_setCell] at hsz1 hb'
    have hmall : Mod (fun k => k = X ∨ some k = v.ownBlock ∨ k = O) W (w'.setCell ⟨O, 0, none⟩ (.slice ao' n' cap')) := by
      refine Mod.setCell (Mod.trans (((Mod.refl (fun k => k = X ∨ some k = v.ownBlock ∨ k = O) W).setCell (p := ⟨X, 1, none⟩) (.inl (.inl rfl)) _).alloc _) hm' (fun k hk => .inl (.inr (.inl hk)))) (.inl (.inr (.inr rfl))) _
    have hne' : (Value.slice ao' n' cap').ownBlock ≠ some O := fun e => by
      rcases hb' O e with h | h
      · exact own_ne hbx.own hbx.box (by decide) h
      · omega
    refine ⟨keepsFrom_mod _ hmall (fun k o hS ho => ?_), ⟨hmall.to_below (by omega) (fun k hS => ?_), ?_⟩, _, ⟨block_setCell hO5 _, ?_⟩, fun k hk => ?_, hbel.trans (hmall.to_below (by omega) (fun k hS => ?_)), by simp only [World.size_setCell]; omega⟩
    · cases hcc : o.isCells with
      | true => rfl
      | false =>
        rcases hS with rfl | hS | rfl
        · rw [g2] at ho; cases ho; simp [Obj.isCells] at hcc
        · exact (own_cells hbx.own hS.symm ho hcc).elim
        · rw [hbx.box] at ho; cases ho; simp [Obj.isCells] at hcc
    · rcases hS with rfl | hS | rfl
      · omega
      · have := hv k hS.symm; omega
      · omega
    · refine hmall.block (O + 1) (by omega) (fun hS => ?_)
      rcases hS with h | h | h
      · omega
      · have := hv _ h.symm; omega
      · omega
    · rw [List.map_append]
      exact hown'.mod (S := fun k => k = O) ((Mod.refl (fun k => k = O) w').setCell (p := ⟨O, 0, none⟩) (.inl rfl) _) (fun k hk e => hne' (by rw [hk, show k = O from e]))
    · rcases hb' k hk with h | h
      · exact hv k h
      · omega
    · rcases hS with rfl | hS | rfl
      · omega
      · have := hv k hS.symm; omega
      · omega
  case done =>
    rintro D ys W hD hys ⟨v, hbx, hv, hbel, hs2⟩ hK
    have cO : W.cell? ⟨O, 0, none⟩ = some v := cell_of hbx.box rfl
    have HB := Lib.hid (And.intro hbx (And.intro hv (And.intro hbel hs2)))
    clear hbx hv hbel hs2
    gi_wp2
    refine ⟨by simp, .inl ⟨_, _, rfl, run_takeDeferred hK, ?_⟩⟩
    have hI := (Iv_own w O).putObj (l := D) (.deferred none) ⟨v, HB.out⟩ (by omega) hK rfl
    obtain ⟨v2, hb2, hv2, hbel2, hs3⟩ := hI
    have hv : v2 = v := by
      have h3 := (belowK_b (n₀ := O + 1) (w := W0) (by omega) W D _ (.deferred none) (by omega) hK rfl rfl).block O (by omega)
      have h4 := hb2.box
      rw [h3, HB.out.1.box] at h4
      simp only [Option.some.injEq, Obj.cells.injEq, Array.mk.injEq, List.cons.injEq, and_true] at h4
      exact h4.symm
    subst hv
    have hmap : ys.map (fun p => flipC p.2) = backL cs := by
      unfold backL
      rw [← hys, List.map_map]
      rfl
    have ho := hb2.own
    rw [hmap] at ho
    exact ⟨_, results_tmp rfl _ _ _, v2, rfl, ho, hbel2, fun k hk => by have := hv2 k hk; omega⟩
  case stop =>
    rintro D c pre W _ _ h _
    exact h.elim

/-- watch.Back: the changes undone, the last first; new memory. -/
theorem back_any {w : World} {v : Value} {cs : List Chg} (hr : ReadS chgC 5 w v cs) (hb : (cs.length + 1) * 64 ≤ 140737488355328) :
    Calls Tryz.prog 22 #[v] w fun e W' => ∃ v', e = .returned v' ∧ OwnS chgC 5 W' 83 v' (backL cs) ∧ Below w.heap.size w W' ∧ ∀ k, v'.ownBlock = some k → w.heap.size ≤ k :=
  (callsIn_wide (n := 6)).1 (back_in Fence.wide 6 trivial trivial trivial rfl (Nat.le_refl _) hr hb)
end Go.Proofs.YtojjnfhgldjgbaaGreatDoor.Back
end
section
set_option linter.unusedVariables false
set_option linter.unusedSimpArgs false
namespace Go.Proofs.YtojjnfhgldjgbaaGreatDoor.Watch
open Go.RowKit Go.Por Go.Sort

def docA : ByteArray := { data := #[100, 111, 99, 58, 97] }
def viewerS : ByteArray := { data := #[118, 105, 101, 119, 101, 114] }
set_option maxRecDepth 100000 in
theorem viewer_any (u : ByteArray) (w : World) : Calls Tryz.prog 37 #[.string u] w fun e w' =>
    e = .returned (.agg #[.string docA, .string viewerS, .string u]) ∧ Gr w w' := by
  go_enter Tryz.func37, Tryz.ntmps37
  go_wp2
  go_returns
  exact ⟨rfl, (Gr.refl w).alloc _⟩
def annS : ByteArray := { data := #[117, 115, 101, 114, 58, 97, 110, 110] }
def annT : Tup := (docA, viewerS, annS)
def annRows : List RowT := [(annT, 3, 5)]
theorem ann_out : outL 0 9 annRows = [(3, false, annT), (5, true, annT)] := by
  simp [outL, annRows, rowAdd, addL]
theorem ann_sorted : Stab.Sorted (ltOf ccmp) [((3, false, annT) : Chg), (5, true, annT)] := by
  simp [Stab.Sorted, ltOf, ccmp, or2v, Lib.compareInt]
theorem ann_at : atL annRows 4 = [annT] := by
  simp [atL, annRows, thereL, isAt, compactL, compactP]
theorem ann_rows : rowsF [(3, false, annT), (5, true, annT)] = [(annT, 3, 5)] := by
  simp [rowsF, stepR, isOpen, shutAt, List.findIdx?_cons]
theorem OwnS.one {α : Type} {f : α → List Value} {c : Nat} {w : World} {E : TypeId} {g : Nat} {x : α} (hc : (f x).length = c) (h : w.heap[g]? = some (.cells (f x).toArray E (0, 0))) : OwnS f c w E (.slice (some ⟨g, 0, none⟩) 1 1) [x] := by
  refine ⟨by simp [hc], .inr ⟨g, 1, _, rfl, Nat.zero_le _, h, Nat.le_refl _, by unfold maxLen; omega, by simp [hc], ?_⟩⟩
  rw [List.flatMap_cons, List.flatMap_nil, List.append_nil, List.length_singleton, Nat.one_mul]
  exact List.take_of_length_le (by simp [hc])
theorem sorted_one {α : Type} {lt : α → α → Bool} (x : α) : Stab.Sorted lt [x] := by simp [Stab.Sorted]

set_option maxRecDepth 100000 in
set_option maxHeartbeats 1600000 in
theorem awake_any (w : World) : Calls Tryz.prog 12 #[] w fun e w' => e = .returned (.bool true) ∧ Below w.heap.size w w' := by
  have hdoc : ({ data := #[117, 115, 101, 114, 58, 97, 110, 110] } : ByteArray) = annS := rfl
  go_enter Tryz.func12, Tryz.ntmps12
  go_wp2_with fail
  refine (viewer_any _ _).mono ?_
  rintro e w1 ⟨rfl, hg1⟩
  have H1 := Lib.hid hg1.below
  clear hg1
  go_wp2_with fail
  have hr2 : ReadS rowC 5 (w1.alloc (.cells #[.string docA, .string viewerS, .string annS, .int .i64 3, .int .i64 5] 63)) (.slice (some ⟨w1.heap.size, 0, none⟩) 1 1) annRows := OwnS.read rowC_len' (OwnS.one (E := 63) rfl (block_new w1 (.cells (rowC (annT, 3, 5)).toArray 63)))
  have hb2 := H1.out.alloc H1.out.size (.cells #[.string docA, .string viewerS, .string annS, .int .i64 3, .int .i64 5] 63)
  generalize hW2 : w1.alloc (.cells #[.string docA, .string viewerS, .string annS, .int .i64 3, .int .i64 5] 63) = w2 at *
  have H2 := Lib.hid (And.intro hr2 hb2)
  clear hr2 hb2 hW2
  refine (changes_any H2.out.1 0 9 (by rw [ann_out]; decide)).mono ?_
  rintro e w3 ⟨v3, l3, rfl, hs3, hst3, hown3, hb3, hv3⟩
  rw [ann_out] at hst3
  have e3 := Stab.uniq chgSwo l3 _ hs3 ann_sorted hst3.symm
  subst e3
  obtain ⟨g, cap, rfl, _, _⟩ : ∃ g cap, v3 = .slice (some ⟨g, 0, none⟩) 2 cap ∧ True ∧ True := by
    rcases hown3.form with ⟨_, h⟩ | ⟨g, cap, rfl, _, _⟩
    · cases h
    · exact ⟨g, cap, rfl, trivial, trivial⟩
  have d0 : w3.cell? ⟨g, 0, none⟩ = some (.int .i64 3) := OwnS.cell chgC_len hown3 (i := 0) (j := 0) rfl (by decide) rfl
  have d1 : w3.cell? ⟨g, 1, none⟩ = some (.bool false) := OwnS.cell chgC_len hown3 (i := 0) (j := 1) rfl (by decide) rfl
  have d5 : w3.cell? ⟨g, 5, none⟩ = some (.int .i64 5) := OwnS.cell chgC_len hown3 (i := 1) (j := 0) rfl (by decide) rfl
  have d6 : w3.cell? ⟨g, 6, none⟩ = some (.bool true) := OwnS.cell chgC_len hown3 (i := 1) (j := 1) rfl (by decide) rfl
  have hr3 : ReadS rowC 5 w3 (.slice (some ⟨w1.heap.size, 0, none⟩) 1 1) annRows := H2.out.1.mod (by decide) rowC_len' (Mod.of_below hb3 (fun _ => False)) (fun _ _ h => h)
  have hb3' : Below w.heap.size w w3 := H2.out.2.trans (hb3.mono H2.out.2.size)
  have H3 := Lib.hid (And.intro hown3 (And.intro hr3 hb3'))
  clear hown3 hr3 hb3' hb3 hv3 hs3 hst3
  go_wp2_with fail
  refine (at_any H3.out.2.1 4 (by decide)).mono ?_
  rintro e w4 ⟨v4, rfl, hown4, hb4, _⟩
  rw [ann_at] at hown4
  obtain ⟨ao4, n4, cap4, rfl, hn4⟩ := hown4.sl
  simp only [List.length_singleton] at hn4
  subst hn4
  have H4 := Lib.hid (And.intro ((H3.out.1.read chgC_len).mod (by decide) chgC_len (Mod.of_below hb4 (fun _ => False)) (fun _ _ h => h)) (H3.out.2.2.trans (hb4.mono H3.out.2.2.size)))
  clear hown4 hb4 d0 d1 d5 d6
  go_wp2_with fail
  refine (rows_any H4.out.1 (by decide)).mono ?_
  rintro e w5 ⟨v5, l5, rfl, hs5, hst5, hown5, hb5, _⟩
  rw [ann_rows] at hst5
  have e5 := Stab.uniq rowSwo l5 _ hs5 (sorted_one _) hst5.symm
  subst e5
  obtain ⟨ao5, n5, cap5, rfl, hn5⟩ := hown5.sl
  simp only [List.length_singleton] at hn5
  subst hn5
  have H5 := Lib.hid (And.intro (H4.out.1.mod (by decide) chgC_len (Mod.of_below hb5 (fun _ => False)) (fun _ _ h => h)) (H4.out.2.trans (hb5.mono H4.out.2.size)))
  clear hown5 hb5 hs5 hst5
  go_wp2_with fail
  refine (Back.back_any H5.out.1 (by decide)).mono ?_
  rintro e w6 ⟨v6, rfl, hown6, hb6, _⟩
  obtain ⟨ao6, n6, cap6, rfl, hn6⟩ := hown6.sl
  have hn6' : n6 = 2 := by rw [← hn6]; rfl
  subst hn6'
  have H6 := Lib.hid (H5.out.2.trans (hb6.mono H5.out.2.size))
  clear hown6 hb6 hn6
  go_wp2
  go_ret
  exact ⟨rfl, H6.out⟩
end Go.Proofs.YtojjnfhgldjgbaaGreatDoor.Watch
end
section
set_option linter.unusedVariables false
set_option linter.unusedSimpArgs false
namespace Go.Proofs.YtojjnfhgldjgbaaGreatDoor.Watch
open Go.RowKit Go.Por Go.Sort

theorem oneMut (x : Mut) : ∀ u ∈ mutC x, u.oneCell' = true := by
  intro v hv
  simp only [mutC, List.mem_cons, List.not_mem_nil, or_false] at hv
  rcases hv with rfl | rfl | rfl | rfl <;> rfl
theorem allOneMut (x : Mut) : (mutC x).toArray.all (·.oneCell') = true := by simp [mutC, Value.oneCell']
theorem zeroMut (w : World) : (zeroValue 47).run Tryz.prog w = .ok (.agg #[.bool false, .string ByteArray.empty, .string ByteArray.empty, .string ByteArray.empty]) w := by
  have h1 : Tryz.t47.zero = some (.agg #[.bool false, .string ByteArray.empty, .string ByteArray.empty, .string ByteArray.empty]) := by kernel_rfl
  simp [zeroValue, h1]
theorem zoneMut (r : Nat) : ∀ u ∈ (Builtin.zeroCells (.agg #[.bool false, .string ByteArray.empty, .string ByteArray.empty, .string ByteArray.empty] : Value).cells r).toList, u.oneCell' = true :=
  zeroCells_one _ (by decide) (by intro u hu; simp [Value.cells] at hu; rcases hu with rfl | rfl | rfl | rfl <;> rfl) r

set_option maxRecDepth 100000 in
set_option maxHeartbeats 3200000 in
theorem compactMut {w : World} {g cap n : Nat} {l : List Mut} (h : OwnS mutC 4 w 47 (.slice (some ⟨g, 0, none⟩) n cap) l) :
    Calls Tryz.prog 57 #[.slice (some ⟨g, 0, none⟩) n cap] w fun e w' =>
      e = .returned (.slice (some ⟨g, 0, none⟩) (compactL l).length cap) ∧ OwnS mutC 4 w' 47 (.slice (some ⟨g, 0, none⟩) (compactL l).length cap) (compactL l) ∧ Mod (fun x => x = g) w w' := by
  have hn : n = l.length := by obtain ⟨cur, _, _, _, e, _⟩ := h.block; exact e
  have hcap : n ≤ cap ∧ cap ≤ 9223372036854775807 := by obtain ⟨cur, _, _, _, e, h4, h5⟩ := h.block; unfold maxLen at h5; omega
  have HH := Lib.hid (And.intro h (And.intro hn hcap))
  have hni : (n : Int) ≤ 9223372036854775807 := by omega
  clear h hn hcap
  go_enter Tryz.func57, Tryz.ntmps57
  by_cases h2 : n < 2
  · have h2i : (n : Int) < 2 := by omega
    have HC := Lib.hid h2
    clear h2
    go_wp2
    go_ret
    obtain ⟨h, hn, _⟩ := HH.out
    have e : compactL l = l := compactL_short l (by have := HC.out; omega)
    rw [e, ← hn]
    exact ⟨rfl, h, Mod.refl _ _⟩
  · have h2i : ¬ (n : Int) < 2 := by omega
    have HC := Lib.hid h2
    clear h2
    go_wp2
    go_loopg [3] (n - 1) (fun gg vk wx => ∃ k : Nat, k + gg = n ∧ vk = .int .i64 (k : Int) ∧ 1 ≤ k ∧ compactL (l.take k) = l.take k ∧ Mod (fun _ => False) w wx)
    case atStart => exact ⟨1, by have := HC.out; omega, rfl, Nat.le_refl _, compactL_short _ (by rw [List.length_take]; omega), Mod.refl _ _⟩
    case round =>
      obtain ⟨k, hkg, rfl, hk1, hcl, hmod⟩ := hrel
      have HI := Lib.hid (And.intro hkg (And.intro hk1 (And.intro hcl hmod)))
      by_cases hc : k < n
      · have hci : (k : Int) < (n : Int) := by omega
        obtain ⟨j, hj⟩ : ∃ j, k - 1 = j := ⟨_, rfl⟩
        have hji : (k : Int) - 1 = (j : Int) := by omega
        have hj0 : (0 : Int) ≤ (j : Int) := by omega
        have hjn : (j : Int) < (n : Int) := by omega
        have hk0 : (0 : Int) ≤ (k : Int) := by omega
        have hkb : (k : Int) < 9223372036854775807 := by omega
        have k6 : IntKind.i64.wrap (k : Int) = (k : Int) := by simp [IntKind.wrap, IntKind.bits, IntKind.signed]; omega
        have k7 : IntKind.i64.wrap (j : Int) = (j : Int) := by simp [IntKind.wrap, IntKind.bits, IntKind.signed]; omega
        obtain ⟨h, hn, hcap⟩ := HH.out
        obtain ⟨x, hx⟩ : ∃ x, l[k]? = some x := ⟨_, List.getElem?_eq_getElem (by omega)⟩
        obtain ⟨y, hy⟩ : ∃ y, l[j]? = some y := ⟨_, List.getElem?_eq_getElem (by omega)⟩
        have hD : OwnS mutC 4 wr.drew 47 (.slice (some ⟨g, 0, none⟩) n cap) l := OwnS.mod h hmod.drew (fun _ _ h => h)
        have hrx0 := OwnS.range mutC_len hD hx
        have hry0 := OwnS.range mutC_len hD hy
        have hglt : g < wr.drew.heap.size := hD.lt
        obtain ⟨cx, hcx⟩ : ∃ cx, mutC x = cx := ⟨_, rfl⟩
        obtain ⟨cy, hcy⟩ : ∃ cy, mutC y = cy := ⟨_, rfl⟩
        have hx5 : cx.length = 4 := by rw [← hcx]; rfl
        have hy5 : cy.length = 4 := by rw [← hcy]; rfl
        have hx1 : cx.toArray.all (·.oneCell') = true := by rw [← hcx]; exact allOneMut x
        obtain ⟨bb, hbb⟩ : ∃ bb, decide (x = y) = bb := ⟨_, rfl⟩
        have hq : ∀ w, (Op.equal 47 (.agg cx.toArray) (.agg cy.toArray)).run Tryz.prog w = .ok bb w := fun w => by
          rw [← hcx, ← hcy, ← hbb]
          exact eqMut x y w
        have hrx : wr.drew.rangeAt g (k * 4) cx := by rw [← hcx]; exact hrx0
        have hry : wr.drew.rangeAt g (j * 4) cy := by rw [← hcy]; exact hry0
        have HQ := Lib.hid hq
        have HX := Lib.hid (And.intro hcx (And.intro hcy (And.intro hx5 (And.intro hy5 (And.intro hx1 (And.intro hrx (And.intro hry hglt)))))))
        have HBB := Lib.hid hbb
        clear hcx hcy hx5 hy5 hx1 hq hrx hry hrx0 hry0 hbb hglt
        have HE := Lib.hid (And.intro hx (And.intro hy (And.intro hj hc)))
        clear h hn hcap hD hkg hk1 hcl hmod hx hy hj hc
        go_wp2_with fail
        refine wp_region_held_drew (S := fun w' => Gr wr.drew w') (by kernel_rfl) (Gr.refl _) (fun hS => ?_)
        refine takeD (i := 0) rfl (by kernel_rfl) (by kernel_rfl) (by kernel_rfl) (fun _ _ _ h => h) hS (Or.inl ⟨by rfl, fun w hSw => by go_simp; rfl⟩) ?_
        simp only [Act.put, List.setIfInBounds_toArray, List.set_cons_zero, List.set_cons_succ]
        refine takeD (i := 1) rfl (by kernel_rfl) (by kernel_rfl) (by kernel_rfl) (fun _ _ _ h => h) hS (Or.inl ⟨by rfl, fun w hSw => by go_simp; rfl⟩) ?_
        simp only [Act.put, List.setIfInBounds_toArray, List.set_cons_zero, List.set_cons_succ]
        refine takeD (i := 2) rfl (by kernel_rfl) (by kernel_rfl) (by kernel_rfl) (fun _ _ _ h => h) hS (Or.inl ⟨by rfl, fun w hSw => by go_simp; rfl⟩) ?_
        simp only [Act.put, List.setIfInBounds_toArray, List.set_cons_zero, List.set_cons_succ]
        refine takeD (i := 3) rfl (by kernel_rfl) (by kernel_rfl) (by kernel_rfl) (fun _ _ _ h => h) hS (yieldsIf_load_mid (by rfl) 47 (.tmp 18) rfl g (k * 4) rfl cx _ (fun w hSw => by exact range_below HX.out.2.2.2.2.2.1 hSw.below (by exact HX.out.2.2.2.2.2.2.2)) Tryz.underlying47 rfl (by rw [HX.out.2.2.1]; exact infoMut0)) ?_
        simp only [Act.put, List.setIfInBounds_toArray, List.set_cons_zero, List.set_cons_succ]
        refine takeD (i := 4) rfl (by kernel_rfl) (by kernel_rfl) (by kernel_rfl) (fun _ _ _ h => h) hS (Or.inl ⟨by rfl, fun w hSw => by go_simp; rfl⟩) ?_
        simp only [Act.put, List.setIfInBounds_toArray, List.set_cons_zero, List.set_cons_succ]
        refine takeD (i := 5) rfl (by kernel_rfl) (by kernel_rfl) (by kernel_rfl) (fun _ _ _ h => h) hS (Or.inl ⟨by rfl, fun w hSw => by go_simp; rfl⟩) ?_
        simp only [Act.put, List.setIfInBounds_toArray, List.set_cons_zero, List.set_cons_succ]
        refine takeD (i := 6) rfl (by kernel_rfl) (by kernel_rfl) (by kernel_rfl) (fun _ _ _ h => h) hS (Or.inl ⟨by rfl, fun w hSw => by go_simp; rfl⟩) ?_
        simp only [Act.put, List.setIfInBounds_toArray, List.set_cons_zero, List.set_cons_succ]
        refine takeD (i := 7) rfl (by kernel_rfl) (by kernel_rfl) (by kernel_rfl) (fun _ _ _ h => h) hS (Or.inl ⟨by rfl, fun w hSw => by go_simp; rfl⟩) ?_
        simp only [Act.put, List.setIfInBounds_toArray, List.set_cons_zero, List.set_cons_succ]
        refine takeD (i := 8) rfl (by kernel_rfl) (by kernel_rfl) (by kernel_rfl) (fun _ _ _ h => h) hS (yieldsIf_load_mid (by rfl) 47 (.tmp 23) rfl g (j * 4) rfl cy _ (fun w hSw => by exact range_below HX.out.2.2.2.2.2.2.1 hSw.below (by exact HX.out.2.2.2.2.2.2.2)) Tryz.underlying47 rfl (by rw [HX.out.2.2.2.1]; exact infoMut0)) ?_
        simp only [Act.put, List.setIfInBounds_toArray, List.set_cons_zero, List.set_cons_succ]
        refine takeD (i := 9) rfl (by kernel_rfl) (by kernel_rfl) (by kernel_rfl) (fun _ _ _ h => h) hS (yields_eqS (by rfl) 47 (.tmp 19) (.tmp 24) _ rfl cx.toArray cy.toArray rfl rfl (by kernel_rfl) bb HQ.out) ?_
        simp only [Act.put, List.setIfInBounds_toArray, List.set_cons_zero, List.set_cons_succ]
        refine wpAnyH_done (by kernel_rfl) ?_ _
        have HS := Lib.hid hS
        clear hS
        cases bb with
        | false =>
          go_wp2
          go_roundg (gk - 1)
          case measure => have h1 := HI.out; have h2 := HE.out; omega
          case rel =>
            obtain ⟨i1, i2, i3, i4⟩ := HI.out
            obtain ⟨e1, e2, e3, e4⟩ := HE.out
            have hne : ¬ x = y := of_decide_eq_false HBB.out
            refine ⟨k + 1, by omega, by go_num, by omega, ?_, (i4.drew).trans' HS.out.mod⟩
            rw [compactL_succ e1 (y := y) (by rw [e3]; exact e2) i2, i3, if_neg (fun e => hne e.symm), List.take_add_one, e1]
            rfl
        | true =>
          have hkcap : ¬ cap = k := by have := HH.out; have := HE.out; omega
          have hkn2 : (k : Int) ≤ (n : Int) := by omega
          go_wp2_with fail
          obtain ⟨nk, hnk⟩ : ∃ nk, n - k = nk := ⟨_, rfl⟩
          rw [hnk]
          have HNK := Lib.hid hnk
          clear hnk
          go_loopg [3, 5] (nk - 1) (fun gg vm vq wx => ∃ (q m : Nat) (D : List Mut), vq = .int .i64 (q : Int) ∧ vm = .int .i64 (m : Int) ∧ 1 ≤ q ∧ k + q + gg = n ∧ m + 1 ≤ k + q ∧ (compactL (l.take (k + q))).length = m ∧ D.length = n ∧ D.take m = compactL (l.take (k + q)) ∧ (∀ p, k + q ≤ p + 1 → D[p]? = l[p]?) ∧ OwnS mutC 4 wx 47 (.slice (some ⟨g, 0, none⟩) n cap) D ∧ Mod (fun x => x = g) w wx)
          case atStart =>
            obtain ⟨i1, i2, i3, i4⟩ := HI.out
            obtain ⟨e1, e2, e3, e4⟩ := HE.out
            obtain ⟨h, hn, _⟩ := HH.out
            have hxy : x = y := of_decide_eq_true HBB.out
            have e5 : compactL (l.take (k + 1)) = l.take k := by
              rw [compactL_succ e1 (y := y) (by rw [e3]; exact e2) i2, i3, if_pos hxy.symm, List.append_nil]
            have e6 : (l.take k).length = k := by rw [List.length_take]; omega
            exact ⟨1, k, l, rfl, rfl, Nat.le_refl _, by have := HNK.out; omega, by omega, by rw [e5, e6], hn.symm, by rw [e5], fun _ _ => rfl, OwnS.mod h i4.drew (fun _ _ h => h), i4.drew.mono (fun _ _ h => h.elim)⟩
          case round =>
            have hkk := HI.out.2.1
            clear HI HQ HX HBB hkn2 hji hj0 hjn HS k6 k7
            obtain ⟨q, m, D, rfl, rfl, hq1, hqg, hmq, hml, hDn, hDm, hDp, hown, hmod⟩ := hrel
            have HI := Lib.hid (And.intro hq1 (And.intro hqg (And.intro hmq (And.intro hml (And.intro hDn (And.intro hDm (And.intro hDp (And.intro hown hmod))))))))
            have hnk := HNK.out
            have hee := HE.out.2.2.2
            have hcc := HH.out
            have hnki : (nk : Int) ≤ 9223372036854775807 := by omega
            by_cases hc : q < nk
            · have hci : (q : Int) < (nk : Int) := by omega
              obtain ⟨i, hi⟩ : ∃ i, k + q = i := ⟨_, rfl⟩
              obtain ⟨r, hr⟩ : ∃ r, q - 1 = r := ⟨_, rfl⟩
              have hri : (q : Int) - 1 = (r : Int) := by omega
              have hr0 : (0 : Int) ≤ (r : Int) := by omega
              have hrn : (r : Int) < (nk : Int) := by omega
              have hq0 : (0 : Int) ≤ (q : Int) := by omega
              have hqb : (q : Int) < 9223372036854775807 := by omega
              have hm0 : (0 : Int) ≤ (m : Int) := by omega
              have hmn : (m : Int) < (n : Int) := by omega
              have hmb : (m : Int) < 9223372036854775807 := by omega
              have k6 : IntKind.i64.wrap (q : Int) = (q : Int) := by simp [IntKind.wrap, IntKind.bits, IntKind.signed]; omega
              have k7 : IntKind.i64.wrap (r : Int) = (r : Int) := by simp [IntKind.wrap, IntKind.bits, IntKind.signed]; omega
              have k8 : IntKind.i64.wrap (m : Int) = (m : Int) := by simp [IntKind.wrap, IntKind.bits, IntKind.signed]; omega
              obtain ⟨x, hx⟩ : ∃ x, D[i]? = some x := ⟨_, List.getElem?_eq_getElem (by omega)⟩
              obtain ⟨y, hy⟩ : ∃ y, D[i - 1]? = some y := ⟨_, List.getElem?_eq_getElem (by omega)⟩
              have hD : OwnS mutC 4 wr.drew 47 (.slice (some ⟨g, 0, none⟩) n cap) D := OwnS.mod (S := fun _ => False) hown ((Mod.refl _ wr).drew) (fun _ _ h => h)
              have hrx0 := OwnS.range mutC_len hD hx
              have hry0 := OwnS.range mutC_len hD hy
              have hglt : g < wr.drew.heap.size := hD.lt
              have a1 : i * 4 = k * 4 + q * 4 := by rw [← hi, Nat.add_mul]
              have a2 : (i - 1) * 4 = k * 4 + r * 4 := by rw [← Nat.add_mul]; congr 1; omega
              rw [a1] at hrx0
              rw [a2] at hry0
              have lx : l[i]? = some x := by rw [← hDp i (by omega)]; exact hx
              have ly : l[i - 1]? = some y := by rw [← hDp (i - 1) (by omega)]; exact hy
              obtain ⟨cx, hcx⟩ : ∃ cx, mutC x = cx := ⟨_, rfl⟩
              obtain ⟨cy, hcy⟩ : ∃ cy, mutC y = cy := ⟨_, rfl⟩
              have hx5 : cx.length = 4 := by rw [← hcx]; rfl
              have hy5 : cy.length = 4 := by rw [← hcy]; rfl
              have hx1 : cx.toArray.all (·.oneCell') = true := by rw [← hcx]; exact allOneMut x
              obtain ⟨bb, hbb⟩ : ∃ bb, decide (x = y) = bb := ⟨_, rfl⟩
              have hq : ∀ w, (Op.equal 47 (.agg cx.toArray) (.agg cy.toArray)).run Tryz.prog w = .ok bb w := fun w => by
                rw [← hcx, ← hcy, ← hbb]
                exact eqMut x y w
              have hrx : wr.drew.rangeAt g (k * 4 + q * 4) cx := by rw [← hcx]; exact hrx0
              have hry : wr.drew.rangeAt g (k * 4 + r * 4) cy := by rw [← hcy]; exact hry0
              have HQ := Lib.hid hq
              have HX := Lib.hid (And.intro hcx (And.intro hcy (And.intro hx5 (And.intro hy5 (And.intro hx1 (And.intro hrx (And.intro hry hglt)))))))
              have HBB := Lib.hid hbb
              clear hcx hcy hx5 hy5 hx1 hq hrx hry hrx0 hry0 hbb hglt
              have HF := Lib.hid (And.intro hx (And.intro hy (And.intro hi (And.intro hr (And.intro hc (And.intro hnk (And.intro lx ly)))))))
              have HD := Lib.hid (And.intro hD hmod.drew)
              clear hD hq1 hqg hmq hml hDn hDm hDp hown hmod hx hy hi hr hc hnk hee hcc a1 a2 lx ly hkk
              go_wp2_with fail
              refine wp_region_held_drew (S := fun w' => Gr wr.drew w') (by kernel_rfl) (Gr.refl _) (fun hS => ?_)
              refine takeD (i := 0) rfl (by kernel_rfl) (by kernel_rfl) (by kernel_rfl) (fun _ _ _ h => h) hS (Or.inl ⟨by rfl, fun w hSw => by go_simp; rfl⟩) ?_
              simp only [Act.put, List.setIfInBounds_toArray, List.set_cons_zero, List.set_cons_succ]
              refine takeD (i := 1) rfl (by kernel_rfl) (by kernel_rfl) (by kernel_rfl) (fun _ _ _ h => h) hS (Or.inl ⟨by rfl, fun w hSw => by go_simp; rfl⟩) ?_
              simp only [Act.put, List.setIfInBounds_toArray, List.set_cons_zero, List.set_cons_succ]
              refine takeD (i := 2) rfl (by kernel_rfl) (by kernel_rfl) (by kernel_rfl) (fun _ _ _ h => h) hS (Or.inl ⟨by rfl, fun w hSw => by go_simp; rfl⟩) ?_
              simp only [Act.put, List.setIfInBounds_toArray, List.set_cons_zero, List.set_cons_succ]
              refine takeD (i := 3) rfl (by kernel_rfl) (by kernel_rfl) (by kernel_rfl) (fun _ _ _ h => h) hS (yieldsIf_load_mid (by rfl) 47 (.tmp 37) rfl g (k * 4 + q * 4) rfl cx _ (fun w hSw => by exact range_below HX.out.2.2.2.2.2.1 hSw.below (by exact HX.out.2.2.2.2.2.2.2)) Tryz.underlying47 rfl (by rw [HX.out.2.2.1]; exact infoMut0)) ?_
              simp only [Act.put, List.setIfInBounds_toArray, List.set_cons_zero, List.set_cons_succ]
              refine takeD (i := 4) rfl (by kernel_rfl) (by kernel_rfl) (by kernel_rfl) (fun _ _ _ h => h) hS (Or.inl ⟨by rfl, fun w hSw => by go_simp; rfl⟩) ?_
              simp only [Act.put, List.setIfInBounds_toArray, List.set_cons_zero, List.set_cons_succ]
              refine takeD (i := 5) rfl (by kernel_rfl) (by kernel_rfl) (by kernel_rfl) (fun _ _ _ h => h) hS (Or.inl ⟨by rfl, fun w hSw => by go_simp; rfl⟩) ?_
              simp only [Act.put, List.setIfInBounds_toArray, List.set_cons_zero, List.set_cons_succ]
              refine takeD (i := 6) rfl (by kernel_rfl) (by kernel_rfl) (by kernel_rfl) (fun _ _ _ h => h) hS (Or.inl ⟨by rfl, fun w hSw => by go_simp; rfl⟩) ?_
              simp only [Act.put, List.setIfInBounds_toArray, List.set_cons_zero, List.set_cons_succ]
              refine takeD (i := 7) rfl (by kernel_rfl) (by kernel_rfl) (by kernel_rfl) (fun _ _ _ h => h) hS (Or.inl ⟨by rfl, fun w hSw => by go_simp; rfl⟩) ?_
              simp only [Act.put, List.setIfInBounds_toArray, List.set_cons_zero, List.set_cons_succ]
              refine takeD (i := 8) rfl (by kernel_rfl) (by kernel_rfl) (by kernel_rfl) (fun _ _ _ h => h) hS (yieldsIf_load_mid (by rfl) 47 (.tmp 42) rfl g (k * 4 + r * 4) rfl cy _ (fun w hSw => by exact range_below HX.out.2.2.2.2.2.2.1 hSw.below (by exact HX.out.2.2.2.2.2.2.2)) Tryz.underlying47 rfl (by rw [HX.out.2.2.2.1]; exact infoMut0)) ?_
              simp only [Act.put, List.setIfInBounds_toArray, List.set_cons_zero, List.set_cons_succ]
              refine takeD (i := 9) rfl (by kernel_rfl) (by kernel_rfl) (by kernel_rfl) (fun _ _ _ h => h) hS (yields_neS (by rfl) 47 (.tmp 38) (.tmp 43) _ rfl cx.toArray cy.toArray rfl rfl (by kernel_rfl) bb HQ.out) ?_
              simp only [Act.put, List.setIfInBounds_toArray, List.set_cons_zero, List.set_cons_succ]
              refine wpAnyH_done (by kernel_rfl) ?_ _
              clear hS
              cases bb with
              | true =>
                simp only [Bool.not_true]
                go_wp2
                go_roundg (gk - 1)
                case measure => have h1 := HI.out; have h2 := HF.out; omega
                case rel =>
                  obtain ⟨i1, i2, i3, i4, i5, i6, i7, i8, i9⟩ := HI.out
                  obtain ⟨f1, f2, f3, f4, f5, f6, f7, f8⟩ := HF.out
                  have hxy : x = y := of_decide_eq_true HBB.out
                  have e5 : compactL (l.take (k + (q + 1))) = compactL (l.take (k + q)) := by
                    rw [← Nat.add_assoc, f3, compactL_succ f7 f8 (by omega), if_pos hxy.symm, List.append_nil]
                  exact ⟨q + 1, m, D, by go_num, rfl, by omega, by omega, by omega, by rw [e5]; exact i4, i5, by rw [e5]; exact i6, fun p hp => i7 p (by omega), HD.out.1, HD.out.2⟩
              | false =>
                simp only [Bool.not_false]
                go_wp2_with (first
                  | (refine wpList_load_mid rfl 47 (.tmp 49) rfl g (k * 4 + q * 4) rfl cx _ HX.out.2.2.2.2.2.1 Tryz.underlying47 rfl (by rw [HX.out.2.2.1]; exact infoMut0) ?_)
                  | (refine wpList_store_mid rfl 47 (.tmp 51) (.tmp 50) rfl g (m * 4) cx.toArray rfl rfl (by rw [List.size_toArray, HX.out.2.2.1]; exact OwnS.there HD.out.1 (by have h1 := HI.out; have h2 := HF.out; omega)) (by rw [List.size_toArray, HX.out.2.2.1]; exact infoMut0) HX.out.2.2.2.2.1 ?_))
                go_roundg (gk - 1)
                case measure => have h1 := HI.out; have h2 := HF.out; omega
                case rel =>
                  obtain ⟨i1, i2, i3, i4, i5, i6, i7, i8, i9⟩ := HI.out
                  obtain ⟨f1, f2, f3, f4, f5, f6, f7, f8⟩ := HF.out
                  have hxy : ¬ x = y := of_decide_eq_false HBB.out
                  have e5 : compactL (l.take (k + (q + 1))) = compactL (l.take (k + q)) ++ [x] := by
                    rw [← Nat.add_assoc, f3, compactL_succ f7 f8 (by omega), if_neg (fun e => hxy e.symm)]
                  have hs := OwnS.store mutC_len HD.out.1 (i := m) (by omega) x
                  rw [HX.out.1] at hs
                  refine ⟨q + 1, m + 1, D.set m x, by go_num, by go_num, by omega, by omega, by omega, by rw [e5, List.length_append, i4]; rfl, by rw [List.length_set]; exact i5, ?_, fun p hp => ?_, hs, HD.out.2.trans' (Mod.setCells (S := fun x => x = g) (.inl rfl) cx (m * 4) (Mod.refl _ _))⟩
                  · rw [e5, ← i6, List.take_add_one, List.getElem?_set_self (by omega), List.take_set_of_le (Nat.le_refl _)]
                    rfl
                  · rw [List.getElem?_set_ne (by omega)]
                    exact i7 p (by omega)
            · have hci : ¬ (q : Int) < (nk : Int) := by omega
              obtain ⟨r, hr⟩ : ∃ r, n - m = r := ⟨_, rfl⟩
              have hmn : (m : Int) ≤ (n : Int) := by omega
              have hm0 : (0 : Int) ≤ (m : Int) := by omega
              have hmc : ¬ cap = m := by omega
              have hmcap : m ≤ cap := by omega
              have hmi : (m : Int) < 9223372036854775807 := by omega
              obtain ⟨w2, hr2, hown2, hm2⟩ := OwnS.wipeN (P := Tryz.prog) (t := 45) (ty := 0) mutC_len Tryz.underlying45 (zeroMut wr) rfl zoneMut hown (k := m) (r := r) (by omega) (by omega) (cap - m)
              have e5 : l.take (k + q) = l := List.take_of_length_le (by omega)
              rw [e5] at hml hDm
              rw [hDm] at hown2
              have HF := Lib.hid (And.intro hown2 (And.intro (hmod.trans' hm2) hml))
              clear hq1 hqg hmq hml hDn hDm hDp hown hmod hc hnk hee hcc hkk e5 hm2 HI
              go_wp2
              go_ret
              obtain ⟨f1, f2, f3⟩ := HF.out
              rw [f3]
              exact ⟨rfl, f1, f2⟩
      · have hci : ¬ (k : Int) < (n : Int) := by omega
        have HE := Lib.hid hc
        clear hkg hk1 hcl hmod hc
        go_wp2
        go_ret
        obtain ⟨h, hn, _⟩ := HH.out
        obtain ⟨i1, i2, i3, i4⟩ := HI.out
        have e : l.take k = l := List.take_of_length_le (by have := HE.out; omega)
        rw [e] at i3
        rw [i3, ← hn]
        exact ⟨rfl, OwnS.mod h i4 (fun _ _ h => h), i4.mono (fun _ _ h => h.elim)⟩
theorem compactAnyMut {w : World} {v : Value} {l : List Mut} (h : OwnS mutC 4 w 47 v l) :
    Calls Tryz.prog 57 #[v] w fun e w' => ∃ v', e = .returned v' ∧ OwnS mutC 4 w' 47 v' (compactL l) ∧ v'.ownBlock = v.ownBlock ∧ Mod (fun x => some x = v.ownBlock) w w' := by
  rcases h.form with ⟨rfl, rfl⟩ | ⟨g, cap, rfl, _, _⟩
  · have HH := Lib.hid h
    clear h
    go_enter Tryz.func57, Tryz.ntmps57
    go_wp2
    go_ret
    exact ⟨_, rfl, HH.out, rfl, Mod.refl _ _⟩
  · refine (compactMut h).mono ?_
    rintro e w' ⟨he, h1, h2⟩
    exact ⟨_, he, h1, rfl, h2.mono (fun x _ hx => by rw [show x = g from hx]; rfl)⟩
end Go.Proofs.YtojjnfhgldjgbaaGreatDoor.Watch
end
section
set_option linter.unusedVariables false
set_option linter.unusedSimpArgs false
namespace Go.Proofs.YtojjnfhgldjgbaaGreatDoor.Watch
open Go.RowKit Go.Por Go.Sort Go.Por.StEq

set_option maxRecDepth 100000 in
set_option maxHeartbeats 1600000 in
theorem tuples_any {w : World} {v1 v2 : Value} {l1 l2 : List Tup} (h1 : ReadS tupC 3 w v1 l1) (h2 : ReadS tupC 3 w v2 l2) :
    Calls Tryz.prog 20 #[v1, v2] w fun e w' => e = .returned (.bool (decide (l1 = l2))) ∧ Mod (fun _ => False) w w' := by
  obtain ⟨ao1, cap1, rfl, hl1⟩ := h1.form
  obtain ⟨ao2, cap2, rfl, hl2⟩ := h2.form
  obtain ⟨n1, hn1⟩ : ∃ n, l1.length = n := ⟨_, rfl⟩
  obtain ⟨n2, hn2⟩ : ∃ n, l2.length = n := ⟨_, rfl⟩
  rw [hn1] at h1 hl1 ⊢
  rw [hn2] at h2 hl2 ⊢
  have HH := Lib.hid (And.intro h1 (And.intro h2 (And.intro hl1 (And.intro hn1 hn2))))
  clear h1 h2 hl2
  go_enter Tryz.func20, Tryz.ntmps20
  by_cases hne : n1 = n2
  · subst hne
    clear hn2 hn1
    go_wp2
    go_loopg [13] n1 (fun gg vi wx => ∃ t : Nat, t + gg = n1 ∧ vi = .int .i64 (t : Int) ∧ l1.take t = l2.take t ∧ Mod (fun _ => False) w wx)
    case atStart => exact ⟨0, by omega, rfl, rfl, Mod.refl _ _⟩
    case round =>
      obtain ⟨t, htg, rfl, heq, hmod⟩ := hrel
      have HI := Lib.hid (And.intro htg (And.intro heq hmod))
      by_cases hc : t < n1
      · obtain ⟨g1, g2, g3, g4, g5⟩ := HH.out
        have hci : (t : Int) < (n1 : Int) := by omega
        have ht0 : (0 : Int) ≤ (t : Int) := by omega
        have htb : (t : Int) < 9223372036854775807 := by omega
        have k6 : IntKind.i64.wrap (t : Int) = (t : Int) := by simp [IntKind.wrap, IntKind.bits, IntKind.signed]; omega
        obtain ⟨x, hx⟩ : ∃ x, l1[t]? = some x := ⟨_, List.getElem?_eq_getElem (by omega)⟩
        obtain ⟨y, hy⟩ : ∃ y, l2[t]? = some y := ⟨_, List.getElem?_eq_getElem (by omega)⟩
        have d1 := (g1.mod (S := fun _ => False) (by decide) tupC_len hmod.drew (fun _ _ h => h))
        have d2 := (g2.mod (S := fun _ => False) (by decide) tupC_len hmod.drew (fun _ _ h => h))
        obtain ⟨b1, o1, rfl, r1, lt1⟩ := d1.lt (by decide) tupC_len hx
        obtain ⟨b2, o2, rfl, r2, lt2⟩ := d2.lt (by decide) tupC_len hy
        obtain ⟨cx, hcx⟩ : ∃ cx, tupC x = cx := ⟨_, rfl⟩
        obtain ⟨cy, hcy⟩ : ∃ cy, tupC y = cy := ⟨_, rfl⟩
        have hx5 : cx.length = 3 := by rw [← hcx]; rfl
        have hy5 : cy.length = 3 := by rw [← hcy]; rfl
        obtain ⟨bb, hbb⟩ : ∃ bb, decide (x = y) = bb := ⟨_, rfl⟩
        have hq : ∀ w, (Op.equal 41 (.agg cx.toArray) (.agg cy.toArray)).run Tryz.prog w = .ok bb w := fun w => by
          rw [← hcx, ← hcy, ← hbb]
          exact eqTup x y w
        rw [hcx] at r1
        rw [hcy] at r2
        have HQ := Lib.hid hq
        have HX := Lib.hid (And.intro hx5 (And.intro hy5 (And.intro r1 (And.intro lt1 (And.intro r2 (And.intro lt2 hbb))))))
        have HE := Lib.hid (And.intro hx (And.intro hy hc))
        clear g1 g2 g3 g4 g5 hx hy d1 d2 r1 lt1 r2 lt2 hcx hcy hx5 hy5 hbb hq htg heq hmod hc
        go_wp2_with fail
        refine wp_region_held_drew (S := fun w' => Gr wr.drew w') (by kernel_rfl) (Gr.refl _) (fun hS => ?_)
        refine takeD (i := 0) rfl (by kernel_rfl) (by kernel_rfl) (by kernel_rfl) (fun _ _ _ h => h) hS (Or.inl ⟨by rfl, fun w hSw => by go_simp; rfl⟩) ?_
        simp only [Act.put, List.setIfInBounds_toArray, List.set_cons_zero, List.set_cons_succ]
        refine takeD (i := 1) rfl (by kernel_rfl) (by kernel_rfl) (by kernel_rfl) (fun _ _ _ h => h) hS (Or.inl ⟨by rfl, fun w hSw => by go_simp; rfl⟩) ?_
        simp only [Act.put, List.setIfInBounds_toArray, List.set_cons_zero, List.set_cons_succ]
        refine takeD (i := 2) rfl (by kernel_rfl) (by kernel_rfl) (by kernel_rfl) (fun _ _ _ h => h) hS (Or.inl ⟨by rfl, fun w hSw => by go_simp; rfl⟩) ?_
        simp only [Act.put, List.setIfInBounds_toArray, List.set_cons_zero, List.set_cons_succ]
        refine takeD (i := 3) rfl (by kernel_rfl) (by kernel_rfl) (by kernel_rfl) (fun _ _ _ h => h) hS (yieldsIf_load_mid (by rfl) 41 (.tmp 18) rfl b1 (o1 + t * 3) rfl cx _ (fun w hSw => range_below HX.out.2.2.1 hSw.below HX.out.2.2.2.1) Tryz.underlying41 rfl (by rw [HX.out.1]; exact infoTup0)) ?_
        simp only [Act.put, List.setIfInBounds_toArray, List.set_cons_zero, List.set_cons_succ]
        refine takeD (i := 4) rfl (by kernel_rfl) (by kernel_rfl) (by kernel_rfl) (fun _ _ _ h => h) hS (Or.inl ⟨by rfl, fun w hSw => by go_simp; rfl⟩) ?_
        simp only [Act.put, List.setIfInBounds_toArray, List.set_cons_zero, List.set_cons_succ]
        refine takeD (i := 5) rfl (by kernel_rfl) (by kernel_rfl) (by kernel_rfl) (fun _ _ _ h => h) hS (Or.inl ⟨by rfl, fun w hSw => by go_simp; rfl⟩) ?_
        simp only [Act.put, List.setIfInBounds_toArray, List.set_cons_zero, List.set_cons_succ]
        refine takeD (i := 6) rfl (by kernel_rfl) (by kernel_rfl) (by kernel_rfl) (fun _ _ _ h => h) hS (Or.inl ⟨by rfl, fun w hSw => by go_simp; rfl⟩) ?_
        simp only [Act.put, List.setIfInBounds_toArray, List.set_cons_zero, List.set_cons_succ]
        refine takeD (i := 7) rfl (by kernel_rfl) (by kernel_rfl) (by kernel_rfl) (fun _ _ _ h => h) hS (yieldsIf_load_mid (by rfl) 41 (.tmp 22) rfl b2 (o2 + t * 3) rfl cy _ (fun w hSw => range_below HX.out.2.2.2.2.1 hSw.below HX.out.2.2.2.2.2.1) Tryz.underlying41 rfl (by rw [HX.out.2.1]; exact infoTup0)) ?_
        simp only [Act.put, List.setIfInBounds_toArray, List.set_cons_zero, List.set_cons_succ]
        refine takeD (i := 8) rfl (by kernel_rfl) (by kernel_rfl) (by kernel_rfl) (fun _ _ _ h => h) hS (yields_neS (by rfl) 41 (.tmp 19) (.tmp 23) _ rfl cx.toArray cy.toArray rfl rfl (by kernel_rfl) bb HQ.out) ?_
        simp only [Act.put, List.setIfInBounds_toArray, List.set_cons_zero, List.set_cons_succ]
        refine wpAnyH_done (by kernel_rfl) ?_ _
        clear hS
        cases bb with
        | true =>
          simp only [Bool.not_true]
          go_wp2
          go_roundg (gk - 1)
          case measure => have h1 := HI.out; have h2 := HE.out; omega
          case rel =>
            obtain ⟨i1, i2, i3⟩ := HI.out
            obtain ⟨e1, e2, e3⟩ := HE.out
            have hxy : x = y := of_decide_eq_true HX.out.2.2.2.2.2.2
            exact ⟨t + 1, by omega, by go_num, by rw [List.take_add_one, List.take_add_one, i2, e1, e2, hxy], i3.drew⟩
        | false =>
          simp only [Bool.not_false]
          go_wp2
          go_ret
          obtain ⟨e1, e2, e3⟩ := HE.out
          have hxy : ¬ x = y := of_decide_eq_false HX.out.2.2.2.2.2.2
          refine ⟨?_, HI.out.2.2.drew⟩
          rw [decide_eq_false (fun e => hxy (by rw [e] at e1; rw [e1] at e2; exact Option.some.inj e2))]
          rfl
      · have hci : ¬ (t : Int) < (n1 : Int) := by omega
        have HE := Lib.hid hc
        clear htg heq hmod hc
        go_wp2
        go_ret
        obtain ⟨i1, i2, i3⟩ := HI.out
        obtain ⟨g1, g2, g3, g4, g5⟩ := HH.out
        have hcc := HE.out
        rw [List.take_of_length_le (by omega), List.take_of_length_le (by omega)] at i2
        refine ⟨?_, i3⟩
        rw [decide_eq_true i2]
        rfl
  · have q : ((n1 : Int) != (n2 : Int)) = true := by rw [bne_iff_ne]; omega
    have HE := Lib.hid hne
    clear hne hn1 hn2
    go_wp2
    go_ret
    obtain ⟨g1, g2, g3, g4, g5⟩ := HH.out
    refine ⟨?_, Mod.refl _ _⟩
    rw [decide_eq_false (fun e => HE.out (by rw [← g4, ← g5, e]))]
    rfl

end Go.Proofs.YtojjnfhgldjgbaaGreatDoor.Watch
end
