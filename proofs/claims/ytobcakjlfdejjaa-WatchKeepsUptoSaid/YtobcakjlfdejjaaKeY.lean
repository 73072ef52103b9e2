/- The law WatchKeeps of the watch, where what came in is of bulk at most 1048576: what is handed in is left as it was and not kept; answers are new memory. -/
import Derived.Test.YtobcakjlfdejjaaRows
import Derived.WalkKit
import Derived.ProofKit
import Derived.OpenShut
import Derived.ShutString
import Derived.JoinedCond
import Derived.ChangeOld
import Derived.Below
import Derived.SizedLaws
import Derived.Test.YtobcakjlfdejjaaKeA
import Derived.Test.YtobcakjlfdejjaaKeB
import Derived.Test.YtobcakjlfdejjaaKeC
import Derived.Test.YtobcakjlfdejjaaKeD
import Derived.Test.YtobcakjlfdejjaaKeE
import Derived.Test.YtobcakjlfdejjaaKeF
import Derived.Test.YtobcakjlfdejjaaKeG
import Derived.Test.YtobcakjlfdejjaaKeH
import Derived.Test.YtobcakjlfdejjaaKeI
import Derived.Test.YtobcakjlfdejjaaKeJ
import Derived.Test.YtobcakjlfdejjaaKeK
import Derived.Test.YtobcakjlfdejjaaKeL
import Derived.Test.YtobcakjlfdejjaaKeM
import Derived.Test.YtobcakjlfdejjaaKeN
import Derived.Test.YtobcakjlfdejjaaKeO
import Derived.Test.YtobcakjlfdejjaaKeP
import Derived.Test.YtobcakjlfdejjaaKeQ
import Derived.Test.YtobcakjlfdejjaaKeR
import Derived.Test.YtobcakjlfdejjaaKeS
import Derived.Test.YtobcakjlfdejjaaKeT
import Derived.Test.YtobcakjlfdejjaaKeU
import Derived.Test.YtobcakjlfdejjaaKeV
import Derived.Test.YtobcakjlfdejjaaKeW
import Derived.Test.YtobcakjlfdejjaaKeX
section
set_option linter.unusedVariables false
set_option linter.unusedSimpArgs false
namespace Go.Proofs.Ytobcakjlfdejjaa.Watch
open Go.RowKit Go.Por Go.Sort

theorem stab_perm {α : Type} [DecidableEq α] {lt : α → α → Bool} (h : SWO lt) {a b : List α} (k : Stab.Stab lt a b) : b.Perm a := List.perm_iff_count.2 fun x => by
  have e := congrArg (List.count x) (k x)
  rwa [List.count_filter (Stab.eqv_refl h x), List.count_filter (Stab.eqv_refl h x)] at e

structure Ris (s : Int × List Chg) (n : Nat) : Prop where
  low : 0 ≤ s.1
  pair : s.2.Pairwise (fun x y => x.1 < y.1)
  each : ∀ c ∈ s.2, 0 < c.1 ∧ c.1 ≤ 1125899906842624
  under : ∀ c ∈ s.2, c.1 ≤ s.1
  len : s.2.length ≤ n
end Go.Proofs.Ytobcakjlfdejjaa.Watch
end
section
set_option linter.unusedVariables false
set_option linter.unusedSimpArgs false
namespace Go.Proofs.Ytobcakjlfdejjaa.WatchKeeps
open Go.RowKit Go.Por Go.Sort Go.Proofs.Ytobcakjlfdejjaa.Watch Go.Proofs.YtobcakjlfdejjaaW.PrintWords Go.Proofs.Ytobcakjlfdejjaa.PWatchKeeps Go.Proofs.Ytobcakjlfdejjaa.PWatchKeepsR

def e0 : ByteArray := ByteArray.empty
def zR : RowT := ((ByteArray.empty, ByteArray.empty, ByteArray.empty), -7, 0)
def zC : Chg := (-7, false, ByteArray.empty, ByteArray.empty, ByteArray.empty)
theorem own_lit0 {α : Type} (f : α → List Value) (c : Nat) (w : World) (E : TypeId) : OwnS f c (w.alloc (.cells #[] E)) E (.slice (some ⟨w.heap.size, 0, none⟩) 0 0) [] :=
  World.ownsRow_lit (base := 0) w #[] 0 (Nat.zero_le _) (Nat.zero_le _) (by simp)
/-- What is held behind some calls: what came in, and the two copies with one element more. -/
structure Held (B : Nat) (W w : World) (va vl : Value) (rows : List RowT) (l : List Chg) (n m g cap h cap2 : Nat) : Prop where
  ra : ReadS rowC 5 w va rows
  rl : ReadS chgC 5 w vl l
  og : OwnS rowC 5 w 39 (.slice (some ⟨g, 0, none⟩) (n + 1) cap) (rows ++ [zR])
  oh : OwnS chgC 5 w 43 (.slice (some ⟨h, 0, none⟩) (m + 1) cap2) (l ++ [zC])
  bel : Below B W w
  sz : B ≤ w.heap.size
theorem Held.next {B : Nat} {W w w' : World} {va vl : Value} {rows : List RowT} {l : List Chg} {n m g cap h cap2 : Nat} (H : Held B W w va vl rows l n m g cap h cap2) (hb : Below w.heap.size w w') : Held B W w' va vl rows l n m g cap h cap2 :=
  ⟨H.ra.mod (by decide) rowC_len' (Mod.of_below hb (fun _ => False)) (fun _ _ h => h), H.rl.mod (by decide) chgC_len (Mod.of_below hb (fun _ => False)) (fun _ _ h => h),
    H.og.mod (S := fun _ => False) (Mod.of_below hb (fun _ => False)) (fun _ _ h => h), H.oh.mod (S := fun _ => False) (Mod.of_below hb (fun _ => False)) (fun _ _ h => h), H.bel.trans (hb.mono H.sz), Nat.le_trans H.sz hb.size⟩
theorem Held.rg {B : Nat} {W w : World} {va vl : Value} {rows : List RowT} {l : List Chg} {n m g cap h cap2 : Nat} (H : Held B W w va vl rows l n m g cap h cap2) (hn : rows.length = n) : ReadS rowC 5 w (.slice (some ⟨g, 0, none⟩) n cap) rows := by
  subst hn
  exact H.og.front rowC_len'
theorem Held.rh {B : Nat} {W w : World} {va vl : Value} {rows : List RowT} {l : List Chg} {n m g cap h cap2 : Nat} (H : Held B W w va vl rows l n m g cap h cap2) (hm : l.length = m) : ReadS chgC 5 w (.slice (some ⟨h, 0, none⟩) m cap2) l := by
  subst hm
  exact H.oh.front chgC_len
theorem Held.cg {B : Nat} {W w : World} {va vl : Value} {rows : List RowT} {l : List Chg} {n m g cap h cap2 : Nat} (H : Held B W w va vl rows l n m g cap h cap2) (hn : rows.length = n) : w.cell? ⟨g, n * 5 + 3, none⟩ = some (.int .i64 (-7)) :=
  OwnS.range rowC_len' H.og (i := n) (x := zR) (by rw [List.getElem?_append_right (by omega), hn, Nat.sub_self]; rfl) 3 _ rfl
theorem Held.ch {B : Nat} {W w : World} {va vl : Value} {rows : List RowT} {l : List Chg} {n m g cap h cap2 : Nat} (H : Held B W w va vl rows l n m g cap h cap2) (hm : l.length = m) : w.cell? ⟨h, m * 5, none⟩ = some (.int .i64 (-7)) :=
  OwnS.range chgC_len H.oh (i := m) (x := zC) (by rw [List.getElem?_append_right (by omega), hm, Nat.sub_self]; rfl) 0 _ rfl
theorem own_cap {α : Type} {f : α → List Value} {c : Nat} {w : World} {E : TypeId} {v : Value} {l : List α} (h : OwnS f c w E v l) : ∃ ao n cap, v = .slice ao n cap ∧ l.length = n ∧ n ≤ cap := by
  rcases h.form with ⟨rfl, rfl⟩ | ⟨g, cap, rfl, h1, _⟩
  · exact ⟨none, 0, 0, rfl, rfl, Nat.le_refl _⟩
  · exact ⟨_, _, cap, rfl, rfl, h1⟩
theorem kC (w : World) (x : Chg) : k43.K w (spC x) (chgC x) := k43_mk w (spC x)
theorem kD (w : World) (x : Chg) : k59.K w (spD x) (chgC x) := k59_mk w (spD x)
def spD' (x : SpD) : List Value := [.int .i64 x.f0, .bool x.f1, .string x.f2.f0, .string x.f2.f1, .string x.f2.f2]
theorem mD (w : World) (base : Nat) (ok : Nat → Prop) (x : SpD) (cs : List Value) : k59.M w base ok x cs ↔ cs = spD' x := ⟨fun h => k59_openM h, fun h => by rw [h]; exact k59_mkM w base ok x⟩
theorem read_form {α : Type} {f : α → List Value} {c : Nat} {w : World} {ao : Option Addr} {n cap : Nat} {l : List α} (h : ReadS f c w (.slice ao n cap) l) : l.length = n := by
  obtain ⟨ao', cap', h1, h2⟩ := h.form
  simp only [Value.slice.injEq] at h1
  exact h1.2.1.symm
theorem plain_any {w : World} {ao : Option Addr} {n cap : Nat} {l : List Chg} (h : ReadS chgC 5 w (.slice ao n cap) l) (hc : n ≤ cap) (hl : n ≤ 4194304) :
    Calls Try.prog 19 #[.slice ao n cap] w fun e w' => ∃ A n' c, e = .returned (.slice A n' c) ∧ OwnS chgC 5 w' 59 (.slice A n' c) l ∧ n' ≤ c ∧ Below w.heap.size w w' ∧ ∀ k, (Value.slice A n' c).ownBlock = some k → w.heap.size ≤ k := by
  have hn := read_form h
  have hC : Kd.C k43 w ao (l.map spC).length (l.map spC) := C_of_read (by rfl) kC chgC_len h
  have h2 := porterlaw22_plain.calls _ ao cap (l.map spC) (l.map spD) w hC (by rw [List.length_map]; omega) (plain_f l (by omega) (Nat.lt_succ_self _))
  rw [List.length_map, hn] at h2
  refine h2.mono ?_
  rintro e w' ⟨v, rfl, hR, hb⟩
  obtain ⟨ho, hk⟩ : OwnS chgC 5 w' 59 v l ∧ ∀ k, v.ownBlock = some k → w.heap.size ≤ k := own_of_R (by rfl) mD (fun x => by rfl) (fun x => by rfl) hR
  obtain ⟨A, n', c, rfl, _, hle⟩ := own_cap ho
  exact ⟨A, n', c, rfl, ho, hle, hb, hk⟩
theorem same_any {w : World} {ao bo : Option Addr} {n cap n' cap' : Nat} {a b : List Chg} (ha : ReadS chgC 5 w (.slice ao n cap) a) (hc : n ≤ cap) (hb : ReadS chgC 5 w (.slice bo n' cap') b) (hc' : n' ≤ cap') (hl : n ≤ 4194304) :
    Calls Try.prog 9 #[.slice ao n cap, .slice bo n' cap'] w fun e w' => e = .returned (.bool (decide (a = b))) ∧ Below w.heap.size w w' := by
  have hn := read_form ha
  have hn' := read_form hb
  have h1 : Kd.C k43 w ao (a.map spC).length (a.map spC) := C_of_read (by rfl) kC chgC_len ha
  have h2 : Kd.C k59 w bo (b.map spD).length (b.map spD) := C_of_read (by rfl) kD chgC_len hb
  have h := porterlaw22_same.calls (a.length + 1) ao cap (a.map spC) bo cap' (b.map spD) (decide (a = b)) w h1 (by rw [List.length_map]; omega) h2 (by rw [List.length_map]; omega) (same_f a b (by omega) (Nat.lt_succ_self _))
  rw [List.length_map, List.length_map, hn, hn'] at h
  exact h
theorem readNilT (w : World) : ReadS tupC 3 w (.slice none 0 0) [] := ⟨none, 0, rfl, Nat.zero_le _, by simp⟩
theorem outL_small (rows : List RowT) (fr up : Int) : (outL fr up rows).length ≤ 2 * rows.length := by
  unfold outL
  induction rows with
  | nil => simp
  | cons r rows ih =>
    rw [List.flatMap_cons, List.length_append, List.length_cons]
    have h1 : (rowAdd fr up r).length ≤ 2 := by
      unfold rowAdd
      have h2 := addL_length fr up r.2.1 false r.1
      have h3 := addL_length fr up r.2.2 true r.1
      split
      · simp
      · rw [List.length_append]
        split
        · omega
        · simp; omega
    omega
def z0R : RowT := ((ByteArray.empty, ByteArray.empty, ByteArray.empty), 0, 0)
def z0C : Chg := (0, false, ByteArray.empty, ByteArray.empty, ByteArray.empty)
theorem room_a {n : Nat} (h : n ≤ 1048576) : (n + 1) * 64 ≤ 140737488355328 ∧ n + 1 ≤ maxLen := by unfold maxLen; omega
theorem nil_form {α : Type} {f : α → List Value} {c : Nat} {w : World} {E : TypeId} {v : Value} {l : List α} (h : OwnS f c w E v l) : NilOk v := by
  rcases h.form with ⟨rfl, _⟩ | ⟨g, cap, rfl, _, _⟩
  · exact .inl rfl
  · exact .inr ⟨_, _, _, rfl⟩
set_option maxRecDepth 100000 in
set_option maxHeartbeats 4000000 in
theorem row {W : World} (va : Value) (rows : List RowT) (h0 : SliceIs 5 (fun _ cs x => cs = rowC x) W va rows) (hz0 : ArgOk va rows.length) (vl : Value) (l : List Chg) (h2 : SliceIs 5 (fun _ cs x => cs = chgC x) W vl l) (hz2 : ArgOk vl l.length) :
    Calls Try.prog 4 #[va, vl] W fun e w' => e = .returned (.bool true) ∧ Below W.heap.size W w' := by
  have ra : ReadS rowC 5 W va rows := h0
  have rl : ReadS chgC 5 W vl l := h2
  obtain ⟨ao, ca, rfl, _⟩ := ra.form
  obtain ⟨lo, cl, rfl, _⟩ := rl.form
  obtain ⟨n, hn⟩ : ∃ n, rows.length = n := ⟨_, rfl⟩
  obtain ⟨m, hm⟩ : ∃ m, l.length = m := ⟨_, rfl⟩
  obtain ⟨B, hB⟩ : ∃ B, W.heap.size = B := ⟨_, rfl⟩
  rw [hn] at ra hz0 ⊢
  rw [hm] at rl hz2 ⊢
  have HH := Lib.hid (And.intro ra (And.intro rl (And.intro hz0 (And.intro hz2 (And.intro hn (And.intro hm hB))))))
  have hn1 : (n : Int) ≤ 1048576 := by have := hz0.1; omega
  have hm1 : (m : Int) ≤ 1048576 := by have := hz2.1; omega
  have hn2 : (0 : Int) ≤ (n : Int) := by omega
  have hm2 : (0 : Int) ≤ (m : Int) := by omega
  clear h0 h2 ra rl hz0 hz2 hn hm
  rw [hB]
  go_enter Try.func4, Try.ntmps4
  go_wp2_with fail
  refine (awake_any W).mono ?_
  rintro e w1 ⟨rfl, hb1⟩
  rw [hB] at hb1
  have H1 := Lib.hid (And.intro hb1 (And.intro (HH.out.1.mod (by decide) rowC_len' (Mod.of_below (show Below W.heap.size W w1 by rw [hB]; exact hb1) (fun _ => False)) (fun _ _ h => h)) (And.intro (HH.out.2.1.mod (by decide) chgC_len (Mod.of_below (show Below W.heap.size W w1 by rw [hB]; exact hb1) (fun _ => False)) (fun _ _ h => h)) (show B ≤ w1.heap.size by have := hb1.size; omega))))
  clear hb1 hB
  go_wp2_with (first
    | (at_builtin; refine wpList_pushAll elemRow rfl _ _ rfl rfl (own_lit0 rowC 5 w1 39) rfl (H1.out.2.1.mod (S := fun _ => False) (by decide) rowC_len' ((Mod.refl _ w1).alloc _) (fun _ _ h => h)) HH.out.2.2.1.2.2 ?c1 ?c2 ?_))
  case c1 =>
    have h1 := HH.out.2.2.1.1
    have h2 := HH.out.2.2.2.2.1
    simp only [List.length_nil]
    omega
  case c2 =>
    have h1 := HH.out.2.2.1.1
    have h2 := HH.out.2.2.2.2.1
    unfold maxLen
    simp only [List.length_nil]
    omega
  intro v2 w2 ho2 hk2 hb2
  have b2 : Below w1.heap.size w1 w2 := ((Below.refl _ w1).alloc (Nat.le_refl _) _).trans (hk2.to_below (by simp) (fun k hk => by simp only [Value.ownBlock, Option.some.injEq] at hk; omega))
  have o2 : ∀ k, v2.ownBlock = some k → w1.heap.size ≤ k := fun k hk => by
    rcases hb2 k hk with h | h
    · simp only [Value.ownBlock, Option.some.injEq] at h; omega
    · omega
  have H2 := Lib.hid (And.intro (show OwnS rowC 5 w2 39 v2 rows from ho2) (And.intro b2 o2))
  clear ho2 hk2 hb2 b2 o2
  go_wp2_with (first
    | (at_builtin; refine wpList_push elemRow rfl _ _ rfl rfl (OwnS.mod (S := fun _ => False) H2.out.1 ((Mod.refl _ w2).alloc _) (fun _ _ h => h)) w2.heap.size zR rfl (block_new _ _) (by rw [HH.out.2.2.2.2.1]; exact (room_a HH.out.2.2.1.1).1) (by rw [HH.out.2.2.2.2.1]; exact (room_a HH.out.2.2.1.1).2) ?_))
  intro v3 w3 ho3 hk3 hb3
  have b3 : Below w1.heap.size w2 w3 := ((Below.refl _ w2).alloc H2.out.2.1.size _).trans (hk3.to_below (by have := H2.out.2.1.size; simp only [World.size_alloc]; omega) (fun k hk => H2.out.2.2 k hk.symm))
  have o3 : ∀ k, v3.ownBlock = some k → w1.heap.size ≤ k := fun k hk => by
    rcases hb3 k hk with h | h
    · exact H2.out.2.2 k h
    · have := H2.out.2.1.size; omega
  have e3 : (rows ++ [zR]).length = n + 1 := by rw [List.length_append, HH.out.2.2.2.2.1]; rfl
  obtain ⟨g, cap, rfl, hc3, hd3⟩ := OwnS.some_of ho3 (by omega)
  rw [e3] at hc3 ho3
  rw [e3]
  have o3' := o3 g rfl
  have b13 := H2.out.2.1.trans b3
  have m13 := Mod.of_below b13 (fun _ => False)
  have H3 := Lib.hid (And.intro ho3 (And.intro (H1.out.1.trans (b13.mono H1.out.2.2.2)) (And.intro (H1.out.2.1.mod (by decide) rowC_len' m13 (fun _ _ h => h)) (And.intro (H1.out.2.2.1.mod (by decide) chgC_len m13 (fun _ _ h => h)) (And.intro (Nat.le_trans H1.out.2.2.2 b13.size) (Nat.le_trans H1.out.2.2.2 o3'))))))
  have hcI : (n : Int) + 1 ≤ (cap : Int) := by omega
  clear ho3 hk3 hb3 b3 o3 e3 hc3 hd3 o3' b13 m13
  go_wp2_with (first
    | (at_builtin; refine wpList_pushAll elemChg rfl _ _ rfl rfl (own_lit0 chgC 5 w3 43) rfl (H3.out.2.2.2.1.mod (S := fun _ => False) (by decide) chgC_len ((Mod.refl _ w3).alloc _) (fun _ _ h => h)) HH.out.2.2.2.1.2.2 ?c1 ?c2 ?_))
  case c1 =>
    have h1 := HH.out.2.2.2.1.1
    have h2 := HH.out.2.2.2.2.2.1
    simp only [List.length_nil]
    omega
  case c2 =>
    have h1 := HH.out.2.2.2.1.1
    have h2 := HH.out.2.2.2.2.2.1
    unfold maxLen
    simp only [List.length_nil]
    omega
  intro v4 w4 ho4 hk4 hb4
  have b4 : Below w3.heap.size w3 w4 := ((Below.refl _ w3).alloc (Nat.le_refl _) _).trans (hk4.to_below (by simp) (fun k hk => by simp only [Value.ownBlock, Option.some.injEq] at hk; omega))
  have o4 : ∀ k, v4.ownBlock = some k → w3.heap.size ≤ k := fun k hk => by
    rcases hb4 k hk with h | h
    · simp only [Value.ownBlock, Option.some.injEq] at h; omega
    · omega
  have H4 := Lib.hid (And.intro (show OwnS chgC 5 w4 43 v4 l from ho4) (And.intro b4 o4))
  clear ho4 hk4 hb4 b4 o4
  go_wp2_with (first
    | (at_builtin; refine wpList_push elemChg rfl _ _ rfl rfl (OwnS.mod (S := fun _ => False) H4.out.1 ((Mod.refl _ w4).alloc _) (fun _ _ h => h)) w4.heap.size zC rfl (block_new _ _) (by rw [HH.out.2.2.2.2.2.1]; exact (room_a HH.out.2.2.2.1.1).1) (by rw [HH.out.2.2.2.2.2.1]; exact (room_a HH.out.2.2.2.1.1).2) ?_))
  intro v5 w5 ho5 hk5 hb5
  have b5 : Below w3.heap.size w4 w5 := ((Below.refl _ w4).alloc H4.out.2.1.size _).trans (hk5.to_below (by have := H4.out.2.1.size; simp only [World.size_alloc]; omega) (fun k hk => H4.out.2.2 k hk.symm))
  have o5 : ∀ k, v5.ownBlock = some k → w3.heap.size ≤ k := fun k hk => by
    rcases hb5 k hk with h | h
    · exact H4.out.2.2 k h
    · have := H4.out.2.1.size; omega
  have e5 : (l ++ [zC]).length = m + 1 := by rw [List.length_append, HH.out.2.2.2.2.2.1]; rfl
  obtain ⟨h, cap2, rfl, hc5, hd5⟩ := OwnS.some_of ho5 (by omega)
  rw [e5] at hc5 ho5
  rw [e5]
  have o5' := o5 h rfl
  have b35 := H4.out.2.1.trans b5
  have m35 := Mod.of_below b35 (fun _ => False)
  obtain ⟨q1, q2, q3, q4, q5, q6⟩ := H3.out
  have HS : Held B W w5 (.slice ao n ca) (.slice lo m cl) rows l n m g cap h cap2 := ⟨q3.mod (by decide) rowC_len' m35 (fun _ _ h => h), q4.mod (by decide) chgC_len m35 (fun _ _ h => h), q1.mod (S := fun _ => False) m35 (fun _ _ h => h), ho5, q2.trans (b35.mono q5), Nat.le_trans q5 b35.size⟩
  have H5 := Lib.hid (And.intro HS (And.intro q6 (And.intro (Nat.le_trans q5 o5') (show g < h by have := q1.lt; omega))))
  have hcJ : (m : Int) + 1 ≤ (cap2 : Int) := by omega
  clear ho5 hk5 hb5 b5 o5 e5 hc5 hd5 o5' b35 m35 q1 q2 q3 q4 q5 q6 HS
  go_wp2_with fail
  refine (changes_any (H5.out.1.rg HH.out.2.2.2.2.1) 0 1125899906842624 (by have h1 := outL_small rows 0 1125899906842624; have h2 := HH.out.2.2.1.1; have h3 := HH.out.2.2.2.2.1; omega)).mono ?_
  rintro e w6 ⟨v6, l6, rfl, _, hst6, ho6, hb6, hk6⟩
  have hl6 : l6.length ≤ 2097152 := by
    have h1 := outL_small rows 0 1125899906842624
    have h2 := HH.out.2.2.1.1
    have h3 := HH.out.2.2.2.2.1
    have h4 : l6.length = (outL 0 1125899906842624 rows).length := (stab_perm chgSwo hst6).length_eq
    omega
  have H6 := Lib.hid (And.intro (H5.out.1.next hb6) (And.intro ho6 (And.intro (fun k hk => Nat.le_trans (Nat.succ_le_of_lt H5.out.1.og.lt) (hk6 k hk)) (And.intro (fun k hk => Nat.le_trans (Nat.succ_le_of_lt H5.out.1.oh.lt) (hk6 k hk)) hl6))))
  clear hst6 ho6 hb6 hk6 hl6
  go_wp2_with fail
  refine (rows_any (H6.out.1.rh HH.out.2.2.2.2.2.1) (by have h2 := HH.out.2.2.2.1.1; have h3 := HH.out.2.2.2.2.2.1; omega)).mono ?_
  rintro e w7 ⟨v7, l7, rfl, _, hst7, ho7, hb7, hk7⟩
  have hl7 : l7.length ≤ 1048576 := by
    have h2 := HH.out.2.2.2.1.1
    have h3 := HH.out.2.2.2.2.2.1
    have h4 : l7.length = (rowsF l).length := (stab_perm rowSwo hst7).length_eq
    have h5 := rowsF_le l
    omega
  have H7 := Lib.hid (And.intro (H6.out.1.next hb7) (And.intro (H6.out.2.1.mod (S := fun _ => False) (Mod.of_below hb7 (fun _ => False)) (fun _ _ h => h)) (And.intro ho7 (And.intro (fun k hk => Nat.le_trans (Nat.succ_le_of_lt H6.out.1.og.lt) (hk7 k hk)) (And.intro (fun k hk => Nat.le_trans (Nat.succ_le_of_lt H6.out.1.oh.lt) (hk7 k hk)) hl7)))))
  clear hst7 ho7 hb7 hk7 hl7
  go_wp2_with fail
  refine (Back.back_any (H7.out.1.rh HH.out.2.2.2.2.2.1) (by have h2 := HH.out.2.2.2.1.1; have h3 := HH.out.2.2.2.2.2.1; omega)).mono ?_
  rintro e w8 ⟨v8, rfl, _, hb8, _⟩
  have H8 := Lib.hid (And.intro (H7.out.1.next hb8) (And.intro (H7.out.2.1.mod (S := fun _ => False) (Mod.of_below hb8 (fun _ => False)) (fun _ _ h => h)) (H7.out.2.2.1.mod (S := fun _ => False) (Mod.of_below hb8 (fun _ => False)) (fun _ _ h => h))))
  clear hb8
  go_wp2_with fail
  refine (play_any (readNilT w8) (H8.out.1.rh HH.out.2.2.2.2.2.1) (by have h2 := HH.out.2.2.2.1.1; have h3 := HH.out.2.2.2.2.2.1; rw [List.length_nil]; omega)).mono ?_
  rintro e w9 ⟨v9, rfl, _, hb9, _⟩
  have H9 := Lib.hid (And.intro (H8.out.1.next hb9) (And.intro (H8.out.2.1.mod (S := fun _ => False) (Mod.of_below hb9 (fun _ => False)) (fun _ _ h => h)) (H8.out.2.2.mod (S := fun _ => False) (Mod.of_below hb9 (fun _ => False)) (fun _ _ h => h))))
  clear hb9
  go_wp2_with fail
  refine (same07_any (H9.out.1.rg HH.out.2.2.2.2.1) H9.out.1.ra).mono ?_
  rintro e w10 ⟨rfl, hm10⟩
  rw [decide_eq_true (rfl : rows = rows)]
  have hb10 : Below w9.heap.size w9 w10 := hm10.to_below (Nat.le_refl _) (fun _ h => h.elim)
  have H10 := Lib.hid (And.intro (H9.out.1.next hb10) (And.intro (H9.out.2.1.mod (S := fun _ => False) hm10 (fun _ _ h => h)) (H9.out.2.2.mod (S := fun _ => False) hm10 (fun _ _ h => h))))
  clear hm10 hb10
  go_wp2_with fail
  refine (plain_any H10.out.1.rl (HH.out.2.2.2.1.2.1 _ _ _ rfl) (by have h2 := HH.out.2.2.2.1.1; omega)).mono ?_
  rintro e w11 ⟨A11, n11, c11, rfl, ho11, hc11, hb11, _⟩
  have H11 := Lib.hid (And.intro (H10.out.1.next hb11) (And.intro (H10.out.2.1.mod (S := fun _ => False) (Mod.of_below hb11 (fun _ => False)) (fun _ _ h => h)) (And.intro (H10.out.2.2.mod (S := fun _ => False) (Mod.of_below hb11 (fun _ => False)) (fun _ _ h => h)) (And.intro ho11 hc11))))
  clear ho11 hc11 hb11
  go_wp2_with fail
  refine (same_any (H11.out.1.rh HH.out.2.2.2.2.2.1) (by omega) (H11.out.2.2.2.1.read chgC_len) H11.out.2.2.2.2 (by have h2 := HH.out.2.2.2.1.1; omega)).mono ?_
  rintro e w12 ⟨rfl, hb12⟩
  rw [decide_eq_true (rfl : l = l)]
  have H12 := Lib.hid (And.intro (H11.out.1.next hb12) (And.intro (H11.out.2.1.mod (S := fun _ => False) (Mod.of_below hb12 (fun _ => False)) (fun _ _ h => h)) (H11.out.2.2.1.mod (S := fun _ => False) (Mod.of_below hb12 (fun _ => False)) (fun _ _ h => h))))
  have g12 := H12.out.1.cg HH.out.2.2.2.2.1
  have h12 := H12.out.1.ch HH.out.2.2.2.2.2.1
  clear hb12
  clear g12 h12
  obtain ⟨A6, n6, c6, rfl, hn6, hc6⟩ := own_cap H12.out.2.1
  obtain ⟨A7, n7, c7, rfl, hn7, hc7⟩ := own_cap H12.out.2.2
  have hn6' : n6 ≤ 4194304 := by have := H6.out.2.2.2.2; omega
  have hn7' : n7 ≤ 1048576 := by have := H7.out.2.2.2.2.2; omega
  have g12 := H12.out.1.cg HH.out.2.2.2.2.1
  have h12 := H12.out.1.ch HH.out.2.2.2.2.2.1
  have HN := Lib.hid (And.intro hn6 (And.intro hc6 (And.intro hn6' (And.intro hn7 (And.intro hc7 hn7')))))
  clear hn6 hc6 hn7 hc7 hn6' hn7'
  go_wp2_with fail
  clear g12 h12
  refine (plain_any (H12.out.2.1.read chgC_len) HN.out.2.1 HN.out.2.2.1).mono ?_
  rintro e w13 ⟨A13, n13, c13, rfl, ho13, hc13, hb13, hk13⟩
  have H13 := Lib.hid (And.intro (H12.out.1.next hb13) (And.intro (H12.out.2.1.mod (S := fun _ => False) (Mod.of_below hb13 (fun _ => False)) (fun _ _ h => h)) (And.intro (H12.out.2.2.mod (S := fun _ => False) (Mod.of_below hb13 (fun _ => False)) (fun _ _ h => h)) (And.intro ho13 (And.intro hc13 (fun k hk => Nat.le_trans (Nat.succ_le_of_lt H12.out.1.oh.lt) (hk13 k hk)))))))
  clear ho13 hc13 hb13 hk13
  go_wp2_with (first
    | (at_builtin; refine wpList_pushAll elemRow rfl _ _ rfl rfl (own_lit0 rowC 5 w13 39) rfl ((H13.out.2.2.1.read rowC_len').mod (S := fun _ => False) (by decide) rowC_len' ((Mod.refl _ w13).alloc _) (fun _ _ h => h)) (nil_form H13.out.2.2.1) ?c1 ?c2 ?_))
  case c1 =>
    have h1 := HN.out
    simp only [List.length_nil]
    omega
  case c2 =>
    have h1 := HN.out
    unfold maxLen
    simp only [List.length_nil]
    omega
  intro v14 w14 ho14 hk14 hb14
  have b14 : Below w13.heap.size w13 w14 := ((Below.refl _ w13).alloc (Nat.le_refl _) _).trans (hk14.to_below (by simp) (fun k hk => by simp only [Value.ownBlock, Option.some.injEq] at hk; omega))
  have o14 : ∀ k, v14.ownBlock = some k → w13.heap.size ≤ k := fun k hk => by
    rcases hb14 k hk with h | h
    · simp only [Value.ownBlock, Option.some.injEq] at h; omega
    · omega
  have m14 := Mod.of_below b14 (fun _ => False)
  have H14 := Lib.hid (And.intro (H13.out.1.next b14) (And.intro (H13.out.2.1.mod (S := fun _ => False) m14 (fun _ _ h => h)) (And.intro (H13.out.2.2.1.mod (S := fun _ => False) m14 (fun _ _ h => h)) (And.intro (H13.out.2.2.2.1.mod (S := fun _ => False) m14 (fun _ _ h => h)) (And.intro (show OwnS rowC 5 w14 39 v14 l7 from ho14) (And.intro (fun k hk => Nat.le_trans (Nat.succ_le_of_lt H13.out.1.og.lt) (o14 k hk)) (fun k hk => Nat.le_trans (Nat.succ_le_of_lt H13.out.1.oh.lt) (o14 k hk))))))))
  clear ho14 hk14 hb14 b14 o14 m14
  go_wp2_with fail
  have s14 : B ≤ w14.heap.size := H14.out.1.sz
  go_loopg [11, 85] n (fun gg v11 vi wx => ∃ (t : Nat) (L : List RowT), t + gg = n ∧ vi = .int .i64 (t : Int) ∧ L.length = n + 1 ∧ OwnS rowC 5 wx 39 (.slice (some ⟨g, 0, none⟩) (n + 1) cap) L ∧ Mod (fun k => k = g) w14 wx)
  case atStart => exact ⟨0, rows ++ [zR], by omega, rfl, by rw [List.length_append, HH.out.2.2.2.2.1]; rfl, H14.out.1.og, Mod.refl _ _⟩
  case round =>
    obtain ⟨t, L, htg, rfl, hL, hown, hmod⟩ := hrel
    by_cases hc : t < n
    · have hci : (t : Int) < (n : Int) := by omega
      have ht0 : (0 : Int) ≤ (t : Int) := by omega
      have htb : (t : Int) < 9223372036854775807 := by omega
      have hs := OwnS.store rowC_len' hown (i := t) (by omega) z0R
      have hth := OwnS.there hown (i := t) (by omega)
      obtain ⟨cz, hcz⟩ : ∃ cz, rowC z0R = cz := ⟨_, rfl⟩
      have hz1 : cz.toArray.all (·.oneCell') = true := by rw [← hcz]; exact all_oneCell_toArray (rowC_ones z0R)
      have hz5 : cz.length = 5 := by rw [← hcz]; rfl
      have hzv : (Value.agg #[.string ByteArray.empty, .string ByteArray.empty, .string ByteArray.empty, .int .i64 0, .int .i64 0]) = .agg cz.toArray := by rw [← hcz]; rfl
      rw [hcz] at hs
      have HC := Lib.hid (And.intro hc (And.intro htg (And.intro hL (And.intro hs (And.intro hmod (And.intro hth (And.intro hz1 (And.intro hz5 hzv))))))))
      clear hc htg hL hs hmod hth hown hz1 hz5 hzv hcz
      go_wp2_with (first
        | (refine wpList_store_mid rfl 39 (.tmp 91) (.tmp 90) rfl g (t * 5) cz.toArray rfl HC.out.2.2.2.2.2.2.2.2 (by rw [List.size_toArray, HC.out.2.2.2.2.2.2.2.1]; exact HC.out.2.2.2.2.2.1) (by rw [List.size_toArray, HC.out.2.2.2.2.2.2.2.1]; exact infoRow0) HC.out.2.2.2.2.2.2.1 ?_))
      go_roundg (gk - 1)
      case measure => have h1 := HC.out.1; have h2 := HC.out.2.1; omega
      case rel =>
        obtain ⟨k1, k2, k3, k4, k5, k6, k7⟩ := HC.out
        exact ⟨t + 1, L.set t z0R, by omega, by go_num, by rw [List.length_set]; exact k3, k4, k5.trans' (Mod.setCells (S := fun x => x = g) (.inl rfl) cz (t * 5) (Mod.refl _ _))⟩
    · have hci : ¬ (t : Int) < (n : Int) := by omega
      have hgh := H5.out.2.2.2
      have hgB := H5.out.2.1
      obtain ⟨q1, q2, q3, q4, q5, q6, q7⟩ := H14.out
      have n6 : ∀ k, (Value.slice A6 n6 c6).ownBlock = some k → ¬ k = g := fun k hk e => by have := H6.out.2.2.1 k hk; omega
      have n7 : ∀ k, (Value.slice A7 n7 c7).ownBlock = some k → ¬ k = g := fun k hk e => by have := H7.out.2.2.2.1 k hk; omega
      have n13 : ∀ k, (Value.slice A13 n13 c13).ownBlock = some k → ¬ k = g := fun k hk e => by have := H13.out.2.2.2.2.2 k hk; omega
      have n14 : ∀ k, v14.ownBlock = some k → ¬ k = g := fun k hk e => by have := q6 k hk; omega
      have HM := Lib.hid (And.intro (q1.oh.mod hmod (fun k hk e => by simp only [Value.ownBlock, Option.some.injEq] at hk; omega)) (And.intro (q2.mod hmod n6) (And.intro (q3.mod hmod n7) (And.intro (q4.mod hmod n13) (And.intro (q5.mod hmod n14) (And.intro (q1.bel.trans (hmod.to_below s14 (fun k hk => by omega))) (Nat.le_trans s14 hmod.size)))))))
      clear htg hL hown hmod hc hgh hgB q1 q2 q3 q4 q5 q6 q7 n6 n7 n13 n14
      go_wp2_with fail
      obtain ⟨w15, hw15⟩ : ∃ w, wr = w := ⟨_, rfl⟩
      rw [hw15] at HM ⊢
      clear hw15
      go_loopg [12, 95] m (fun gg v12 vi wx => ∃ (t : Nat) (L : List Chg), t + gg = m ∧ vi = .int .i64 (t : Int) ∧ L.length = m + 1 ∧ OwnS chgC 5 wx 43 (.slice (some ⟨h, 0, none⟩) (m + 1) cap2) L ∧ Mod (fun k => k = h) w15 wx)
      case atStart => exact ⟨0, l ++ [zC], by omega, rfl, by rw [List.length_append, HH.out.2.2.2.2.2.1]; rfl, HM.out.1, Mod.refl _ _⟩
      case round =>
        obtain ⟨t, L, htg, rfl, hL, hown, hmod⟩ := hrel
        by_cases hc : t < m
        · have hci : (t : Int) < (m : Int) := by omega
          have ht0 : (0 : Int) ≤ (t : Int) := by omega
          have htb : (t : Int) < 9223372036854775807 := by omega
          have hs := OwnS.store chgC_len hown (i := t) (by omega) z0C
          have hth := OwnS.there hown (i := t) (by omega)
          obtain ⟨cz, hcz⟩ : ∃ cz, chgC z0C = cz := ⟨_, rfl⟩
          have hz1 : cz.toArray.all (·.oneCell') = true := by rw [← hcz]; exact all_oneCell_toArray (chgC_ones z0C)
          have hz5 : cz.length = 5 := by rw [← hcz]; rfl
          have hzv : (Value.agg #[.int .i64 0, .bool false, .string ByteArray.empty, .string ByteArray.empty, .string ByteArray.empty]) = .agg cz.toArray := by rw [← hcz]; rfl
          rw [hcz] at hs
          have HC := Lib.hid (And.intro hc (And.intro htg (And.intro hL (And.intro hs (And.intro hmod (And.intro hth (And.intro hz1 (And.intro hz5 hzv))))))))
          clear hc htg hL hs hmod hth hown hz1 hz5 hzv hcz
          go_wp2_with (first
            | (refine wpList_store_mid rfl 43 (.tmp 101) (.tmp 100) rfl h (t * 5) cz.toArray rfl HC.out.2.2.2.2.2.2.2.2 (by rw [List.size_toArray, HC.out.2.2.2.2.2.2.2.1]; exact HC.out.2.2.2.2.2.1) (by rw [List.size_toArray, HC.out.2.2.2.2.2.2.2.1]; exact infoC) HC.out.2.2.2.2.2.2.1 ?_))
          go_roundg (gk - 1)
          case measure => have h1 := HC.out.1; have h2 := HC.out.2.1; omega
          case rel =>
            obtain ⟨k1, k2, k3, k4, k5, k6, k7⟩ := HC.out
            exact ⟨t + 1, L.set t z0C, by omega, by go_num, by rw [List.length_set]; exact k3, k4, k5.trans' (Mod.setCells (S := fun x => x = h) (.inl rfl) cz (t * 5) (Mod.refl _ _))⟩
        · have hci : ¬ (t : Int) < (m : Int) := by omega
          have hhB := H5.out.2.2.1
          obtain ⟨q1, q2, q3, q4, q5, q6, q7⟩ := HM.out
          have n6' : ∀ k, (Value.slice A6 n6 c6).ownBlock = some k → ¬ k = h := fun k hk e => by have := H6.out.2.2.2.1 k hk; omega
          have n7' : ∀ k, (Value.slice A7 n7 c7).ownBlock = some k → ¬ k = h := fun k hk e => by have := H7.out.2.2.2.2.1 k hk; omega
          have n13' : ∀ k, (Value.slice A13 n13 c13).ownBlock = some k → ¬ k = h := fun k hk e => by have := H13.out.2.2.2.2.2 k hk; omega
          have n14' : ∀ k, v14.ownBlock = some k → ¬ k = h := fun k hk e => by have := H14.out.2.2.2.2.2.2 k hk; omega
          have HL := Lib.hid (And.intro (q2.mod hmod n6') (And.intro (q3.mod hmod n7') (And.intro (q4.mod hmod n13') (And.intro (q5.mod hmod n14') (And.intro (q6.trans (hmod.to_below q7 (fun k hk => by omega))) (Nat.le_trans q7 hmod.size))))))
          clear htg hL hown hmod hc hhB q1 q2 q3 q4 q5 q6 q7 n6' n7' n13' n14'
          go_wp2_with fail
          refine (same_any (HL.out.1.read chgC_len) HN.out.2.1 (HL.out.2.2.1.read chgC_len) H13.out.2.2.2.2.1 HN.out.2.2.1).mono ?_
          rintro e w16 ⟨rfl, hb16⟩
          rw [decide_eq_true (rfl : l6 = l6)]
          have H16 := Lib.hid (And.intro (HL.out.2.1.mod (S := fun _ => False) (Mod.of_below hb16 (fun _ => False)) (fun _ _ h => h)) (And.intro (HL.out.2.2.2.1.mod (S := fun _ => False) (Mod.of_below hb16 (fun _ => False)) (fun _ _ h => h)) (And.intro (HL.out.2.2.2.2.1.trans (hb16.mono HL.out.2.2.2.2.2)) (Nat.le_trans HL.out.2.2.2.2.2 hb16.size))))
          clear hb16
          go_wp2_with fail
          refine (same07_any (H16.out.1.read rowC_len') (H16.out.2.1.read rowC_len')).mono ?_
          rintro e w17 ⟨rfl, hm17⟩
          rw [decide_eq_true (rfl : l7 = l7)]
          have H17 := Lib.hid (H16.out.2.2.1.trans (hm17.to_below H16.out.2.2.2 (fun _ h => h.elim)))
          clear hm17
          go_wp2
          go_ret
          exact ⟨rfl, H17.out⟩
end Go.Proofs.Ytobcakjlfdejjaa.WatchKeeps
end
section
set_option linter.unusedVariables false
set_option linter.unusedSimpArgs false
namespace Go.Proofs.Ytobcakjlfdejjaa.watchKeeps
open Go.ChangeShapes Go.WideShapes Go.ChangeAt Go.RowKit
open Go.ChangeMaps (open_string shut_string)

theorem own : ownKnob Try.prog.godebug = none := by kernel_rfl
theorem laidOut : laidOutB Try.prog = true := by kernel_rfl

set_option maxRecDepth 100000 in
theorem lifted (os : Os) (started : os.Started) (H : Type) (enc : TypeId × Value → H) (F : Stop.Interp) :
    ReturnsInHanded {} Try.checked os 4 .any ((Rows.OpenSpec.upto Rows.watchKeepsSpec).pre6 enc Try.prog Try.f4 Rows.watchKeepsUptoRow.domain false) (((Rows.OpenSpec.upto Rows.watchKeepsSpec).at F).post enc Try.prog Try.f4 false true false false) := by
  refine returnsInHanded_of_cond (C := Try.checked) (s := Rows.OpenSpec.upto Rows.watchKeepsSpec) (k := Rows.uptoSmall) rfl own started (by kernel_rfl) Try.func4
    (OpenSpec.witness (enc := enc) (C := Try.checked) (s := Rows.OpenSpec.upto Rows.watchKeepsSpec) (k := Rows.uptoSmall) rfl false ⟨#[], #[.slice none 0 0, .slice none 0 0], []⟩ 8 (by kernel_rfl) (by kernel_rfl) (by kernel_rfl)
      (x := ([.nil, .nil], [], [])) (by kernel_rfl) rfl (by kernel_rfl)) ?_
  intro W base args ds gs before hval0 hW _ hk _
  have hval : ∀ (j : Nat) t v, Try.f4.params[j]? = some t → args[j]? = some v → Value.okWide Try.prog W .any base t v := hval0
  have hW' := hW
  obtain ⟨p, q, hA0, hV, rfl, hfz, hnd⟩ := hW
  have hA : DataW.TrodAll enc Try.prog W 0 (fun _ => true) true Try.f4.params.toList args.toList ds p := hA0
  rw [Try.params4] at hA hval
  obtain ⟨v0, vs0, d0, ds0, p0, q0, hargs, rfl, rfl, h0, r0⟩ := trodAll_cons hA
  obtain ⟨v1, vs1, d1, ds1, p1, q1, rfl, rfl, rfl, h1, r1⟩ := trodAll_cons r0
  obtain ⟨rfl, rfl, rfl⟩ := trodAll_nil r1
  obtain rfl : args = #[v0, v1] := by cases args; simp_all
  obtain ⟨rfl, rfl⟩ := trodVars_none hV
  obtain ⟨b0, len0, cap0, rfl⟩ := okWide_slice Try.underlying22 (hval 0 22 v0 rfl rfl)
  have k0 := h0
  have lt0 : ∀ x ∈ p0, x.block < W.heap.size := by obtain ⟨m, hm⟩ := k0; exact DataW.trod_lt m _ _ _ hm
  obtain ⟨fuel0, hf0⟩ := h0
  obtain ⟨e0, a0, hcs0, s0⟩ := Go.Proofs.Ytobcakjlfdejjaa.Watch.open_rows hf0
  simp only [Value.cells, List.cons.injEq, and_true] at hcs0
  subst hcs0
  have z0 := Go.Proofs.Ytobcakjlfdejjaa.Watch.rows_arg hk (by simp) k0 s0
  obtain ⟨b1, len1, cap1, rfl⟩ := okWide_slice Try.underlying25 (hval 1 25 v1 rfl rfl)
  have k1 := h1
  have lt1 : ∀ x ∈ p1, x.block < W.heap.size := by obtain ⟨m, hm⟩ := k1; exact DataW.trod_lt m _ _ _ hm
  obtain ⟨fuel1, hf1⟩ := h1
  obtain ⟨e1, a1, hcs1, s1⟩ := Go.Proofs.Ytobcakjlfdejjaa.Watch.open_chgs hf1
  simp only [Value.cells, List.cons.injEq, and_true] at hcs1
  subst hcs1
  have z1 := Go.Proofs.Ytobcakjlfdejjaa.Watch.chgs_arg hk (by simp) k1 s1
  clear hA0 hval0
  refine (Go.Proofs.Ytobcakjlfdejjaa.WatchKeeps.row _ a0 s0 z0 _ a1 s1 z1).mono fun e W' ⟨he, bel⟩ => ?_
  subst he
  exact ⟨_, rfl, _, _, _, [], _, [], hW', trodAll_mk1 (shut_bool Try.underlying4 _), (trodAll_cons_mk (Below.trod laidOut (by kernel_rfl) (of_decide_eq_true (by kernel_rfl)) k0 bel lt0) (trodAll_cons_mk (Below.trod laidOut (by kernel_rfl) (of_decide_eq_true (by kernel_rfl)) k1 bel lt1) trodAll_mk0)), rfl, bel.frame _, fun h => by cases h⟩

theorem over : Rows.watchKeepsUptoRow.holds Try.pinned (Rows.OpenSpec.upto Rows.watchKeepsSpec) :=
  OpenClaim.holds_of_cond 4 Try.f4 rfl rfl rfl rfl rfl rfl rfl ⟨rfl, rfl, rfl, rfl, rfl⟩ rfl rfl rfl rfl rfl (by kernel_rfl) Try.func4 (by kernel_rfl)
    (of_decide_eq_true (by kernel_rfl)) (by unfold Func.isWrapper; first | (rw [if_pos (by decide +kernel)]; kernel_rfl) | (rw [if_neg (by decide +kernel)]; exact ⟨rfl, rfl⟩))
    (fun os started H enc _ F => lifted os started H enc F)

theorem proved : Rows.WatchKeepsUptoSaid := over
#print axioms proved
end Go.Proofs.Ytobcakjlfdejjaa.watchKeeps
end
