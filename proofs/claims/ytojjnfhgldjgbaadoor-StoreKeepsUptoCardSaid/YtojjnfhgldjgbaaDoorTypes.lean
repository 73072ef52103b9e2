/- Tuples, mutations and rows: their cells, their equality, tuples as keys; slices.Index and slices.Contains at tuples. -/
import Derived.Test.YtojjnfhgldjgbaaDoorWatchO
import Derived.Test.YtojjnfhgldjgbaaDoorStEq
import Derived.Test.YtojjnfhgldjgbaaDoorPush
import Derived.Test.YtojjnfhgldjgbaaDoorMap
import Derived.WideKeyRuns
set_option linter.unusedVariables false
set_option linter.unusedSimpArgs false
namespace Go.Por
open Go.RowKit
/-- '==' of two whole structs, in a region that draws. -/
theorem yields_eqS {P : Program} {l : List Oper} {S : World → Prop} {a : Act} {op : Oper} (hw : Region.wanted op (yielded l.toArray a.tmps) = true) (t : TypeId) (x y : Operand) (ty : TypeId) (ho : op.op = .binOp .eql t x y ty) (xs ys : Array Value)
    (hx : a.eval x = .agg xs) (hy : a.eval y = .agg ys) (hg : P.eqGuardType P.depth t = false) (r : Bool) (he : ∀ w, (Op.equal t (.agg xs) (.agg ys)).run P w = .ok r w) : YieldsIf P l.toArray S op (.bool r) a :=
  .inl ⟨hw, fun w _ => by
    unfold execOp
    simp [ho, hx, hy, Sem.run_bind, run_eqGuard_agg w .eql t x y xs ys hg, binOp, he, Result.andThen]⟩
theorem yields_neS {P : Program} {l : List Oper} {S : World → Prop} {a : Act} {op : Oper} (hw : Region.wanted op (yielded l.toArray a.tmps) = true) (t : TypeId) (x y : Operand) (ty : TypeId) (ho : op.op = .binOp .neq t x y ty) (xs ys : Array Value)
    (hx : a.eval x = .agg xs) (hy : a.eval y = .agg ys) (hg : P.eqGuardType P.depth t = false) (r : Bool) (he : ∀ w, (Op.equal t (.agg xs) (.agg ys)).run P w = .ok r w) : YieldsIf P l.toArray S op (.bool (!r)) a :=
  .inl ⟨hw, fun w _ => by
    unfold execOp
    simp [ho, hx, hy, Sem.run_bind, run_eqGuard_agg w .neq t x y xs ys hg, binOp, he, Result.andThen]⟩
end Go.Por
namespace Go.Proofs.YtojjnfhgldjgbaaDoor.Watch
open Go.RowKit Go.Por Go.Sort Go.Por.StEq

/-- A mutation: is it taken away? the tuple. -/
abbrev Mut := Bool × Tup
def mutC (x : Mut) : List Value := [.bool x.1, .string x.2.1, .string x.2.2.1, .string x.2.2.2]
/-- A row: the tuple; since, until. -/
abbrev RowT := Tup × Int × Int
def rowC (x : RowT) : List Value := [.string x.1.1, .string x.1.2.1, .string x.1.2.2, .int .i64 x.2.1, .int .i64 x.2.2]
def mcmp (x y : Mut) : Int := tcmp x.2 y.2
def tle (x y : Tup) : Bool := !(ltOf tcmp) y x
theorem tle_iff (x y : Tup) : tle x y = true ↔ ¬ tlt y x := by
  unfold tle
  cases h : ltOf tcmp y x with
  | false =>
    simp only [Bool.not_false, true_iff]
    exact fun k => by rw [(tupLt y x).2 k] at h; cases h
  | true =>
    simp only [Bool.not_true, Bool.false_eq_true, false_iff]
    exact fun k => k ((tupLt y x).1 h)
theorem aggTup : ∀ w, (isAgg 27).run Tryd.prog w = .ok true w := fun w => by kernel_rfl
theorem sizeTup : ∀ w, (Go.sizeOf 27).run Tryd.prog w = .ok 3 w := fun w => by kernel_rfl
theorem tupC_one (x : Tup) : ∀ v ∈ tupC x, v.oneCell' = true := by
  intro v hv
  simp only [tupC, List.mem_cons, List.not_mem_nil, or_false] at hv
  rcases hv with rfl | rfl | rfl <;> rfl
theorem infoTup0 : (Tryd.prog.info? 27).map (·.size) = some 3 := by kernel_rfl
theorem infoMut0 : (Tryd.prog.info? 30).map (·.size) = some 4 := by kernel_rfl
theorem infoR : (Tryd.prog.info? 36).map (·.size) = some 5 := by kernel_rfl
theorem infoRow0 : (Tryd.prog.info? 36).map (·.size) = some 5 := by kernel_rfl
theorem rowC_len' (x : RowT) : (rowC x).length = 5 := rfl
theorem rowC_ones (x : RowT) : ∀ u ∈ rowC x, u.oneCell' = true := by
  intro v hv
  simp only [rowC, List.mem_cons, List.not_mem_nil, or_false] at hv
  rcases hv with rfl | rfl | rfl | rfl | rfl <;> rfl
theorem elemRow : Elem Tryd.prog 33 36 rowC 5 64 :=
  Elem.mk' (z := .agg #[.string ByteArray.empty, .string ByteArray.empty, .string ByteArray.empty, .int .i64 0, .int .i64 0]) Tryd.underlying33 (by kernel_rfl) rfl rowC_len' rowC_ones (by decide)
theorem elemTup : Elem Tryd.prog 63 27 tupC 3 48 :=
  Elem.mk' (z := .agg #[.string ByteArray.empty, .string ByteArray.empty, .string ByteArray.empty]) Tryd.underlying63 (by kernel_rfl) rfl tupC_len tupC_one (by decide)
theorem own_ne {α : Type} {f : α → List Value} {c : Nat} {w : World} {E t : TypeId} {v : Value} {l : List α} {O : Nat} {cs : Array Value} (h : OwnS f c w E v l) (hO : w.heap[O]? = some (.cells cs t (0, 0))) (ht : E ≠ t) : v.ownBlock ≠ some O := by
  rcases h.form with ⟨rfl, _⟩ | ⟨g, cap, rfl, _, _⟩
  · simp [Value.ownBlock]
  · obtain ⟨cur, h1, _⟩ := h.block
    intro e
    simp only [Value.ownBlock, Option.some.injEq] at e
    subst e
    rw [h1] at hO
    simp only [Option.some.injEq, Obj.cells.injEq] at hO
    exact ht hO.2.1
theorem bytes_beq (a b : ByteArray) : (a.toList == b.toList) = decide (a = b) := by
  by_cases h : a = b
  · rw [beq_yes h, decide_eq_true h]
  · rw [beq_no h, decide_eq_false h]
theorem eqTupIn (d : Nat) (w : World) (x y : Tup) : (Op.equalIn (d + 2) 27 (.agg (tupC x).toArray) (.agg (tupC y).toArray)).run Tryd.prog w = .ok (decide (x = y)) w := by
  obtain ⟨x0, x1, x2⟩ := x
  obtain ⟨y0, y1, y2⟩ := y
  have h : (Op.equalIn (d + 2) 27 (.agg (tupC (x0, x1, x2)).toArray) (.agg (tupC (y0, y1, y2)).toArray)).run Tryd.prog w = .ok (x0.toList == y0.toList && (x1.toList == y1.toList && (x2.toList == y2.toList))) w := by
    unfold tupC
    refine eqA_of Tryd.underlying27 (by kernel_rfl) ?_
    refine eqf_cons (by rfl) (by go_simp; rfl) (by go_simp; rfl) (by go_simp) ?_
    refine eqf_cons (by rfl) (by go_simp; rfl) (by go_simp; rfl) (by go_simp) ?_
    exact eqf_last (by rfl) (by go_simp; rfl) (by go_simp; rfl) (by go_simp)
  rw [h]
  have e : (x0.toList == y0.toList && (x1.toList == y1.toList && (x2.toList == y2.toList))) = decide ((x0, x1, x2) = (y0, y1, y2)) := by
    simp only [bytes_beq]
    rw [Bool.eq_iff_iff]
    simp
  rw [e]
theorem eqTup (x y : Tup) (w : World) : (Op.equal 27 (.agg (tupC x).toArray) (.agg (tupC y).toArray)).run Tryd.prog w = .ok (decide (x = y)) w := eqTupIn 9998 w x y
theorem mutC_len (x : Mut) : (mutC x).length = 4 := rfl
theorem part_tup (b : Bool) (x : Tup) (w : World) : (part 27 (mutC (b, x)).toArray 1).run Tryd.prog w = .ok (.agg (tupC x).toArray) w := by
  unfold mutC tupC
  go_simp
theorem eqMutIn (d : Nat) (w : World) (x y : Mut) : (Op.equalIn (d + 3) 30 (.agg (mutC x).toArray) (.agg (mutC y).toArray)).run Tryd.prog w = .ok (decide (x = y)) w := by
  obtain ⟨x0, x1⟩ := x
  obtain ⟨y0, y1⟩ := y
  have h : (Op.equalIn (d + 3) 30 (.agg (mutC (x0, x1)).toArray) (.agg (mutC (y0, y1)).toArray)).run Tryd.prog w = .ok (x0 == y0 && decide (x1 = y1)) w := by
    refine eqA_of Tryd.underlying30 (by kernel_rfl) ?_
    refine eqf_cons (a := .bool x0) (b := .bool y0) (by rfl) (by unfold mutC; go_simp) (by unfold mutC; go_simp) (by go_simp) ?_
    exact eqf_last (by rfl) (part_tup x0 x1 w) (part_tup y0 y1 w) (eqTupIn d w x1 y1)
  have e : (x0 == y0 && decide (x1 = y1)) = decide ((x0, x1) = (y0, y1)) := by
    rw [Bool.eq_iff_iff]
    simp
  rw [h, e]
theorem eqMut (x y : Mut) (w : World) : (Op.equal 30 (.agg (mutC x).toArray) (.agg (mutC y).toArray)).run Tryd.prog w = .ok (decide (x = y)) w := eqMutIn 9997 w x y
theorem part_tupR (x : Tup) (a b : Int) (w : World) : (part 27 (rowC (x, a, b)).toArray 0).run Tryd.prog w = .ok (.agg (tupC x).toArray) w := by
  unfold rowC tupC
  go_simp
theorem eqRowIn (d : Nat) (w : World) (x y : RowT) : (Op.equalIn (d + 3) 36 (.agg (rowC x).toArray) (.agg (rowC y).toArray)).run Tryd.prog w = .ok (decide (x = y)) w := by
  obtain ⟨x0, x1, x2⟩ := x
  obtain ⟨y0, y1, y2⟩ := y
  have h : (Op.equalIn (d + 3) 36 (.agg (rowC (x0, x1, x2)).toArray) (.agg (rowC (y0, y1, y2)).toArray)).run Tryd.prog w = .ok (decide (x0 = y0) && (x1 == y1 && x2 == y2)) w := by
    refine eqA_of Tryd.underlying36 (by kernel_rfl) ?_
    refine eqf_cons (by rfl) (part_tupR x0 x1 x2 w) (part_tupR y0 y1 y2 w) (eqTupIn d w x0 y0) ?_
    refine eqf_cons (a := .int .i64 x1) (b := .int .i64 y1) (by rfl) (by unfold rowC; go_simp) (by unfold rowC; go_simp) (by go_simp) ?_
    exact eqf_last (a := .int .i64 x2) (b := .int .i64 y2) (by rfl) (by unfold rowC; go_simp) (by unfold rowC; go_simp) (by go_simp)
  have e : (decide (x0 = y0) && (x1 == y1 && x2 == y2)) = decide ((x0, x1, x2) = (y0, y1, y2)) := by
    rw [Bool.eq_iff_iff]
    simp
  rw [h, e]
theorem eqRow (x y : RowT) (w : World) : (Op.equal 36 (.agg (rowC x).toArray) (.agg (rowC y).toArray)).run Tryd.prog w = .ok (decide (x = y)) w := eqRowIn 9997 w x y
theorem ba_beq_self (s : ByteArray) : (s == s) = true := by
  obtain ⟨d⟩ := s
  show (d == d) = true
  simp
def encT (x : Tup) : Value := .agg (tupC x).toArray
theorem encT_inj {a b : Tup} (h : encT a = encT b) : a = b := by
  obtain ⟨a0, a1, a2⟩ := a
  obtain ⟨b0, b1, b2⟩ := b
  simp only [encT, tupC, Value.agg.injEq, List.toArray_eq_iff, List.cons.injEq, Value.string.injEq, and_true] at h
  simp [h]
theorem tup_check (w : World) (em : Bool) (k : Tup) : (Instr.checkKey em 10000 27 (encT k)).run Tryd.prog w = .ok () w := by
  obtain ⟨k0, k1, k2⟩ := k
  have hs : ∀ (s : ByteArray), (Instr.checkKey em 9999 9 (.string s)).run Tryd.prog w = .ok () w := fun s => Go.MapKept.run_checkKey (d := .string) Tryd.underlying9 (by simp [Go.MapKept.IsKey]) em 9998
  show (Instr.checkKey em (9999 + 1) 27 (.agg #[.string k0, .string k1, .string k2])).run Tryd.prog w = .ok () w
  unfold Instr.checkKey
  simp only [Sem.run_bind, run_underlying Tryd.underlying27, Result.andThen_ok]
  have p0 : (part 9 #[.string k0, .string k1, .string k2] 0).run Tryd.prog w = .ok (.string k0) w := by go_simp
  have p1 : (part 9 #[.string k0, .string k1, .string k2] 1).run Tryd.prog w = .ok (.string k1) w := by go_simp
  have p2 : (part 9 #[.string k0, .string k1, .string k2] 2).run Tryd.prog w = .ok (.string k2) w := by go_simp
  simp [p0, p1, p2, hs, Result.andThen]
theorem tup_asking (w : World) (k : Tup) : ∀ (es : List MapEntry) (i : Nat), (∀ e ∈ es, ∃ k', e.key = encT k') →
    ((Instr.findAsking 27 (encT k) es i).run Tryd.prog w = .ok none w ∧ ∀ e ∈ es, e.key ≠ encT k) ∨ ∃ j e, (Instr.findAsking 27 (encT k) es i).run Tryd.prog w = .ok (some (i + j, e.val)) w ∧ es[j]? = some e ∧ e.key = encT k
  | [], i, _ => .inl ⟨by simp [Instr.findAsking], by simp⟩
  | e :: es, i, hall => by
    obtain ⟨l, hl⟩ := hall e (by simp)
    have hr := eqTup k l w
    by_cases he : k = l
    · rw [decide_eq_true he] at hr
      right
      refine ⟨0, e, ?_, rfl, by rw [hl, he]⟩
      rw [Instr.findAsking, hl]
      have hr' : (Op.equal 27 (encT k) (encT l)).run Tryd.prog w = .ok true w := hr
      simp only [Sem.run_bind, hr', Result.andThen_ok, if_true, Sem.run_pure, Nat.add_zero]
    · rw [decide_eq_false he] at hr
      have hr' : (Op.equal 27 (encT k) (encT l)).run Tryd.prog w = .ok false w := hr
      have hne : e.key ≠ encT k := fun h => he (encT_inj (h.symm.trans hl))
      have hstep : (Instr.findAsking 27 (encT k) (e :: es) i).run Tryd.prog w = (Instr.findAsking 27 (encT k) es (i + 1)).run Tryd.prog w := by
        rw [Instr.findAsking, hl]
        simp only [Sem.run_bind, hr', Result.andThen_ok, Bool.false_eq_true, if_false]
      rw [hstep]
      rcases tup_asking w k es (i + 1) (fun y hy => hall y (by simp [hy])) with ⟨h1, h2⟩ | ⟨j, e', h1, h2, h3⟩
      · exact .inl ⟨h1, fun y hy => by
          rcases List.mem_cons.1 hy with rfl | hy
          · exact hne
          · exact h2 y hy⟩
      · exact .inr ⟨j + 1, e', by rw [h1, Nat.add_assoc, Nat.add_comm 1 j], by simpa using h2, h3⟩
theorem keyTup : KeyOK Tryd.prog 27 Tup encT where
  inj := encT_inj
  check := tup_check
  find w k es hes := by
    rw [run_findKey_eq (P := Tryd.prog) (w := w) (k := 27) (by kernel_rfl) (encT k) es]
    rcases tup_asking w k es 0 hes with h | ⟨j, e, h1, h2, h3⟩
    · exact .inl h
    · exact .inr ⟨j, e, by rw [h1, Nat.zero_add], h2, h3⟩
  stays w k := by
    obtain ⟨k0, k1, k2⟩ := k
    have hb : ∀ s : ByteArray, (s == s) = true := fun s => ba_beq_self s
    have : Instr.sameBits 10000 (encT (k0, k1, k2)) (encT (k0, k1, k2)) = true := by simp [encT, tupC, Instr.sameBits, hb]
    simp [Instr.keyThatStays, this]
/-- Is it among them? -/
def tin (x : Tup) (l : List Tup) : Bool := l.any (fun y => decide (x = y))
theorem tin_iff {x : Tup} {l : List Tup} : tin x l = true ↔ x ∈ l := by
  unfold tin
  rw [List.any_eq_true]
  constructor
  · rintro ⟨y, hy, e⟩
    rw [of_decide_eq_true e]; exact hy
  · intro h
    exact ⟨x, h, decide_eq_true rfl⟩
theorem tin_no {x : Tup} {l : List Tup} (h : x ∉ l) : tin x l = false := by
  cases hh : tin x l with
  | false => rfl
  | true => exact absurd (tin_iff.1 hh) h
set_option maxRecDepth 100000 in
set_option maxHeartbeats 1600000 in
theorem index_any {w : World} {v : Value} {l : List Tup} (x : Tup) (h : ReadS tupC 3 w v l) :
    Calls Tryd.prog 62 #[v, .agg (tupC x).toArray] w fun e w' => (∃ r : Int, e = .returned (.int .i64 r) ∧ (decide (0 ≤ r) = tin x l)) ∧ Below w.heap.size w w' := by
  obtain ⟨ao, cap, rfl, hl⟩ := h.form
  obtain ⟨n, hn⟩ : ∃ n, l.length = n := ⟨_, rfl⟩
  obtain ⟨X, hX⟩ : ∃ X, w.heap.size = X := ⟨_, rfl⟩
  rw [hn] at h hl ⊢
  have HH := Lib.hid (And.intro h hn)
  clear h
  obtain ⟨x0, x1, x2⟩ := x
  unfold tupC
  go_enter Tryd.func62, Tryd.ntmps62
  go_wp2
  have hXb := block_new w (.cells #[.string x0, .string x1, .string x2] 27)
  rw [hX] at hXb
  have hb1 := (Below.refl X w).alloc (by omega) (.cells #[.string x0, .string x1, .string x2] 27)
  have hs1 : X < (w.alloc (.cells #[.string x0, .string x1, .string x2] 27)).heap.size := by simp; omega
  generalize hW1 : w.alloc (.cells #[.string x0, .string x1, .string x2] 27) = W1 at *
  have HW := Lib.hid (And.intro hXb (And.intro hb1 hs1))
  clear hXb hb1 hs1 hW1
  go_loopg [8] n (fun gg vi wx => ∃ t : Nat, t + gg = n ∧ vi = .int .i64 (t : Int) ∧ (x0, x1, x2) ∉ l.take t ∧ Mod (fun _ => False) W1 wx)
  case atStart => exact ⟨0, by omega, rfl, by simp, Mod.refl _ _⟩
  case round =>
    obtain ⟨t, htg, rfl, hno, hmod⟩ := hrel
    have HI := Lib.hid (And.intro htg (And.intro hno hmod))
    by_cases hc : t < n
    · obtain ⟨g1, g2⟩ := HH.out
      have hci : (t : Int) < (n : Int) := by omega
      have ht0 : (0 : Int) ≤ (t : Int) := by omega
      have htb : (t : Int) < 9223372036854775807 := by omega
      have k6 : IntKind.i64.wrap (t : Int) = (t : Int) := by simp [IntKind.wrap, IntKind.bits, IntKind.signed]; omega
      obtain ⟨y, hy⟩ : ∃ y, l[t]? = some y := ⟨_, List.getElem?_eq_getElem (by omega)⟩
      obtain ⟨b, o, rfl, r1, lt1⟩ := g1.lt (by decide) tupC_len hy
      have hbW : b < X := by omega
      have r2 : wr.drew.rangeAt b (o + t * 3) (tupC y) := range_below (range_below r1 HW.out.2.1 hbW) (hmod.drew.to_below (B := W1.heap.size) (Nat.le_refl _) (fun _ h => h.elim)) (by have := HW.out.2.2; omega)
      have rX : wr.drew.rangeAt X 0 (tupC (x0, x1, x2)) := fun j u hu => cell_of (hmod.drew.old HW.out.1 (fun h => h)) (by simpa [tupC] using hu)
      obtain ⟨cy, hcy⟩ : ∃ cy, tupC y = cy := ⟨_, rfl⟩
      obtain ⟨cx, hcx⟩ : ∃ cx, tupC (x0, x1, x2) = cx := ⟨_, rfl⟩
      have hy3 : cy.length = 3 := by rw [← hcy]; rfl
      have hx3 : cx.length = 3 := by rw [← hcx]; rfl
      obtain ⟨bb, hbb⟩ : ∃ bb, decide ((x0, x1, x2) = y) = bb := ⟨_, rfl⟩
      have hq : ∀ w, (Op.equal 27 (.agg cx.toArray) (.agg cy.toArray)).run Tryd.prog w = .ok bb w := fun w => by
        rw [← hcx, ← hcy, ← hbb]
        exact eqTup (x0, x1, x2) y w
      rw [hcy] at r2
      rw [hcx] at rX
      have hbl : b < wr.drew.heap.size := by have := hmod.size; have := HW.out.2.2; show b < wr.heap.size; omega
      have hXl : X < wr.drew.heap.size := by have := hmod.size; have := HW.out.2.2; show X < wr.heap.size; omega
      have HQ := Lib.hid hq
      have HX := Lib.hid (And.intro hx3 (And.intro hy3 (And.intro rX (And.intro hXl (And.intro r2 (And.intro hbl hbb))))))
      have HE := Lib.hid (And.intro hy hc)
      clear g1 g2 hy r1 r2 rX lt1 hcy hcx hx3 hy3 hbb hq htg hno hmod hc hbW hbl hXl
      go_wp2_with fail
      refine wp_region_held_drew (S := fun w' => Gr wr.drew w') (by kernel_rfl) (Gr.refl _) (fun hS => ?_)
      refine takeD (i := 0) rfl (by kernel_rfl) (by kernel_rfl) (by kernel_rfl) (fun _ _ _ h => h) hS (yieldsIf_load_mid (by rfl) 27 (.tmp 3) rfl X 0 rfl cx _ (fun w hSw => range_below HX.out.2.2.1 hSw.below HX.out.2.2.2.1) Tryd.underlying27 rfl (by rw [HX.out.1]; exact infoTup0)) ?_
      simp only [Act.put, List.setIfInBounds_toArray, List.set_cons_zero, List.set_cons_succ]
      refine takeD (i := 1) rfl (by kernel_rfl) (by kernel_rfl) (by kernel_rfl) (fun _ _ _ h => h) hS (Or.inl ⟨by rfl, fun w hSw => by go_simp; rfl⟩) ?_
      simp only [Act.put, List.setIfInBounds_toArray, List.set_cons_zero, List.set_cons_succ]
      refine takeD (i := 2) rfl (by kernel_rfl) (by kernel_rfl) (by kernel_rfl) (fun _ _ _ h => h) hS (Or.inl ⟨by rfl, fun w hSw => by go_simp; rfl⟩) ?_
      simp only [Act.put, List.setIfInBounds_toArray, List.set_cons_zero, List.set_cons_succ]
      refine takeD (i := 3) rfl (by kernel_rfl) (by kernel_rfl) (by kernel_rfl) (fun _ _ _ h => h) hS (Or.inl ⟨by rfl, fun w hSw => by go_simp; rfl⟩) ?_
      simp only [Act.put, List.setIfInBounds_toArray, List.set_cons_zero, List.set_cons_succ]
      refine takeD (i := 4) rfl (by kernel_rfl) (by kernel_rfl) (by kernel_rfl) (fun _ _ _ h => h) hS (yieldsIf_load_mid (by rfl) 27 (.tmp 14) rfl b (o + t * 3) rfl cy _ (fun w hSw => range_below HX.out.2.2.2.2.1 hSw.below HX.out.2.2.2.2.2.1) Tryd.underlying27 rfl (by rw [HX.out.2.1]; exact infoTup0)) ?_
      simp only [Act.put, List.setIfInBounds_toArray, List.set_cons_zero, List.set_cons_succ]
      refine takeD (i := 5) rfl (by kernel_rfl) (by kernel_rfl) (by kernel_rfl) (fun _ _ _ h => h) hS (yields_eqS (by rfl) 27 (.tmp 11) (.tmp 15) _ rfl cx.toArray cy.toArray rfl rfl (by kernel_rfl) bb HQ.out) ?_
      simp only [Act.put, List.setIfInBounds_toArray, List.set_cons_zero, List.set_cons_succ]
      refine wpAnyH_done (by kernel_rfl) ?_ _
      clear hS
      cases bb with
      | false =>
        go_wp2
        go_roundg (gk - 1)
        case measure => have h1 := HI.out; have h2 := HE.out; omega
        case rel =>
          obtain ⟨i1, i2, i3⟩ := HI.out
          obtain ⟨e1, e2⟩ := HE.out
          have hxy := of_decide_eq_false HX.out.2.2.2.2.2.2
          exact ⟨t + 1, by omega, by go_num, by rw [List.take_add_one, e1]; intro h; rcases List.mem_append.1 h with h | h; exact i2 h; exact hxy (List.mem_singleton.1 h), i3.drew⟩
      | true =>
        go_wp2
        go_ret
        obtain ⟨i1, i2, i3⟩ := HI.out
        obtain ⟨e1, e2⟩ := HE.out
        have hxy := of_decide_eq_true HX.out.2.2.2.2.2.2
        refine ⟨⟨(t : Int), rfl, ?_⟩, by (try rw [hX]); exact HW.out.2.1.trans (i3.drew.to_below (by have := HW.out.2.2; omega) (fun _ h => h.elim))⟩
        rw [decide_eq_true (by omega), tin_iff.2 (by rw [hxy]; exact List.mem_of_getElem? e1)]
    · have hci : ¬ (t : Int) < (n : Int) := by omega
      have HE := Lib.hid hc
      clear htg hno hmod hc
      go_wp2
      go_ret
      obtain ⟨i1, i2, i3⟩ := HI.out
      obtain ⟨g1, g2⟩ := HH.out
      have hcc := HE.out
      rw [List.take_of_length_le (by omega)] at i2
      refine ⟨⟨-1, rfl, ?_⟩, by (try rw [hX]); exact HW.out.2.1.trans (i3.to_below (by have := HW.out.2.2; omega) (fun _ h => h.elim))⟩
      rw [decide_eq_false (by omega), tin_no i2]
set_option maxRecDepth 100000 in
set_option maxHeartbeats 1600000 in
theorem contains_any {w : World} {v : Value} {l : List Tup} (x : Tup) (h : ReadS tupC 3 w v l) :
    Calls Tryd.prog 38 #[v, .agg (tupC x).toArray] w fun e w' => e = .returned (.bool (tin x l)) ∧ Below w.heap.size w w' := by
  obtain ⟨ao, cap, rfl, hl⟩ := h.form
  obtain ⟨n, hn⟩ : ∃ n, l.length = n := ⟨_, rfl⟩
  rw [hn] at h ⊢
  obtain ⟨x0, x1, x2⟩ := x
  have hcall : ∀ W : World, ReadS tupC 3 W (.slice ao n cap) l → Calls Tryd.prog 62 #[.slice ao n cap, .agg #[.string x0, .string x1, .string x2]] W fun e w' => (∃ r : Int, e = .returned (.int .i64 r) ∧ (decide (0 ≤ r) = tin (x0, x1, x2) l)) ∧ Below W.heap.size W w' := fun W hW => index_any (x0, x1, x2) hW
  have hr1 := h.mod (S := fun _ => False) (by decide) tupC_len ((Mod.refl _ w).alloc (.cells #[.string x0, .string x1, .string x2] 27)) (fun _ _ h => h)
  obtain ⟨bb, hbb⟩ : ∃ bb, tin (x0, x1, x2) l = bb := ⟨_, rfl⟩
  rw [hbb] at hcall ⊢
  have HH := Lib.hid (And.intro hcall hr1)
  clear h hcall hr1 hbb
  unfold tupC
  go_enter Tryd.func38, Tryd.ntmps38
  go_wp2_with fail
  refine (HH.out.1 _ HH.out.2).mono ?_
  rintro e w2 ⟨⟨r, rfl, hr⟩, hb2⟩
  have HB := Lib.hid (And.intro hb2 hr)
  clear hb2 hr
  go_wp2
  go_ret
  obtain ⟨h1, h2⟩ := HB.out
  refine ⟨?_, ((Below.refl _ w).alloc (Nat.le_refl _) _).trans (h1.mono (by simp))⟩
  rw [← h2]
  rfl
set_option maxRecDepth 100000 in
set_option maxHeartbeats 1600000 in
theorem same07_any {w : World} {v1 v2 : Value} {l1 l2 : List RowT} (h1 : ReadS rowC 5 w v1 l1) (h2 : ReadS rowC 5 w v2 l2) :
    Calls Tryd.prog 10 #[v1, v2] w fun e w' => e = .returned (.bool (decide (l1 = l2))) ∧ Mod (fun _ => False) w w' := by
  obtain ⟨ao1, cap1, rfl, hl1⟩ := h1.form
  obtain ⟨ao2, cap2, rfl, hl2⟩ := h2.form
  obtain ⟨n1, hn1⟩ : ∃ n, l1.length = n := ⟨_, rfl⟩
  obtain ⟨n2, hn2⟩ : ∃ n, l2.length = n := ⟨_, rfl⟩
  rw [hn1] at h1 hl1 ⊢
  rw [hn2] at h2 hl2 ⊢
  have HH := Lib.hid (And.intro h1 (And.intro h2 (And.intro hl1 (And.intro hn1 hn2))))
  clear h1 h2 hl2
  go_enter Tryd.func10, Tryd.ntmps10
  by_cases hne : n1 = n2
  · subst hne
    clear hn2 hn1
    go_wp2
    go_loopg [5] n1 (fun gg vi wx => ∃ t : Nat, t + gg = n1 ∧ vi = .int .i64 (t : Int) ∧ l1.take t = l2.take t ∧ Mod (fun _ => False) w wx)
    case atStart => exact ⟨0, by omega, rfl, rfl, Mod.refl _ _⟩
    case round =>
      obtain ⟨t, htg, rfl, heq, hmod⟩ := hrel
      have HI := Lib.hid (And.intro htg (And.intro heq hmod))
      by_cases hc : t < n1
      · obtain ⟨g1, g2, g3, g4, g5⟩ := HH.out
        have hci : (t : Int) < (n1 : Int) := by omega
        have ht0 : (0 : Int) ≤ (t : Int) := by omega
        have htb : (t : Int) < 9223372036854775807 := by omega
        have k6 : IntKind.i64.wrap (t : Int) = (t : Int) := by simp [IntKind.wrap, IntKind.bits, IntKind.signed]; omega
        obtain ⟨x, hx⟩ : ∃ x, l1[t]? = some x := ⟨_, List.getElem?_eq_getElem (by omega)⟩
        obtain ⟨y, hy⟩ : ∃ y, l2[t]? = some y := ⟨_, List.getElem?_eq_getElem (by omega)⟩
        have d1 := (g1.mod (S := fun _ => False) (by decide) rowC_len' hmod.drew (fun _ _ h => h))
        have d2 := (g2.mod (S := fun _ => False) (by decide) rowC_len' hmod.drew (fun _ _ h => h))
        obtain ⟨b1, o1, rfl, r1, lt1⟩ := d1.lt (by decide) rowC_len' hx
        obtain ⟨b2, o2, rfl, r2, lt2⟩ := d2.lt (by decide) rowC_len' hy
        obtain ⟨cx, hcx⟩ : ∃ cx, rowC x = cx := ⟨_, rfl⟩
        obtain ⟨cy, hcy⟩ : ∃ cy, rowC y = cy := ⟨_, rfl⟩
        have hx5 : cx.length = 5 := by rw [← hcx]; rfl
        have hy5 : cy.length = 5 := by rw [← hcy]; rfl
        obtain ⟨bb, hbb⟩ : ∃ bb, decide (x = y) = bb := ⟨_, rfl⟩
        have hq : ∀ w, (Op.equal 36 (.agg cx.toArray) (.agg cy.toArray)).run Tryd.prog w = .ok bb w := fun w => by
          rw [← hcx, ← hcy, ← hbb]
          exact eqRow x y w
        rw [hcx] at r1
        rw [hcy] at r2
        have HQ := Lib.hid hq
        have HX := Lib.hid (And.intro hx5 (And.intro hy5 (And.intro r1 (And.intro lt1 (And.intro r2 (And.intro lt2 hbb))))))
        have HE := Lib.hid (And.intro hx (And.intro hy hc))
        clear g1 g2 g3 g4 g5 hx hy d1 d2 r1 lt1 r2 lt2 hcx hcy hx5 hy5 hbb hq htg heq hmod hc
        go_wp2_with fail
        refine wp_region_held_drew (S := fun w' => Gr wr.drew w') (by kernel_rfl) (Gr.refl _) (fun hS => ?_)
        refine takeD (i := 0) rfl (by kernel_rfl) (by kernel_rfl) (by kernel_rfl) (fun _ _ _ h => h) hS (Or.inl ⟨by rfl, fun w hSw => by go_simp; rfl⟩) ?_
        simp only [Act.put, List.setIfInBounds_toArray, List.set_cons_zero, List.set_cons_succ]
        refine takeD (i := 1) rfl (by kernel_rfl) (by kernel_rfl) (by kernel_rfl) (fun _ _ _ h => h) hS (Or.inl ⟨by rfl, fun w hSw => by go_simp; rfl⟩) ?_
        simp only [Act.put, List.setIfInBounds_toArray, List.set_cons_zero, List.set_cons_succ]
        refine takeD (i := 2) rfl (by kernel_rfl) (by kernel_rfl) (by kernel_rfl) (fun _ _ _ h => h) hS (Or.inl ⟨by rfl, fun w hSw => by go_simp; rfl⟩) ?_
        simp only [Act.put, List.setIfInBounds_toArray, List.set_cons_zero, List.set_cons_succ]
        refine takeD (i := 3) rfl (by kernel_rfl) (by kernel_rfl) (by kernel_rfl) (fun _ _ _ h => h) hS (yieldsIf_load_mid (by rfl) 36 (.tmp 19) rfl b1 (o1 + t * 5) rfl cx _ (fun w hSw => range_below HX.out.2.2.1 hSw.below HX.out.2.2.2.1) Tryd.underlying36 rfl (by rw [HX.out.1]; exact infoRow0)) ?_
        simp only [Act.put, List.setIfInBounds_toArray, List.set_cons_zero, List.set_cons_succ]
        refine takeD (i := 4) rfl (by kernel_rfl) (by kernel_rfl) (by kernel_rfl) (fun _ _ _ h => h) hS (Or.inl ⟨by rfl, fun w hSw => by go_simp; rfl⟩) ?_
        simp only [Act.put, List.setIfInBounds_toArray, List.set_cons_zero, List.set_cons_succ]
        refine takeD (i := 5) rfl (by kernel_rfl) (by kernel_rfl) (by kernel_rfl) (fun _ _ _ h => h) hS (Or.inl ⟨by rfl, fun w hSw => by go_simp; rfl⟩) ?_
        simp only [Act.put, List.setIfInBounds_toArray, List.set_cons_zero, List.set_cons_succ]
        refine takeD (i := 6) rfl (by kernel_rfl) (by kernel_rfl) (by kernel_rfl) (fun _ _ _ h => h) hS (Or.inl ⟨by rfl, fun w hSw => by go_simp; rfl⟩) ?_
        simp only [Act.put, List.setIfInBounds_toArray, List.set_cons_zero, List.set_cons_succ]
        refine takeD (i := 7) rfl (by kernel_rfl) (by kernel_rfl) (by kernel_rfl) (fun _ _ _ h => h) hS (yieldsIf_load_mid (by rfl) 36 (.tmp 23) rfl b2 (o2 + t * 5) rfl cy _ (fun w hSw => range_below HX.out.2.2.2.2.1 hSw.below HX.out.2.2.2.2.2.1) Tryd.underlying36 rfl (by rw [HX.out.2.1]; exact infoRow0)) ?_
        simp only [Act.put, List.setIfInBounds_toArray, List.set_cons_zero, List.set_cons_succ]
        refine takeD (i := 8) rfl (by kernel_rfl) (by kernel_rfl) (by kernel_rfl) (fun _ _ _ h => h) hS (yields_neS (by rfl) 36 (.tmp 20) (.tmp 24) _ rfl cx.toArray cy.toArray rfl rfl (by kernel_rfl) bb HQ.out) ?_
        simp only [Act.put, List.setIfInBounds_toArray, List.set_cons_zero, List.set_cons_succ]
        refine wpAnyH_done (by kernel_rfl) ?_ _
        clear hS
        cases bb with
        | true =>
          simp only [Bool.not_true]
          go_wp2
          go_roundg (gk - 1)
          case measure => have h1 := HI.out; have h2 := HE.out; omega
          case rel =>
            obtain ⟨i1, i2, i3⟩ := HI.out
            obtain ⟨e1, e2, e3⟩ := HE.out
            have hxy : x = y := of_decide_eq_true HX.out.2.2.2.2.2.2
            exact ⟨t + 1, by omega, by go_num, by rw [List.take_add_one, List.take_add_one, i2, e1, e2, hxy], i3.drew⟩
        | false =>
          simp only [Bool.not_false]
          go_wp2
          go_ret
          obtain ⟨e1, e2, e3⟩ := HE.out
          have hxy : ¬ x = y := of_decide_eq_false HX.out.2.2.2.2.2.2
          refine ⟨?_, HI.out.2.2.drew⟩
          rw [decide_eq_false (fun e => hxy (by rw [e] at e1; rw [e1] at e2; exact Option.some.inj e2))]
          rfl
      · have hci : ¬ (t : Int) < (n1 : Int) := by omega
        have HE := Lib.hid hc
        clear htg heq hmod hc
        go_wp2
        go_ret
        obtain ⟨i1, i2, i3⟩ := HI.out
        obtain ⟨g1, g2, g3, g4, g5⟩ := HH.out
        have hcc := HE.out
        rw [List.take_of_length_le (by omega), List.take_of_length_le (by omega)] at i2
        refine ⟨?_, i3⟩
        rw [decide_eq_true i2]
        rfl
  · have q : ((n1 : Int) != (n2 : Int)) = true := by rw [bne_iff_ne]; omega
    have HE := Lib.hid hne
    clear hne hn1 hn2
    go_wp2
    go_ret
    obtain ⟨g1, g2, g3, g4, g5⟩ := HH.out
    refine ⟨?_, Mod.refl _ _⟩
    rw [decide_eq_false (fun e => HE.out (by rw [← g4, ← g5, e]))]
    rfl
theorem tle_trans {x y z : Tup} (h1 : tle x y = true) (h2 : tle y z = true) : tle x z = true := by
  unfold tle at *
  simp only [Bool.not_eq_true'] at *
  exact tupSwo.ntrans _ _ _ h2 h1
theorem tle_total (x y : Tup) : (tle x y || tle y x) = true := by
  cases h1 : tle x y with
  | true => rfl
  | false =>
    rw [Bool.false_or, tle_iff]
    intro h2
    have h3 : ¬ tle x y = true := by rw [h1]; simp
    exact h3 ((tle_iff x y).2 (fun h4 => tlt_irrefl x (tlt_trans h2 h4)))
theorem tle_anti {x y : Tup} (h1 : tle x y = true) (h2 : tle y x = true) : x = y := by
  unfold tle at *
  simp only [Bool.not_eq_true'] at *
  exact tupTotal x y h2 h1
theorem tle_ne {x y : Tup} : (tle x y = true ∧ x ≠ y) ↔ tlt x y := by
  rw [tle_iff]
  constructor
  · rintro ⟨h, k⟩
    rcases tlt_total x y with h1 | h1 | h1
    · exact h1
    · exact absurd h1 k
    · exact absurd h1 h
  · intro h
    exact ⟨fun k => tlt_irrefl x (tlt_trans h k), fun e => by rw [e] at h; exact tlt_irrefl y h⟩
theorem tlt_uniq : ∀ {a b : List Tup}, a.Pairwise tlt → b.Pairwise tlt → (∀ x, x ∈ a ↔ x ∈ b) → a = b
  | [], [], _, _, _ => rfl
  | [], y :: b, _, _, h => absurd ((h y).2 List.mem_cons_self) (by simp)
  | x :: a, [], _, _, h => absurd ((h x).1 List.mem_cons_self) (by simp)
  | x :: a, y :: b, ha, hb, h => by
    obtain ⟨a1, a2⟩ := List.pairwise_cons.1 ha
    obtain ⟨b1, b2⟩ := List.pairwise_cons.1 hb
    have e : x = y := by
      rcases List.mem_cons.1 ((h x).1 List.mem_cons_self) with e | k1
      · exact e
      · rcases List.mem_cons.1 ((h y).2 List.mem_cons_self) with e | k2
        · exact e.symm
        · exact absurd (tlt_trans (b1 x k1) (a1 y k2)) (tlt_irrefl y)
    subst e
    rw [tlt_uniq a2 b2 (fun z => ?_)]
    constructor
    · intro hz
      rcases List.mem_cons.1 ((h z).1 (List.mem_cons_of_mem _ hz)) with e | k
      · rw [e] at hz; exact absurd (a1 x hz) (tlt_irrefl x)
      · exact k
    · intro hz
      rcases List.mem_cons.1 ((h z).2 (List.mem_cons_of_mem _ hz)) with e | k
      · rw [e] at hz; exact absurd (b1 x hz) (tlt_irrefl x)
      · exact k
end Go.Proofs.YtojjnfhgldjgbaaDoor.Watch
