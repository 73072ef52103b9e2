/- StoreBoth, where what came in is of bulk at most 1048576: who has a relation, what a user has, and Has say the same: part 5 of 14: what it leans on. -/
import Derived.Laws.StructEq
import Derived.RowKit
import Derived.WalkKit
import Derived.ProofKit
import Derived.Deep.Slices
import Derived.Below
import Derived.Laws.IdiomCopy
import Derived.Deep.RegionHeld3
import Derived.Laws.Rows
import Derived.Laws.Tables
import Derived.Deep.MidRow
import Derived.Shelf.SlSortCmp.NoneTotal
import Derived.OwnWalk
import Derived.WideKeyRuns
import Derived.ChangeKeysEq
import Derived.Test.YtojjnfhgldjgbaaGreatDoorBoA
import Derived.Test.YtojjnfhgldjgbaaGreatDoorBoB
import Derived.Test.YtojjnfhgldjgbaaGreatDoorBoC
import Derived.Test.YtojjnfhgldjgbaaGreatDoorBoD
section
set_option linter.unusedVariables false
set_option linter.unusedSimpArgs false
namespace Go.Por.StEq
open Go Go.RowKit
section
variable {P : Program} {d : Nat} {xs ys : Array Value} {f : Field} {fs : List Field} {a b : Value} {r s : Bool} {w : World}
theorem eqf_cons (hn : (f.name == "_") = false) (ha : (part f.type xs f.offset).run P w = .ok a w) (hb : (part f.type ys f.offset).run P w = .ok b w) (he : (Op.equalIn d f.type a b).run P w = .ok r w) (hr : (Op.eqFields d xs ys fs).run P w = .ok s w) : (Op.eqFields d xs ys (f :: fs)).run P w = .ok (r && s) w := by
  have h1 : f.name ≠ "_" := by simpa using hn
  rw [Op.eqFields]
  simp only [if_pos h1, Sem.run_bind, ha, hb, he, Result.andThen_ok]
  cases r
  · simp
  · simpa using hr
theorem eqf_last (hn : (f.name == "_") = false) (ha : (part f.type xs f.offset).run P w = .ok a w) (hb : (part f.type ys f.offset).run P w = .ok b w) (he : (Op.equalIn d f.type a b).run P w = .ok r w) : (Op.eqFields d xs ys [f]).run P w = .ok r w := by
  have h := eqf_cons hn ha hb he (fs := []) (s := true) (by simp [Op.eqFields])
  rwa [Bool.and_true] at h
theorem eqA_of {t : TypeId} {fs : Array Field} (hu : P.underlying t = some (.struct fs)) (hp : P.stoodInHeld t = false) (h : (Op.eqFields d xs ys fs.toList).run P w = .ok r w) : (Op.equalIn (d + 1) t (.agg xs) (.agg ys)).run P w = .ok r w := by
  have e : P.fieldsOf t = fs := by simp [Program.fieldsOf, hu]
  rw [run_equalIn_struct (P := P) w d t xs ys (by rw [e]; exact hu) hp, e]
  exact h
end
end Go.Por.StEq
end
section
set_option linter.unusedVariables false
set_option linter.unusedSimpArgs false
namespace Go.Por
open Go.RowKit Go.ChangeShapes Go.WideShapes Go.Deep

section
variable {α : Type} {c : Nat} {R : World → List Value → α → Prop} {w w' : World} {v : Value} {xs : List α}
/-- A slice whose elements (c cells each) hold these things. -/
def SliceIs (c : Nat) (R : World → List Value → α → Prop) (w : World) (v : Value) (xs : List α) : Prop :=
  ∃ (ao : Option Addr) (cap : Nat), v = .slice ao xs.length cap ∧ xs.length ≤ 9223372036854775807 ∧
    ∀ i x, xs[i]? = some x → ∃ b o cs, ao = some ⟨b, o, none⟩ ∧ cs.length = c ∧ (∀ j u, cs[j]? = some u → w.cell? ⟨b, o + i * c + j, none⟩ = some u) ∧ R w cs x

end

end Go.Por
end
section
set_option linter.unusedVariables false
set_option linter.unusedSimpArgs false
namespace Go.Por
open Go Go.RowKit

theorem at_drop {α : Type} {l : List α} {i : Nat} {o : α} {r : List α} (h : l.drop i = o :: r) : l.toArray[i]? = some o := by
  have := congrArg (fun q => q[0]?) h
  simpa using this
section
variable {P : Program} {l : List Oper} {Q : Exit → Act → World → Prop} {md : Region.Mode} {S : World → Prop} {fuel : Nat} {listed : Array Bool} {a : Act} {w : World}

theorem takeD {i : Nat} {oi : Oper} {r : List Oper} {v : Value} (hi : l.drop i = oi :: r) (hs : Region.noSelect l.toArray = true) (hf : Region.free md l.toArray listed i = true) (hr : (Region.ready md l.toArray listed).contains i = true)
    (hQ : ∀ c a w, Q (.panic c) (a.put oi.dst v) w → Q (.panic c) a w) (hS : S w) (hy : YieldsIf P l.toArray S oi v a)
    (h : wpAnyH P md l.toArray Q S fuel (listed.setIfInBounds i true) (a.put oi.dst v) w) : wpAnyH P md l.toArray Q S (fuel + 1) listed a w :=
  wpAnyH_take (at_drop hi) hs hf hr hQ hy hS h
theorem consD {i : Nat} {o : Oper} {r : List Oper} {rs : List Nat} (hi : l.drop i = o :: r)
    (h : ∀ K' : Act → World → Prop, Shut (∀ a w, S w → (S w → wpAnyH P md l.toArray Q S fuel (listed.setIfInBounds i true) a w) → K' a w) → if Region.wanted o (yielded l.toArray a.tmps) = true then Oper.wp P o a w K' Q else K' (a.put o.dst undef) w)
    (hs : AllReadyH P md l.toArray Q S fuel listed a w rs) : AllReadyH P md l.toArray Q S fuel listed a w (i :: rs) := AllReadyH.cons (at_drop hi) h hs

end
end Go.Por
end
section
set_option linter.unusedVariables false
set_option linter.unusedSimpArgs false
namespace Go.Por.Stab
open Go.Sort

variable {α : Type} {lt : α → α → Bool}
/-- Neither stands ahead of the other. -/
def eqv (lt : α → α → Bool) (x y : α) : Bool := !lt x y && !lt y x
/-- Of each class the same, in the same order. -/
def Stab (lt : α → α → Bool) (l l' : List α) : Prop := ∀ x, l'.filter (eqv lt x) = l.filter (eqv lt x)

theorem Stab.refl (l : List α) : Stab lt l l := fun _ => rfl
theorem Stab.symm {a b : List α} (h : Stab lt a b) : Stab lt b a := fun x => (h x).symm
theorem Stab.trans {a b c : List α} (h : Stab lt a b) (k : Stab lt b c) : Stab lt a c := fun x => (k x).trans (h x)
end Go.Por.Stab
end
section
set_option linter.unusedVariables false
set_option linter.unusedSimpArgs false
namespace Go.Por
open Go Go.RowKit
section
variable {α : Type} {f : α → List Value} {c : Nat} {w : World} {E : TypeId} {g n cap : Nat} {l : List α}
theorem OwnS.range (hc : ∀ x, (f x).length = c) (h : OwnS f c w E (.slice (some ⟨g, 0, none⟩) n cap) l) {i : Nat} {x : α} (hx : l[i]? = some x) : w.rangeAt g (i * c) (f x) := by
  intro j v hv
  obtain ⟨cur, h1, h2, h3, rfl, h4, _⟩ := h.block
  have hj : j < c := by rw [← hc x]; exact (List.getElem?_eq_some_iff.1 hv).1
  have hi := (List.getElem?_eq_some_iff.1 hx).1
  refine cell_of h1 ?_
  rw [← Array.getElem?_toList]
  have e := flat_at hc l i j hj
  rw [hx] at e
  have hlt : i * c + j < l.length * c := by
    have := Nat.mul_le_mul_right c (show i + 1 ≤ l.length from hi)
    rw [Nat.add_mul, Nat.one_mul] at this
    omega
  have h5 := congrArg (fun q => q[i * c + j]?) h3
  simp only [List.getElem?_take, hlt, if_true] at h5
  rw [h5, e]
  exact hv
end
end Go.Por
end
section
set_option linter.unusedVariables false
set_option linter.unusedSimpArgs false
namespace Go.Por
open Go.RowKit

/-- Of a slice type: its elements' cells. -/
structure Elem {α : Type} (P : Program) (t E : TypeId) (f : α → List Value) (c bytes : Nat) : Prop where
  und : P.underlying t = some (.slice E)
  info : ∃ i z, P.info? E = some i ∧ i.zero = some z ∧ i.size = c ∧ i.bytes = bytes ∧ z.cells.size = c
  len : ∀ x, (f x).length = c
  one : ∀ x, ∀ u ∈ f x, u.oneCell' = true
  pos : 0 < c
theorem Elem.mk' {α : Type} {P : Program} {t E : TypeId} {f : α → List Value} {c bytes : Nat} {z : Value} (hu : P.underlying t = some (.slice E)) (hi : (P.info? E).map (fun i => (i.zero, i.size, i.bytes)) = some (some z, c, bytes)) (hz : z.cells.size = c)
    (hl : ∀ x, (f x).length = c) (h1 : ∀ x, ∀ u ∈ f x, u.oneCell' = true) (hp : 0 < c) : Elem P t E f c bytes := by
  obtain ⟨i, hi, h2, h3, h4⟩ := info_parts hi
  exact ⟨hu, ⟨i, z, hi, h2, h3, h4, hz⟩, hl, h1, hp⟩
theorem block_cells {w : World} {b : Nat} {cs : List Value} {t : TypeId} (h : w.heap[b]? = some (.cells cs.toArray t (0, 0))) : ∀ j u, cs[j]? = some u → w.cell? ((⟨b, 0, none⟩ : Addr).add j) = some u := fun j u hu => by
  have e : (⟨b, 0, none⟩ : Addr).add j = ⟨b, j, none⟩ := by
    unfold Addr.add
    split
    · rename_i e; rw [e]
    · rw [Nat.zero_add]
  rw [e]
  exact cell_of h (by simpa using hu)
section
variable {α : Type} {P : Program} {t E : TypeId} {f : α → List Value} {c bytes : Nat} {w : World} {v : Value} {l : List α}
theorem run_push (H : Elem P t E f c bytes) (ty : TypeId) (hown : OwnS f c w E v l) {B : Nat} {x : α} (hB : w.heap[B]? = some (.cells (f x).toArray E (0, 0))) (hb : (l.length + 1) * bytes ≤ 140737488355328) (h63 : l.length + 1 ≤ maxLen) :
    ∃ v' w', (Builtin.append_ #[t, t] ty #[v, .slice (some ⟨B, 0, none⟩) 1 1]).run P w = .ok v' w' ∧ OwnS f c w' E v' (l ++ [x]) ∧ Mod (fun k => some k = v.ownBlock) w w' ∧ ∀ k, v'.ownBlock = some k → v.ownBlock = some k ∨ w.heap.size ≤ k := by
  obtain ⟨i, z, hi, hz, hs, hby, hzc⟩ := H.info
  obtain ⟨v', w', hr, h2, h3, h4⟩ := run_append_own2 (P := P) w 0 t ty E i z c bytes H.und hi hz hs hby hzc H.pos v l.length (l.flatMap f) hown ⟨B, 0, none⟩ 1 1 (f x) (by rw [H.len, Nat.one_mul]) (block_cells hB) (H.one x) h63 hb (Nat.zero_le _)
  refine ⟨v', w', hr, ?_, Mod.of_grown h3, h4⟩
  unfold OwnS
  rw [List.length_append, List.flatMap_append]
  simpa using h2
theorem wpList_push {ops : Array Oper} {rest : List Oper} {o : Oper} {a : Act} {Q : Exit → Act → World → Prop} (H : Elem P t E f c bytes) (hgd : o.guard = none) (s x0 : Operand)
    (ho : o.op = .call { callee := .builtin .append, args := #[s, x0], argTypes := #[t, t] }) (hs : a.eval s = v) (hown : OwnS f c w E v l) (B : Nat) (x : α) (hx : a.eval x0 = .slice (some ⟨B, 0, none⟩) 1 1)
    (hB : w.heap[B]? = some (.cells (f x).toArray E (0, 0))) (hb : (l.length + 1) * bytes ≤ 140737488355328) (h63 : l.length + 1 ≤ maxLen)
    (h : ∀ v' w', OwnS f c w' E v' (l ++ [x]) → Mod (fun k => some k = v.ownBlock) w w' → (∀ k, v'.ownBlock = some k → v.ownBlock = some k ∨ w.heap.size ≤ k) → wpList P ops Q rest (a.put o.dst v') w') : wpList P ops Q (o :: rest) a w := by
  refine wpList_plain hgd fun K' hK' => ?_
  obtain ⟨v', w', hr, h2, h3, h4⟩ := run_push H o.type hown hB hb h63
  unfold Oper.wp execOp
  simp only [ho, resolve, invoke, builtin, Sem.run_bind, Sem.run_pure, Result.andThen_ok, List.map_toArray, List.map_cons, List.map_nil, hs, hx, hr]
  exact hK' _ _ (h v' w' h2 h3 h4)
/-- The slice is l, whoever's it is. -/
def ReadS (f : α → List Value) (c : Nat) (w : World) (v : Value) (l : List α) : Prop := SliceIs c (fun _ cs x => cs = f x) w v l
theorem ReadS.form (h : ReadS f c w v l) : ∃ ao cap, v = .slice ao l.length cap ∧ l.length ≤ 9223372036854775807 := by
  obtain ⟨ao, cap, h1, h2, _⟩ := h
  exact ⟨ao, cap, h1, h2⟩
/-- An element, and where it lies. -/
theorem ReadS.at {ao : Option Addr} {n cap : Nat} (h : ReadS f c w (.slice ao n cap) l) {i : Nat} {x : α} (hx : l[i]? = some x) : ∃ b o, ao = some ⟨b, o, none⟩ ∧ w.rangeAt b (o + i * c) (f x) := by
  obtain ⟨ao', cap', h1, _, h2⟩ := h
  obtain ⟨b, o, cs, e, hl, hc, rfl⟩ := h2 i x hx
  simp only [Value.slice.injEq] at h1
  exact ⟨b, o, h1.1.trans e, fun j u hu => hc j u hu⟩
theorem ReadS.lt {ao : Option Addr} {n cap : Nat} (h : ReadS f c w (.slice ao n cap) l) (hc : 0 < c) (hl : ∀ x, (f x).length = c) {i : Nat} {x : α} (hx : l[i]? = some x) : ∃ b o, ao = some ⟨b, o, none⟩ ∧ w.rangeAt b (o + i * c) (f x) ∧ b < w.heap.size := by
  obtain ⟨b, o, h1, h2⟩ := h.at hx
  obtain ⟨u, hu⟩ : ∃ u, (f x)[0]? = some u := ⟨_, List.getElem?_eq_getElem (by rw [hl]; exact hc)⟩
  exact ⟨b, o, h1, h2, World.block_lt_of_cell? w ⟨b, _, none⟩ (h2 0 u hu)⟩
theorem range_below {w w' : World} {b o : Nat} {cs : List Value} {B : Nat} (h : w.rangeAt b o cs) (hb : Below B w w') (hlt : b < B) : w'.rangeAt b o cs := fun j u hu => by
  rw [hb.cell (p := ⟨b, _, none⟩) hlt]
  exact h j u hu
theorem ReadS.mod {S : Nat → Prop} {w' : World} (h : ReadS f c w v l) (hc : 0 < c) (hl : ∀ x, (f x).length = c) (hm : Mod S w w') (hn : ∀ k, v.ownBlock = some k → ¬ S k) : ReadS f c w' v l := by
  obtain ⟨ao, cap, rfl, h1, h2⟩ := h
  refine ⟨ao, cap, rfl, h1, fun i x hx => ?_⟩
  obtain ⟨b, o, cs, rfl, hlc, hcell, rfl⟩ := h2 i x hx
  refine ⟨b, o, _, rfl, hlc, fun j u hu => ?_, rfl⟩
  have h3 := hcell j u hu
  rw [hm.cell (p := ⟨b, _, none⟩) (World.block_lt_of_cell? w ⟨b, _, none⟩ h3) (hn b rfl)]
  exact h3
theorem OwnS.read (hl : ∀ x, (f x).length = c) (h : OwnS f c w E v l) : ReadS f c w v l := by
  rcases h.form with ⟨rfl, rfl⟩ | ⟨g, cap, rfl, hc1, hc2⟩
  · exact ⟨none, 0, rfl, Nat.zero_le _, by simp⟩
  · refine ⟨some ⟨g, 0, none⟩, cap, rfl, by unfold maxLen at hc2; omega, fun i x hx => ⟨g, 0, f x, rfl, hl x, fun j u hu => ?_, rfl⟩⟩
    have := OwnS.range hl h hx j u hu
    rwa [Nat.zero_add]
end
end Go.Por
end
section
set_option linter.unusedVariables false
set_option linter.unusedSimpArgs false
namespace Go.Por
open Go.RowKit
/-- '==' of two whole structs, in a region that draws. -/
theorem yields_eqS {P : Program} {l : List Oper} {S : World → Prop} {a : Act} {op : Oper} (hw : Region.wanted op (yielded l.toArray a.tmps) = true) (t : TypeId) (x y : Operand) (ty : TypeId) (ho : op.op = .binOp .eql t x y ty) (xs ys : Array Value)
    (hx : a.eval x = .agg xs) (hy : a.eval y = .agg ys) (hg : P.eqGuardType P.depth t = false) (r : Bool) (he : ∀ w, (Op.equal t (.agg xs) (.agg ys)).run P w = .ok r w) : YieldsIf P l.toArray S op (.bool r) a :=
  .inl ⟨hw, fun w _ => by
    unfold execOp
    simp [ho, hx, hy, Sem.run_bind, run_eqGuard_agg w .eql t x y xs ys hg, binOp, he, Result.andThen]⟩
end Go.Por
namespace Go.Proofs.YtojjnfhgldjgbaaGreatDoor.Watch
open Go.RowKit Go.Por Go.Sort Go.Por.StEq

/-- A mutation: is it taken away? the tuple. -/
abbrev Mut := Bool × Tup
def mutC (x : Mut) : List Value := [.bool x.1, .string x.2.1, .string x.2.2.1, .string x.2.2.2]
/-- A row: the tuple; since, until. -/
abbrev RowT := Tup × Int × Int
def rowC (x : RowT) : List Value := [.string x.1.1, .string x.1.2.1, .string x.1.2.2, .int .i64 x.2.1, .int .i64 x.2.2]
def tle (x y : Tup) : Bool := !(ltOf tcmp) y x
theorem aggTup : ∀ w, (isAgg 41).run Tryz.prog w = .ok true w := fun w => by kernel_rfl
theorem sizeTup : ∀ w, (Go.sizeOf 41).run Tryz.prog w = .ok 3 w := fun w => by kernel_rfl
theorem tupC_one (x : Tup) : ∀ v ∈ tupC x, v.oneCell' = true := by
  intro v hv
  simp only [tupC, List.mem_cons, List.not_mem_nil, or_false] at hv
  rcases hv with rfl | rfl | rfl <;> rfl
theorem infoTup0 : (Tryz.prog.info? 41).map (·.size) = some 3 := by kernel_rfl
theorem infoMut0 : (Tryz.prog.info? 47).map (·.size) = some 4 := by kernel_rfl
theorem infoRow0 : (Tryz.prog.info? 63).map (·.size) = some 5 := by kernel_rfl
theorem rowC_len' (x : RowT) : (rowC x).length = 5 := rfl
theorem rowC_ones (x : RowT) : ∀ u ∈ rowC x, u.oneCell' = true := by
  intro v hv
  simp only [rowC, List.mem_cons, List.not_mem_nil, or_false] at hv
  rcases hv with rfl | rfl | rfl | rfl | rfl <;> rfl
theorem elemRow : Elem Tryz.prog 24 63 rowC 5 64 :=
  Elem.mk' (z := .agg #[.string ByteArray.empty, .string ByteArray.empty, .string ByteArray.empty, .int .i64 0, .int .i64 0]) Tryz.underlying24 (by kernel_rfl) rfl rowC_len' rowC_ones (by decide)
theorem elemTup : Elem Tryz.prog 34 41 tupC 3 48 :=
  Elem.mk' (z := .agg #[.string ByteArray.empty, .string ByteArray.empty, .string ByteArray.empty]) Tryz.underlying34 (by kernel_rfl) rfl tupC_len tupC_one (by decide)
theorem own_ne {α : Type} {f : α → List Value} {c : Nat} {w : World} {E t : TypeId} {v : Value} {l : List α} {O : Nat} {cs : Array Value} (h : OwnS f c w E v l) (hO : w.heap[O]? = some (.cells cs t (0, 0))) (ht : E ≠ t) : v.ownBlock ≠ some O := by
  rcases h.form with ⟨rfl, _⟩ | ⟨g, cap, rfl, _, _⟩
  · simp [Value.ownBlock]
  · obtain ⟨cur, h1, _⟩ := h.block
    intro e
    simp only [Value.ownBlock, Option.some.injEq] at e
    subst e
    rw [h1] at hO
    simp only [Option.some.injEq, Obj.cells.injEq] at hO
    exact ht hO.2.1
theorem bytes_beq (a b : ByteArray) : (a.toList == b.toList) = decide (a = b) := by
  by_cases h : a = b
  · rw [beq_yes h, decide_eq_true h]
  · rw [beq_no h, decide_eq_false h]
theorem eqTupIn (d : Nat) (w : World) (x y : Tup) : (Op.equalIn (d + 2) 41 (.agg (tupC x).toArray) (.agg (tupC y).toArray)).run Tryz.prog w = .ok (decide (x = y)) w := by
  obtain ⟨x0, x1, x2⟩ := x
  obtain ⟨y0, y1, y2⟩ := y
  have h : (Op.equalIn (d + 2) 41 (.agg (tupC (x0, x1, x2)).toArray) (.agg (tupC (y0, y1, y2)).toArray)).run Tryz.prog w = .ok (x0.toList == y0.toList && (x1.toList == y1.toList && (x2.toList == y2.toList))) w := by
    unfold tupC
    refine eqA_of Tryz.underlying41 (by kernel_rfl) ?_
    refine eqf_cons (by rfl) (by go_simp; rfl) (by go_simp; rfl) (by go_simp) ?_
    refine eqf_cons (by rfl) (by go_simp; rfl) (by go_simp; rfl) (by go_simp) ?_
    exact eqf_last (by rfl) (by go_simp; rfl) (by go_simp; rfl) (by go_simp)
  rw [h]
  have e : (x0.toList == y0.toList && (x1.toList == y1.toList && (x2.toList == y2.toList))) = decide ((x0, x1, x2) = (y0, y1, y2)) := by
    simp only [bytes_beq]
    rw [Bool.eq_iff_iff]
    simp
  rw [e]
theorem eqTup (x y : Tup) (w : World) : (Op.equal 41 (.agg (tupC x).toArray) (.agg (tupC y).toArray)).run Tryz.prog w = .ok (decide (x = y)) w := eqTupIn 9998 w x y
theorem mutC_len (x : Mut) : (mutC x).length = 4 := rfl
theorem ba_beq_self (s : ByteArray) : (s == s) = true := by
  obtain ⟨d⟩ := s
  show (d == d) = true
  simp
def encT (x : Tup) : Value := .agg (tupC x).toArray
theorem encT_inj {a b : Tup} (h : encT a = encT b) : a = b := by
  obtain ⟨a0, a1, a2⟩ := a
  obtain ⟨b0, b1, b2⟩ := b
  simp only [encT, tupC, Value.agg.injEq, List.toArray_eq_iff, List.cons.injEq, Value.string.injEq, and_true] at h
  simp [h]
theorem tup_check (w : World) (em : Bool) (k : Tup) : (Instr.checkKey em 10000 41 (encT k)).run Tryz.prog w = .ok () w := by
  obtain ⟨k0, k1, k2⟩ := k
  have hs : ∀ (s : ByteArray), (Instr.checkKey em 9999 9 (.string s)).run Tryz.prog w = .ok () w := fun s => Go.MapKept.run_checkKey (d := .string) Tryz.underlying9 (by simp [Go.MapKept.IsKey]) em 9998
  show (Instr.checkKey em (9999 + 1) 41 (.agg #[.string k0, .string k1, .string k2])).run Tryz.prog w = .ok () w
  unfold Instr.checkKey
  simp only [Sem.run_bind, run_underlying Tryz.underlying41, Result.andThen_ok]
  have p0 : (part 9 #[.string k0, .string k1, .string k2] 0).run Tryz.prog w = .ok (.string k0) w := by go_simp
  have p1 : (part 9 #[.string k0, .string k1, .string k2] 1).run Tryz.prog w = .ok (.string k1) w := by go_simp
  have p2 : (part 9 #[.string k0, .string k1, .string k2] 2).run Tryz.prog w = .ok (.string k2) w := by go_simp
  simp [p0, p1, p2, hs, Result.andThen]
theorem tup_asking (w : World) (k : Tup) : ∀ (es : List MapEntry) (i : Nat), (∀ e ∈ es, ∃ k', e.key = encT k') →
    ((Instr.findAsking 41 (encT k) es i).run Tryz.prog w = .ok none w ∧ ∀ e ∈ es, e.key ≠ encT k) ∨ ∃ j e, (Instr.findAsking 41 (encT k) es i).run Tryz.prog w = .ok (some (i + j, e.val)) w ∧ es[j]? = some e ∧ e.key = encT k
  | [], i, _ => .inl ⟨by simp [Instr.findAsking], by simp⟩
  | e :: es, i, hall => by
    obtain ⟨l, hl⟩ := hall e (by simp)
    have hr := eqTup k l w
    by_cases he : k = l
    · rw [decide_eq_true he] at hr
      right
      refine ⟨0, e, ?_, rfl, by rw [hl, he]⟩
      rw [Instr.findAsking, hl]
      have hr' : (Op.equal 41 (encT k) (encT l)).run Tryz.prog w = .ok true w := hr
      simp only [Sem.run_bind, hr', Result.andThen_ok, if_true, Sem.run_pure, Nat.add_zero]
    · rw [decide_eq_false he] at hr
      have hr' : (Op.equal 41 (encT k) (encT l)).run Tryz.prog w = .ok false w := hr
      have hne : e.key ≠ encT k := fun h => he (encT_inj (h.symm.trans hl))
      have hstep : (Instr.findAsking 41 (encT k) (e :: es) i).run Tryz.prog w = (Instr.findAsking 41 (encT k) es (i + 1)).run Tryz.prog w := by
        rw [Instr.findAsking, hl]
        simp only [Sem.run_bind, hr', Result.andThen_ok, Bool.false_eq_true, if_false]
      rw [hstep]
      rcases tup_asking w k es (i + 1) (fun y hy => hall y (by simp [hy])) with ⟨h1, h2⟩ | ⟨j, e', h1, h2, h3⟩
      · exact .inl ⟨h1, fun y hy => by
          rcases List.mem_cons.1 hy with rfl | hy
          · exact hne
          · exact h2 y hy⟩
      · exact .inr ⟨j + 1, e', by rw [h1, Nat.add_assoc, Nat.add_comm 1 j], by simpa using h2, h3⟩
theorem keyTup : KeyOK Tryz.prog 41 Tup encT where
  inj := encT_inj
  check := tup_check
  find w k es hes := by
    rw [run_findKey_eq (P := Tryz.prog) (w := w) (k := 41) (by kernel_rfl) (encT k) es]
    rcases tup_asking w k es 0 hes with h | ⟨j, e, h1, h2, h3⟩
    · exact .inl h
    · exact .inr ⟨j, e, by rw [h1, Nat.zero_add], h2, h3⟩
  stays w k := by
    obtain ⟨k0, k1, k2⟩ := k
    have hb : ∀ s : ByteArray, (s == s) = true := fun s => ba_beq_self s
    have : Instr.sameBits 10000 (encT (k0, k1, k2)) (encT (k0, k1, k2)) = true := by simp [encT, tupC, Instr.sameBits, hb]
    simp [Instr.keyThatStays, this]
/-- Is it among them? -/
def tin (x : Tup) (l : List Tup) : Bool := l.any (fun y => decide (x = y))
theorem tin_iff {x : Tup} {l : List Tup} : tin x l = true ↔ x ∈ l := by
  unfold tin
  rw [List.any_eq_true]
  constructor
  · rintro ⟨y, hy, e⟩
    rw [of_decide_eq_true e]; exact hy
  · intro h
    exact ⟨x, h, decide_eq_true rfl⟩
theorem tin_no {x : Tup} {l : List Tup} (h : x ∉ l) : tin x l = false := by
  cases hh : tin x l with
  | false => rfl
  | true => exact absurd (tin_iff.1 hh) h
set_option maxRecDepth 100000 in
set_option maxHeartbeats 1600000 in
theorem index_any {w : World} {v : Value} {l : List Tup} (x : Tup) (h : ReadS tupC 3 w v l) :
    Calls Tryz.prog 85 #[v, .agg (tupC x).toArray] w fun e w' => (∃ r : Int, e = .returned (.int .i64 r) ∧ (decide (0 ≤ r) = tin x l)) ∧ Below w.heap.size w w' := by
  obtain ⟨ao, cap, rfl, hl⟩ := h.form
  obtain ⟨n, hn⟩ : ∃ n, l.length = n := ⟨_, rfl⟩
  obtain ⟨X, hX⟩ : ∃ X, w.heap.size = X := ⟨_, rfl⟩
  rw [hn] at h hl ⊢
  have HH := Lib.hid (And.intro h hn)
  clear h
  obtain ⟨x0, x1, x2⟩ := x
  unfold tupC
  go_enter Tryz.func85, Tryz.ntmps85
  go_wp2
  have hXb := block_new w (.cells #[.string x0, .string x1, .string x2] 41)
  rw [hX] at hXb
  have hb1 := (Below.refl X w).alloc (by omega) (.cells #[.string x0, .string x1, .string x2] 41)
  have hs1 : X < (w.alloc (.cells #[.string x0, .string x1, .string x2] 41)).heap.size := by simp; omega
  generalize hW1 : w.alloc (.cells #[.string x0, .string x1, .string x2] 41) = W1 at *
  have HW := Lib.hid (And.intro hXb (And.intro hb1 hs1))
  clear hXb hb1 hs1 hW1
  go_loopg [8] n (fun gg vi wx => ∃ t : Nat, t + gg = n ∧ vi = .int .i64 (t : Int) ∧ (x0, x1, x2) ∉ l.take t ∧ Mod (fun _ => False) W1 wx)
  case atStart => exact ⟨0, by omega, rfl, by simp, Mod.refl _ _⟩
  case round =>
    obtain ⟨t, htg, rfl, hno, hmod⟩ := hrel
    have HI := Lib.hid (And.intro htg (And.intro hno hmod))
    by_cases hc : t < n
    · obtain ⟨g1, g2⟩ := HH.out
      have hci : (t : Int) < (n : Int) := by omega
      have ht0 : (0 : Int) ≤ (t : Int) := by omega
      have htb : (t : Int) < 9223372036854775807 := by omega
      have k6 : IntKind.i64.wrap (t : Int) = (t : Int) := by simp [IntKind.wrap, IntKind.bits, IntKind.signed]; omega
      obtain ⟨y, hy⟩ : ∃ y, l[t]? = some y := ⟨_, List.getElem?_eq_getElem (by omega)⟩
      obtain ⟨b, o, rfl, r1, lt1⟩ := g1.lt (by decide) tupC_len hy
      have hbW : b < X := by omega
      have r2 : wr.drew.rangeAt b (o + t * 3) (tupC y) := range_below (range_below r1 HW.out.2.1 hbW) (hmod.drew.to_below (B := W1.heap.size) (Nat.le_refl _) (fun _ h => h.elim)) (by have := HW.out.2.2; omega)
      have rX : wr.drew.rangeAt X 0 (tupC (x0, x1, x2)) := fun j u hu => cell_of (hmod.drew.old HW.out.1 (fun h => h)) (by simpa [tupC] using hu)
      obtain ⟨cy, hcy⟩ : ∃ cy, tupC y = cy := ⟨_, rfl⟩
      obtain ⟨cx, hcx⟩ : ∃ cx, tupC (x0, x1, x2) = cx := ⟨_, rfl⟩
      have hy3 : cy.length = 3 := by rw [← hcy]; rfl
      have hx3 : cx.length = 3 := by rw [← hcx]; rfl
      obtain ⟨bb, hbb⟩ : ∃ bb, decide ((x0, x1, x2) = y) = bb := ⟨_, rfl⟩
      have hq : ∀ w, (Op.equal 41 (.agg cx.toArray) (.agg cy.toArray)).run Tryz.prog w = .ok bb w := fun w => by
        rw [← hcx, ← hcy, ← hbb]
        exact eqTup (x0, x1, x2) y w
      rw [hcy] at r2
      rw [hcx] at rX
      have hbl : b < wr.drew.heap.size := by have := hmod.size; have := HW.out.2.2; show b < wr.heap.size; omega
      have hXl : X < wr.drew.heap.size := by have := hmod.size; have := HW.out.2.2; show X < wr.heap.size; omega
      have HQ := Lib.hid hq
      have HX := Lib.hid (And.intro hx3 (And.intro hy3 (And.intro rX (And.intro hXl (And.intro r2 (And.intro hbl hbb))))))
      have HE := Lib.hid (And.intro hy hc)
      clear g1 g2 hy r1 r2 rX lt1 hcy hcx hx3 hy3 hbb hq htg hno hmod hc hbW hbl hXl
      go_wp2_with fail
      refine wp_region_held_drew (S := fun w' => Gr wr.drew w') (by kernel_rfl) (Gr.refl _) (fun hS => ?_)
      refine takeD (i := 0) rfl (by kernel_rfl) (by kernel_rfl) (by kernel_rfl) (fun _ _ _ h => h) hS (yieldsIf_load_mid (by rfl) 41 (.tmp 3) rfl X 0 rfl cx _ (fun w hSw => range_below HX.out.2.2.1 hSw.below HX.out.2.2.2.1) Tryz.underlying41 rfl (by rw [HX.out.1]; exact infoTup0)) ?_
      simp only [Act.put, List.setIfInBounds_toArray, List.set_cons_zero, List.set_cons_succ]
      refine takeD (i := 1) rfl (by kernel_rfl) (by kernel_rfl) (by kernel_rfl) (fun _ _ _ h => h) hS (Or.inl ⟨by rfl, fun w hSw => by go_simp; rfl⟩) ?_
      simp only [Act.put, List.setIfInBounds_toArray, List.set_cons_zero, List.set_cons_succ]
      refine takeD (i := 2) rfl (by kernel_rfl) (by kernel_rfl) (by kernel_rfl) (fun _ _ _ h => h) hS (Or.inl ⟨by rfl, fun w hSw => by go_simp; rfl⟩) ?_
      simp only [Act.put, List.setIfInBounds_toArray, List.set_cons_zero, List.set_cons_succ]
      refine takeD (i := 3) rfl (by kernel_rfl) (by kernel_rfl) (by kernel_rfl) (fun _ _ _ h => h) hS (Or.inl ⟨by rfl, fun w hSw => by go_simp; rfl⟩) ?_
      simp only [Act.put, List.setIfInBounds_toArray, List.set_cons_zero, List.set_cons_succ]
      refine takeD (i := 4) rfl (by kernel_rfl) (by kernel_rfl) (by kernel_rfl) (fun _ _ _ h => h) hS (yieldsIf_load_mid (by rfl) 41 (.tmp 14) rfl b (o + t * 3) rfl cy _ (fun w hSw => range_below HX.out.2.2.2.2.1 hSw.below HX.out.2.2.2.2.2.1) Tryz.underlying41 rfl (by rw [HX.out.2.1]; exact infoTup0)) ?_
      simp only [Act.put, List.setIfInBounds_toArray, List.set_cons_zero, List.set_cons_succ]
      refine takeD (i := 5) rfl (by kernel_rfl) (by kernel_rfl) (by kernel_rfl) (fun _ _ _ h => h) hS (yields_eqS (by rfl) 41 (.tmp 11) (.tmp 15) _ rfl cx.toArray cy.toArray rfl rfl (by kernel_rfl) bb HQ.out) ?_
      simp only [Act.put, List.setIfInBounds_toArray, List.set_cons_zero, List.set_cons_succ]
      refine wpAnyH_done (by kernel_rfl) ?_ _
      clear hS
      cases bb with
      | false =>
        go_wp2
        go_roundg (gk - 1)
        case measure => have h1 := HI.out; have h2 := HE.out; omega
        case rel =>
          obtain ⟨i1, i2, i3⟩ := HI.out
          obtain ⟨e1, e2⟩ := HE.out
          have hxy := of_decide_eq_false HX.out.2.2.2.2.2.2
          exact ⟨t + 1, by omega, by go_num, by rw [List.take_add_one, e1]; intro h; rcases List.mem_append.1 h with h | h; exact i2 h; exact hxy (List.mem_singleton.1 h), i3.drew⟩
      | true =>
        go_wp2
        go_ret
        obtain ⟨i1, i2, i3⟩ := HI.out
        obtain ⟨e1, e2⟩ := HE.out
        have hxy := of_decide_eq_true HX.out.2.2.2.2.2.2
        refine ⟨⟨(t : Int), rfl, ?_⟩, by (try rw [hX]); exact HW.out.2.1.trans (i3.drew.to_below (by have := HW.out.2.2; omega) (fun _ h => h.elim))⟩
        rw [decide_eq_true (by omega), tin_iff.2 (by rw [hxy]; exact List.mem_of_getElem? e1)]
    · have hci : ¬ (t : Int) < (n : Int) := by omega
      have HE := Lib.hid hc
      clear htg hno hmod hc
      go_wp2
      go_ret
      obtain ⟨i1, i2, i3⟩ := HI.out
      obtain ⟨g1, g2⟩ := HH.out
      have hcc := HE.out
      rw [List.take_of_length_le (by omega)] at i2
      refine ⟨⟨-1, rfl, ?_⟩, by (try rw [hX]); exact HW.out.2.1.trans (i3.to_below (by have := HW.out.2.2; omega) (fun _ h => h.elim))⟩
      rw [decide_eq_false (by omega), tin_no i2]
set_option maxRecDepth 100000 in
set_option maxHeartbeats 1600000 in
theorem contains_any {w : World} {v : Value} {l : List Tup} (x : Tup) (h : ReadS tupC 3 w v l) :
    Calls Tryz.prog 54 #[v, .agg (tupC x).toArray] w fun e w' => e = .returned (.bool (tin x l)) ∧ Below w.heap.size w w' := by
  obtain ⟨ao, cap, rfl, hl⟩ := h.form
  obtain ⟨n, hn⟩ : ∃ n, l.length = n := ⟨_, rfl⟩
  rw [hn] at h ⊢
  obtain ⟨x0, x1, x2⟩ := x
  have hcall : ∀ W : World, ReadS tupC 3 W (.slice ao n cap) l → Calls Tryz.prog 85 #[.slice ao n cap, .agg #[.string x0, .string x1, .string x2]] W fun e w' => (∃ r : Int, e = .returned (.int .i64 r) ∧ (decide (0 ≤ r) = tin (x0, x1, x2) l)) ∧ Below W.heap.size W w' := fun W hW => index_any (x0, x1, x2) hW
  have hr1 := h.mod (S := fun _ => False) (by decide) tupC_len ((Mod.refl _ w).alloc (.cells #[.string x0, .string x1, .string x2] 41)) (fun _ _ h => h)
  obtain ⟨bb, hbb⟩ : ∃ bb, tin (x0, x1, x2) l = bb := ⟨_, rfl⟩
  rw [hbb] at hcall ⊢
  have HH := Lib.hid (And.intro hcall hr1)
  clear h hcall hr1 hbb
  unfold tupC
  go_enter Tryz.func54, Tryz.ntmps54
  go_wp2_with fail
  refine (HH.out.1 _ HH.out.2).mono ?_
  rintro e w2 ⟨⟨r, rfl, hr⟩, hb2⟩
  have HB := Lib.hid (And.intro hb2 hr)
  clear hb2 hr
  go_wp2
  go_ret
  obtain ⟨h1, h2⟩ := HB.out
  refine ⟨?_, ((Below.refl _ w).alloc (Nat.le_refl _) _).trans (h1.mono (by simp))⟩
  rw [← h2]
  rfl
end Go.Proofs.YtojjnfhgldjgbaaGreatDoor.Watch
end
section
set_option linter.unusedVariables false
set_option linter.unusedSimpArgs false
namespace Go.Proofs.YtojjnfhgldjgbaaGreatDoor.Watch
open Go.RowKit Go.Por Go.Sort Go.Por.StEq

abbrev PairT := ByteArray × ByteArray
def encP (x : PairT) : Value := .agg #[.string x.1, .string x.2]
theorem encP_inj {a b : PairT} (h : encP a = encP b) : a = b := by
  obtain ⟨a0, a1⟩ := a
  obtain ⟨b0, b1⟩ := b
  simp only [encP, Value.agg.injEq, List.toArray_eq_iff, Array.mk.injEq, List.cons.injEq, Value.string.injEq, and_true] at h
  rw [h.1, h.2]
theorem infoStr0 : (Tryz.prog.info? 9).isSome = true := by kernel_rfl
theorem infoStr : ∃ i, Tryz.prog.info? 9 = some i := Option.isSome_iff_exists.1 infoStr0
theorem cellsStrP : Tryz.prog.cellsOf 9 = 1 := by kernel_rfl
theorem eqPairIn (d : Nat) (w : World) (x y : PairT) : (Op.equalIn (d + 2) 107 (encP x) (encP y)).run Tryz.prog w = .ok (decide (x = y)) w := by
  obtain ⟨a, b⟩ := x
  obtain ⟨p, q⟩ := y
  obtain ⟨i, hi⟩ := infoStr
  unfold encP
  rw [run_equalIn_array (P := Tryz.prog) (w := w) (d + 1) #[.string a, .string b] #[.string p, .string q] Tryz.underlying107 hi, cellsStrP]
  have p0 : ∀ (s u : ByteArray), (part 9 #[.string s, .string u] 0).run Tryz.prog w = .ok (.string s) w := fun s u => by go_simp
  have p1 : ∀ (s u : ByteArray), (part 9 #[.string s, .string u] 1).run Tryz.prog w = .ok (.string u) w := fun s u => by go_simp
  have hs : ∀ (s u : ByteArray), (Op.equalIn (d + 1) 9 (.string s) (.string u)).run Tryz.prog w = .ok (s.toList == u.toList) w := fun s u => by go_simp
  show (Op.eqItems (d + 1) 9 1 #[.string a, .string b] #[.string p, .string q] [0, 1]).run Tryz.prog w = _
  simp only [Op.eqItems, Sem.run_bind, Nat.zero_mul, Nat.one_mul, p0, p1, hs, Result.andThen_ok]
  by_cases h0 : a = p
  · have e0 : (a.toList == p.toList) = true := beq_yes h0
    rw [if_neg (by simp [e0])]
    simp only [Sem.run_bind, p1, hs, Result.andThen_ok]
    by_cases h1 : b = q
    · have e1 : (b.toList == q.toList) = true := beq_yes h1
      rw [if_neg (by simp [e1]), decide_eq_true (by rw [h0, h1])]
      rfl
    · have e1 : (b.toList == q.toList) = false := beq_no h1
      rw [if_pos (by simp [e1]), decide_eq_false (fun e => h1 (Prod.mk.inj e).2)]
      rfl
  · have e0 : (a.toList == p.toList) = false := beq_no h0
    rw [if_pos (by simp [e0]), decide_eq_false (fun e => h0 (Prod.mk.inj e).1)]
    rfl
theorem eqPair (x y : PairT) (w : World) : (Op.equal 107 (encP x) (encP y)).run Tryz.prog w = .ok (decide (x = y)) w := eqPairIn 9998 w x y
theorem pair_check (w : World) (em : Bool) (k : PairT) : (Instr.checkKey em 10000 107 (encP k)).run Tryz.prog w = .ok () w := by
  obtain ⟨k0, k1⟩ := k
  obtain ⟨i, hi⟩ := infoStr
  have hs : ∀ (s : ByteArray), (Instr.checkKey em 9999 9 (.string s)).run Tryz.prog w = .ok () w := fun s => Go.MapKept.run_checkKey (d := .string) Tryz.underlying9 (by simp [Go.MapKept.IsKey]) em 9998
  have hz : (sizeOf 9).run Tryz.prog w = .ok 1 w := by kernel_rfl
  show (Instr.checkKey em (9999 + 1) 107 (.agg #[.string k0, .string k1])).run Tryz.prog w = .ok () w
  unfold Instr.checkKey
  have p0 : (part 9 #[.string k0, .string k1] 0).run Tryz.prog w = .ok (.string k0) w := by go_simp
  have p1 : (part 9 #[.string k0, .string k1] 1).run Tryz.prog w = .ok (.string k1) w := by go_simp
  simp only [Sem.run_bind, run_underlying Tryz.underlying107, Result.andThen_ok]
  simp [Std.Legacy.Range.forIn_eq_forIn_range', Std.Legacy.Range.size, List.range', hz, p0, p1, hs, Result.andThen]
theorem pair_asking (w : World) (k : PairT) : ∀ (es : List MapEntry) (i : Nat), (∀ e ∈ es, ∃ k', e.key = encP k') →
    ((Instr.findAsking 107 (encP k) es i).run Tryz.prog w = .ok none w ∧ ∀ e ∈ es, e.key ≠ encP k) ∨ ∃ j e, (Instr.findAsking 107 (encP k) es i).run Tryz.prog w = .ok (some (i + j, e.val)) w ∧ es[j]? = some e ∧ e.key = encP k
  | [], i, _ => .inl ⟨by simp [Instr.findAsking], by simp⟩
  | e :: es, i, hall => by
    obtain ⟨l, hl⟩ := hall e (by simp)
    have hr := eqPair k l w
    by_cases he : k = l
    · rw [decide_eq_true he] at hr
      right
      refine ⟨0, e, ?_, rfl, by rw [hl, he]⟩
      rw [Instr.findAsking, hl]
      simp only [Sem.run_bind, hr, Result.andThen_ok, if_true, Sem.run_pure, Nat.add_zero]
    · rw [decide_eq_false he] at hr
      have hne : e.key ≠ encP k := fun h => he (encP_inj (h.symm.trans hl))
      have hstep : (Instr.findAsking 107 (encP k) (e :: es) i).run Tryz.prog w = (Instr.findAsking 107 (encP k) es (i + 1)).run Tryz.prog w := by
        rw [Instr.findAsking, hl]
        simp only [Sem.run_bind, hr, Result.andThen_ok, Bool.false_eq_true, if_false]
      rw [hstep]
      rcases pair_asking w k es (i + 1) (fun y hy => hall y (by simp [hy])) with ⟨h1, h2⟩ | ⟨j, e', h1, h2, h3⟩
      · exact .inl ⟨h1, fun y hy => by
          rcases List.mem_cons.1 hy with rfl | hy
          · exact hne
          · exact h2 y hy⟩
      · exact .inr ⟨j + 1, e', by rw [h1, Nat.add_assoc, Nat.add_comm 1 j], by simpa using h2, h3⟩
theorem keyPair : KeyOK Tryz.prog 107 PairT encP where
  inj := encP_inj
  check := pair_check
  find w k es hes := by
    rw [run_findKey_eq (P := Tryz.prog) (w := w) (k := 107) (by kernel_rfl) (encP k) es]
    rcases pair_asking w k es 0 hes with h | ⟨j, e, h1, h2, h3⟩
    · exact .inl h
    · exact .inr ⟨j, e, by rw [h1, Nat.zero_add], h2, h3⟩
  stays w k := by
    obtain ⟨k0, k1⟩ := k
    have hb : ∀ s : ByteArray, (s == s) = true := fun s => ba_beq_self s
    have : Instr.sameBits 10000 (encP (k0, k1)) (encP (k0, k1)) = true := by simp [encP, Instr.sameBits, hb]
    simp [Instr.keyThatStays, this]
theorem keyStr : KeyOK Tryz.prog 9 ByteArray (fun s => .string s) := KeyOK.str Tryz.underlying9
end Go.Proofs.YtojjnfhgldjgbaaGreatDoor.Watch
end
section
set_option linter.unusedVariables false
set_option linter.unusedSimpArgs false
namespace Go.Por
theorem nodup_fst {κ β : Type} {l : List (κ × β)} (hn : (l.map Prod.fst).Nodup) {k : κ} {u v : β} (h1 : (k, u) ∈ l) (h2 : (k, v) ∈ l) : u = v := by
  induction l with
  | nil => cases h1
  | cons x r ih =>
    simp only [List.map_cons, List.nodup_cons] at hn
    rcases List.mem_cons.1 h1 with e1 | e1
    · rcases List.mem_cons.1 h2 with e2 | e2
      · rw [← e1] at e2; cases e2; rfl
      · exact absurd (List.mem_map.2 ⟨_, e2, by rw [← e1]⟩) hn.1
    · rcases List.mem_cons.1 h2 with e2 | e2
      · exact absurd (List.mem_map.2 ⟨_, e1, by rw [← e2]⟩) hn.1
      · exact ih hn.2 e1 e2
section
variable {κ β γ : Type} [DecidableEq κ]
def gfind (l : List (κ × β)) (k : κ) : Option β := (l.find? (fun e => decide (e.1 = k))).map (·.2)
def gput (l : List (κ × β)) (k : κ) (v : β) : List (κ × β) := if k ∈ l.map Prod.fst then l.map (fun p => if p.1 = k then (k, v) else p) else l ++ [(k, v)]
theorem gfind_mem {l : List (κ × β)} {k : κ} {v : β} (h : gfind l k = some v) : (k, v) ∈ l := by
  unfold gfind at h
  cases e : l.find? (fun e => decide (e.1 = k)) with
  | none => rw [e] at h; cases h
  | some p =>
    rw [e] at h
    have h1 := List.find?_some e
    have h2 := List.mem_of_find?_eq_some e
    simp only [Option.map_some, Option.some.injEq] at h
    have h3 : p.1 = k := of_decide_eq_true h1
    rw [← h, ← h3]
    exact h2
theorem gfind_none {l : List (κ × β)} {k : κ} : gfind l k = none ↔ k ∉ l.map Prod.fst := by
  unfold gfind
  rw [Option.map_eq_none_iff, List.find?_eq_none]
  constructor
  · intro h hk
    obtain ⟨p, hp, rfl⟩ := List.mem_map.1 hk
    exact h p hp (decide_eq_true rfl)
  · intro h p hp hk
    exact h (List.mem_map.2 ⟨p, hp, of_decide_eq_true hk⟩)
theorem gfind_some {l : List (κ × β)} (hn : (l.map Prod.fst).Nodup) {k : κ} {v : β} : gfind l k = some v ↔ (k, v) ∈ l := by
  constructor
  · exact gfind_mem
  · intro h
    cases e : gfind l k with
    | none => exact absurd (List.mem_map.2 ⟨_, h, rfl⟩) (gfind_none.1 e)
    | some u => rw [nodup_fst hn (gfind_mem e) h]
theorem gput_old (l : List (κ × β)) (k : κ) (v : β) (h : k ∈ l.map Prod.fst) : (gput l k v).map Prod.fst = l.map Prod.fst := by
  rw [gput, if_pos h, List.map_map]
  apply List.map_congr_left
  intro p _
  simp only [Function.comp]
  split <;> simp_all
theorem gput_new (l : List (κ × β)) (k : κ) (v : β) (h : k ∉ l.map Prod.fst) : (gput l k v).map Prod.fst = l.map Prod.fst ++ [k] := by
  rw [gput, if_neg h]; simp
theorem gput_nodup {l : List (κ × β)} (hn : (l.map Prod.fst).Nodup) (k : κ) (v : β) : ((gput l k v).map Prod.fst).Nodup := by
  by_cases h : k ∈ l.map Prod.fst
  · rw [gput_old l k v h]; exact hn
  · rw [gput_new l k v h]
    exact List.nodup_append.2 ⟨hn, List.nodup_cons.2 ⟨by simp, List.nodup_nil⟩, fun a ha b hb e => by
      rw [List.mem_singleton.1 hb] at e
      exact h (by rw [← e]; exact ha)⟩
theorem mem_gput {l : List (κ × β)} {k : κ} {v : β} {p : κ × β} : p ∈ gput l k v ↔ p = (k, v) ∨ (p.1 ≠ k ∧ p ∈ l) := by
  obtain ⟨q, u⟩ := p
  unfold gput
  split
  · rename_i h
    rw [List.mem_map]
    constructor
    · rintro ⟨x, hx, e⟩
      by_cases hk : x.1 = k
      · rw [if_pos hk] at e; exact .inl e.symm
      · rw [if_neg hk] at e; rw [← e]; exact .inr ⟨hk, hx⟩
    · rintro (e | ⟨h1, h2⟩)
      · obtain ⟨x, hx, hk⟩ := List.mem_map.1 h
        exact ⟨x, hx, by rw [if_pos hk, e]⟩
      · exact ⟨_, h2, if_neg h1⟩
  · rename_i h
    rw [List.mem_append, List.mem_singleton]
    constructor
    · rintro (h1 | h1)
      · exact .inr ⟨fun e => h (List.mem_map.2 ⟨_, h1, e⟩), h1⟩
      · exact .inl h1
    · rintro (h1 | h1)
      · exact .inr h1
      · exact .inl h1.2
theorem gfind_gput {l : List (κ × β)} (hn : (l.map Prod.fst).Nodup) (k : κ) (v : β) (q : κ) : gfind (gput l k v) q = if q = k then some v else gfind l q := by
  have hn2 := gput_nodup hn k v
  by_cases h : q = k
  · rw [if_pos h, gfind_some hn2, mem_gput, h]
    exact .inl rfl
  · rw [if_neg h]
    cases e : gfind l q with
    | none =>
      rw [gfind_none] at e ⊢
      intro hq
      obtain ⟨p, hp, rfl⟩ := List.mem_map.1 hq
      rcases mem_gput.1 hp with h1 | h1
      · exact h (by rw [h1])
      · exact e (List.mem_map.2 ⟨p, h1.2, rfl⟩)
    | some u =>
      rw [gfind_some hn2, mem_gput]
      exact .inr ⟨h, gfind_mem e⟩
/-- The values by another word. -/
theorem gput_map (g : β → γ) (l : List (κ × β)) (k : κ) (v : β) : (gput l k v).map (fun e => (e.1, g e.2)) = gput (l.map (fun e => (e.1, g e.2))) k (g v) := by
  have hk : (l.map (fun e => (e.1, g e.2))).map Prod.fst = l.map Prod.fst := by rw [List.map_map]; rfl
  unfold gput
  rw [hk]
  split
  · rw [List.map_map, List.map_map]
    apply List.map_congr_left
    intro p _
    simp only [Function.comp]
    by_cases h : p.1 = k
    · rw [if_pos h, if_pos h]
    · rw [if_neg h, if_neg h]
  · rw [List.map_append]; rfl
theorem gfind_map (g : β → γ) (l : List (κ × β)) (k : κ) : gfind (l.map (fun e => (e.1, g e.2))) k = (gfind l k).map g := by
  unfold gfind
  rw [List.find?_map, Option.map_map, Option.map_map]
  rfl
end
end Go.Por
end
section
set_option linter.unusedVariables false
set_option linter.unusedSimpArgs false
namespace Go.Por
open Go.RowKit
section
variable {κ α : Type}
theorem mput_gput [DecidableEq κ] (l : List (κ × Value)) (k : κ) (v : Value) : mput l k v = gput l k v := rfl
/-- Entries: the key, the slice, what it holds. -/
def smv (l : List (κ × (Value × List α))) : List (κ × Value) := l.map (fun e => (e.1, e.2.1))
def smc (l : List (κ × (Value × List α))) : List (κ × List α) := l.map (fun e => (e.1, e.2.2))
theorem smv_fst (l : List (κ × (Value × List α))) : (smv l).map Prod.fst = l.map Prod.fst := by unfold smv; rw [List.map_map]; rfl
theorem smc_fst (l : List (κ × (Value × List α))) : (smc l).map Prod.fst = l.map Prod.fst := by unfold smc; rw [List.map_map]; rfl
/-- What a key's slice holds: nothing where the key isn't there. -/
def aget [DecidableEq κ] (l : List (κ × List α)) (k : κ) : List α := (gfind l k).getD []
variable {P : Program} {w w' : World} {M : Nat} {enc : κ → Value} {f : α → List Value} {c : Nat} {E : TypeId} {F : Nat → Prop} {l : List (κ × (Value × List α))} {kt et t : TypeId}
structure SlMap (w : World) (M : Nat) (enc : κ → Value) (f : α → List Value) (c : Nat) (E : TypeId) (F : Nat → Prop) (l : List (κ × (Value × List α))) : Prop where
  map : MapIs w M enc (smv l)
  own : ∀ e ∈ l, OwnS f c w E e.2.1 e.2.2
  dis : ∀ e ∈ l, ∀ e' ∈ l, e.1 ≠ e'.1 → ∀ b, e.2.1.ownBlock = some b → e'.2.1.ownBlock ≠ some b
  foot : ∀ e ∈ l, ∀ b, e.2.1.ownBlock = some b → F b
theorem MapIs.nodup {l : List (κ × Value)} (h : MapIs w M enc l) : (l.map Prod.fst).Nodup := by
  obtain ⟨_, _, _, _, h, _⟩ := h
  exact h
theorem SlMap.nodup (h : SlMap w M enc f c E F l) : (l.map Prod.fst).Nodup := by
  have := h.map.nodup
  rwa [smv_fst] at this
theorem SlMap.mod {S : Nat → Prop} (h : SlMap w M enc f c E F l) (hm : Mod S w w') (hM : ¬ S M) (hF : ∀ e ∈ l, ∀ b, e.2.1.ownBlock = some b → ¬ S b) : SlMap w' M enc f c E F l :=
  ⟨h.map.mod hm hM, fun e he => (h.own e he).mod hm (hF e he), h.dis, h.foot⟩
theorem SlMap.weaken {F' : Nat → Prop} (h : SlMap w M enc f c E F l) (hF : ∀ b, F b → F' b) : SlMap w M enc f c E F' l := ⟨h.map, h.own, h.dis, fun e he b hb => hF b (h.foot e he b hb)⟩
/-- A slice's block is no map. -/
theorem OwnS.ne_map {v : Value} {x : List α} (h : OwnS f c w E v x) {l' : List (κ × Value)} (hm : MapIs w M enc l') : ∀ b, v.ownBlock = some b → b ≠ M := fun b hb e => by
  rcases h.form with ⟨rfl, _⟩ | ⟨g, cap, rfl, _, _⟩
  · simp [Value.ownBlock] at hb
  · obtain ⟨cur, h1, _⟩ := h.block
    obtain ⟨es, ck, h2, _⟩ := hm
    simp only [Value.ownBlock, Option.some.injEq] at hb
    rw [← e, ← hb, h1] at h2
    cases h2
/-- The slice that a look-up gives, and what it holds. -/
def slv [DecidableEq κ] (l : List (κ × (Value × List α))) (k : κ) : Value := ((gfind l k).map (·.1)).getD (.slice none 0 0)
theorem aget_smc [DecidableEq κ] (l : List (κ × (Value × List α))) (k : κ) : aget (smc l) k = ((gfind l k).map (·.2)).getD [] := by
  unfold aget smc
  rw [gfind_map (fun p : Value × List α => p.2)]
theorem SlMap.at [DecidableEq κ] (h : SlMap w M enc f c E F l) (k : κ) : OwnS f c w E (slv l k) (aget (smc l) k) ∧ (∀ b, (slv l k).ownBlock = some b → F b) ∧ ∀ e ∈ l, e.1 ≠ k → ∀ b, e.2.1.ownBlock = some b → (slv l k).ownBlock ≠ some b := by
  rw [aget_smc]
  unfold slv
  cases hg : gfind l k with
  | none => exact ⟨OwnS.nil _ _ _ _, fun b hb => by simp [Value.ownBlock] at hb, fun e _ _ b _ hb => by simp [Value.ownBlock] at hb⟩
  | some p =>
    have hm := gfind_mem hg
    exact ⟨h.own _ hm, h.foot _ hm, fun e he hne b hb => h.dis e he _ hm hne b hb⟩
theorem SlMap.look [DecidableEq κ] (h : SlMap w M enc f c E F l) (K : KeyOK P kt κ enc) (ht : P.underlying t = some (.map kt et)) (hz : (zeroValue et).run P w = .ok (.slice none 0 0) w) (k : κ) :
    (Instr.lookup t (.map (some M)) (enc k) false).run P w = .ok (slv l k) w := by
  unfold slv
  cases hg : gfind l k with
  | none =>
    have h1 := MapIs.look_miss K ht h.map (k := k) (by rw [smv_fst]; exact gfind_none.1 hg) hz false
    simpa using h1
  | some p =>
    have h1 := MapIs.look_hit K ht h.map (k := k) (v := p.1) (List.mem_map.2 ⟨(k, p), gfind_mem hg, rfl⟩) false
    simpa using h1
/-- The same, the slice of one key left open. -/
structure SlBut (w : World) (M : Nat) (enc : κ → Value) (f : α → List Value) (c : Nat) (E : TypeId) (F : Nat → Prop) (l : List (κ × (Value × List α))) (k : κ) : Prop where
  map : MapIs w M enc (smv l)
  own : ∀ e ∈ l, e.1 ≠ k → OwnS f c w E e.2.1 e.2.2
  dis : ∀ e ∈ l, ∀ e' ∈ l, e.1 ≠ e'.1 → ∀ b, e.2.1.ownBlock = some b → e'.2.1.ownBlock ≠ some b
  foot : ∀ e ∈ l, ∀ b, e.2.1.ownBlock = some b → F b
theorem SlMap.but (h : SlMap w M enc f c E F l) (k : κ) : SlBut w M enc f c E F l k := ⟨h.map, fun e he _ => h.own e he, h.dis, h.foot⟩
theorem SlBut.mod {S : Nat → Prop} {k : κ} (h : SlBut w M enc f c E F l k) (hm : Mod S w w') (hM : ¬ S M) (hS : ∀ e ∈ l, e.1 ≠ k → ∀ b, e.2.1.ownBlock = some b → ¬ S b) : SlBut w' M enc f c E F l k :=
  ⟨h.map.mod hm hM, fun e he hne => (h.own e he hne).mod hm (hS e he hne), h.dis, h.foot⟩
/-- The key's own slice has been written, or a new block. -/
theorem SlMap.mine [DecidableEq κ] (h : SlMap w M enc f c E F l) (k : κ) (hm : Mod (fun b => some b = (slv l k).ownBlock) w w') : SlBut w' M enc f c E F l k := by
  obtain ⟨h1, h2, h3⟩ := h.at k
  exact (h.but k).mod hm (fun e => h1.ne_map h.map M e.symm rfl) (fun e he hne b hb e' => h3 e he hne b hb e'.symm)
/-- A slice is stored under a key. -/
theorem SlBut.store [DecidableEq κ] {k : κ} (h : SlBut w M enc f c E F l k) (K : KeyOK P kt κ enc) (ht : P.underlying t = some (.map kt et)) {v : Value} {x : List α} (hown : OwnS f c w E v x)
    (hd : ∀ e ∈ l, e.1 ≠ k → ∀ b, e.2.1.ownBlock = some b → v.ownBlock ≠ some b) {F' : Nat → Prop} (hF : ∀ b, F b → F' b) (hv : ∀ b, v.ownBlock = some b → F' b) :
    ∃ w', (Instr.mapUpdate t (.map (some M)) (enc k) v).run P w = .ok () w' ∧ SlMap w' M enc f c E F' (gput l k (v, x)) ∧ Mod (fun b => b = M) w w' := by
  obtain ⟨o, h1, h2⟩ := h.map.store K ht k v
  have hm := setB_mod w M o
  refine ⟨_, h1, ⟨?_, fun e he => ?_, fun e he e' he' hne b hb => ?_, fun e he b hb => ?_⟩, hm⟩
  · rw [mput_gput] at h2
    unfold smv at h2 ⊢
    rw [gput_map (fun p : Value × List α => p.1)]
    exact h2
  · rcases mem_gput.1 he with rfl | ⟨h3, h4⟩
    · exact hown.mod hm (fun b hb e => hown.ne_map h.map b hb e)
    · exact (h.own e h4 h3).mod hm (fun b hb e' => (h.own e h4 h3).ne_map h.map b hb e')
  · rcases mem_gput.1 he with rfl | ⟨h3, h4⟩
    · rcases mem_gput.1 he' with rfl | ⟨h5, h6⟩
      · exact absurd rfl hne
      · exact fun hb' => hd e' h6 h5 b hb' hb
    · rcases mem_gput.1 he' with rfl | ⟨h5, h6⟩
      · exact hd e h4 h3 b hb
      · exact h.dis e h4 e' h6 hne b hb
  · rcases mem_gput.1 he with rfl | ⟨h3, h4⟩
    · exact hv b hb
    · exact hF b (h.foot e h4 b hb)
theorem OwnS.own_lt {v : Value} {x : List α} (h : OwnS f c w E v x) : ∀ b, v.ownBlock = some b → b < w.heap.size := fun b hb => by
  rcases h.form with ⟨rfl, _⟩ | ⟨g, cap, rfl, _, _⟩
  · simp [Value.ownBlock] at hb
  · simp only [Value.ownBlock, Option.some.injEq] at hb
    rw [← hb]
    exact h.lt
/-- lists[k] = append(lists[k], x). -/
theorem SlMap.push [DecidableEq κ] {tm : TypeId} {bytes : Nat} (h : SlMap w M enc f c E F l) (H : Elem P t E f c bytes) (K : KeyOK P kt κ enc) (ht : P.underlying tm = some (.map kt et)) (k : κ) (x : α) {B : Nat} (ty : TypeId)
    (hB : w.heap[B]? = some (.cells (f x).toArray E (0, 0))) (hb : ((aget (smc l) k).length + 1) * bytes ≤ 140737488355328) (h63 : (aget (smc l) k).length + 1 ≤ maxLen) :
    ∃ v' w5 w6, (Builtin.append_ #[t, t] ty #[slv l k, .slice (some ⟨B, 0, none⟩) 1 1]).run P w = .ok v' w5 ∧ Mod (fun b => some b = (slv l k).ownBlock) w w5 ∧
      (Instr.mapUpdate tm (.map (some M)) (enc k) v').run P w5 = .ok () w6 ∧ Mod (fun b => b = M) w5 w6 ∧
      SlMap w6 M enc f c E (fun b => F b ∨ (w.heap.size ≤ b ∧ b < w5.heap.size)) (gput l k (v', aget (smc l) k ++ [x])) := by
  obtain ⟨h1, h2, h3⟩ := h.at k
  obtain ⟨v', w5, hr, ho, hm, hk⟩ := run_push H ty h1 hB hb h63
  have hbut := h.mine k hm
  obtain ⟨w6, hr6, hs6, hm6⟩ := hbut.store K ht (k := k) ho (fun e he hne b hb hb' => by
    rcases hk b hb' with h4 | h4
    · exact h3 e he hne b hb h4
    · have := (h.own e he).own_lt b hb
      omega) (F' := fun b => F b ∨ (w.heap.size ≤ b ∧ b < w5.heap.size)) (fun b hb => .inl hb) (fun b hb => by
    rcases hk b hb with h4 | h4
    · exact .inl (h2 b h4)
    · exact .inr ⟨h4, ho.own_lt b hb⟩)
  exact ⟨v', w5, w6, hr, hm, hr6, hm6, hs6⟩
theorem smc_gput [DecidableEq κ] (l : List (κ × (Value × List α))) (k : κ) (v : Value) (x : List α) : smc (gput l k (v, x)) = gput (smc l) k x := by
  unfold smc
  rw [gput_map (fun p : Value × List α => p.2)]
end
end Go.Por
end
section
set_option linter.unusedVariables false
set_option linter.unusedSimpArgs false
namespace Go.Por
open Go.RowKit
theorem step_append_run {P : Program} {ops : Array Oper} {o : Oper} {a : Act} {w : World} {K : Act → World → Prop} {Q : Exit → Act → World → Prop} {E : Prop}
    (hg : o.guard = none) (s x : Operand) (t : TypeId) (hop : o.op = Op.call { callee := Callee.builtin Builtin.append, args := #[s, x], argTypes := #[t, t] })
    (vs vx v : Value) (w' : World) (hs : a.eval s = vs) (hx : a.eval x = vx) (hrun : (Builtin.append_ #[t, t] o.type #[vs, vx]).run P w = .ok v w')
    (hK : K (a.put o.dst v) w') :
    if Region.wanted o (yielded ops a.tmps) = true then Oper.wp P o a w K Q else E := by
  have hw : Region.wanted o (yielded ops a.tmps) = true := by simp [Region.wanted, hg]
  rw [if_pos hw]
  unfold Oper.wp
  simp [execOp, hop, resolve, invoke, builtin, hs, hx, hrun, Result.andThen]
  exact hK
end Go.Por
namespace Go.Proofs.YtojjnfhgldjgbaaGreatDoor.Store
open Go.RowKit Go.Por Go.Proofs.YtojjnfhgldjgbaaGreatDoor.Watch
def putC {κ : Type} [DecidableEq κ] (l : List (κ × List Tup)) (k : κ) (t : Tup) : List (κ × List Tup) := if tin t (aget l k) = true then l else gput l k (aget l k ++ [t])
theorem zeroTups (w : World) : (zeroValue 34).run Tryz.prog w = .ok (.slice none 0 0) w := by kernel_rfl
theorem infoPair : (Tryz.prog.info? 107).map (·.size) = some 2 := by kernel_rfl
/-- A block known whole: the cells from its beginning. -/
theorem row_range {w : World} {b : Nat} {cs : List Value} {t : TypeId} (h : w.heap[b]? = some (.cells cs.toArray t (0, 0))) : w.rangeAt b 0 cs := fun j u hu => by
  rw [Nat.zero_add]
  exact cell_of h (by simpa using hu)
end Go.Proofs.YtojjnfhgldjgbaaGreatDoor.Store
end
