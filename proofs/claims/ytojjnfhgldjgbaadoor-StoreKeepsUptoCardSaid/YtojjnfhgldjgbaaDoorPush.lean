/- Appending to a slice of the call's own, by its elements; slices that are only read. No program in sight. -/
import Derived.Test.YtojjnfhgldjgbaaDoorOwn2
import Derived.Test.YtojjnfhgldjgbaaDoorRows2
import Derived.Test.YtojjnfhgldjgbaaDoorStabW
import Derived.OwnWalk
set_option linter.unusedVariables false
set_option linter.unusedSimpArgs false
namespace Go.Por
open Go.RowKit

/-- Of a slice type: its elements' cells. -/
structure Elem {α : Type} (P : Program) (t E : TypeId) (f : α → List Value) (c bytes : Nat) : Prop where
  und : P.underlying t = some (.slice E)
  info : ∃ i z, P.info? E = some i ∧ i.zero = some z ∧ i.size = c ∧ i.bytes = bytes ∧ z.cells.size = c
  len : ∀ x, (f x).length = c
  one : ∀ x, ∀ u ∈ f x, u.oneCell' = true
  pos : 0 < c
theorem Elem.mk' {α : Type} {P : Program} {t E : TypeId} {f : α → List Value} {c bytes : Nat} {z : Value} (hu : P.underlying t = some (.slice E)) (hi : (P.info? E).map (fun i => (i.zero, i.size, i.bytes)) = some (some z, c, bytes)) (hz : z.cells.size = c)
    (hl : ∀ x, (f x).length = c) (h1 : ∀ x, ∀ u ∈ f x, u.oneCell' = true) (hp : 0 < c) : Elem P t E f c bytes := by
  obtain ⟨i, hi, h2, h3, h4⟩ := info_parts hi
  exact ⟨hu, ⟨i, z, hi, h2, h3, h4, hz⟩, hl, h1, hp⟩
theorem Elem.infoC {α : Type} {P : Program} {t E : TypeId} {f : α → List Value} {c bytes : Nat} (H : Elem P t E f c bytes) (x : α) : (P.info? E).map (·.size) = some (f x).length := by
  obtain ⟨i, z, hi, _, h3, _⟩ := H.info
  rw [hi, Option.map_some, h3, H.len]
theorem block_cells {w : World} {b : Nat} {cs : List Value} {t : TypeId} (h : w.heap[b]? = some (.cells cs.toArray t (0, 0))) : ∀ j u, cs[j]? = some u → w.cell? ((⟨b, 0, none⟩ : Addr).add j) = some u := fun j u hu => by
  have e : (⟨b, 0, none⟩ : Addr).add j = ⟨b, j, none⟩ := by
    unfold Addr.add
    split
    · rename_i e; rw [e]
    · rw [Nat.zero_add]
  rw [e]
  exact cell_of h (by simpa using hu)
section
variable {α : Type} {P : Program} {t E : TypeId} {f : α → List Value} {c bytes : Nat} {w : World} {v : Value} {l : List α}
theorem run_push (H : Elem P t E f c bytes) (ty : TypeId) (hown : OwnS f c w E v l) {B : Nat} {x : α} (hB : w.heap[B]? = some (.cells (f x).toArray E (0, 0))) (hb : (l.length + 1) * bytes ≤ 140737488355328) (h63 : l.length + 1 ≤ maxLen) :
    ∃ v' w', (Builtin.append_ #[t, t] ty #[v, .slice (some ⟨B, 0, none⟩) 1 1]).run P w = .ok v' w' ∧ OwnS f c w' E v' (l ++ [x]) ∧ Mod (fun k => some k = v.ownBlock) w w' ∧ ∀ k, v'.ownBlock = some k → v.ownBlock = some k ∨ w.heap.size ≤ k := by
  obtain ⟨i, z, hi, hz, hs, hby, hzc⟩ := H.info
  obtain ⟨v', w', hr, h2, h3, h4⟩ := run_append_own2 (P := P) w 0 t ty E i z c bytes H.und hi hz hs hby hzc H.pos v l.length (l.flatMap f) hown ⟨B, 0, none⟩ 1 1 (f x) (by rw [H.len, Nat.one_mul]) (block_cells hB) (H.one x) h63 hb (Nat.zero_le _)
  refine ⟨v', w', hr, ?_, Mod.of_grown h3, h4⟩
  unfold OwnS
  rw [List.length_append, List.flatMap_append]
  simpa using h2
theorem wpList_push {ops : Array Oper} {rest : List Oper} {o : Oper} {a : Act} {Q : Exit → Act → World → Prop} (H : Elem P t E f c bytes) (hgd : o.guard = none) (s x0 : Operand)
    (ho : o.op = .call { callee := .builtin .append, args := #[s, x0], argTypes := #[t, t] }) (hs : a.eval s = v) (hown : OwnS f c w E v l) (B : Nat) (x : α) (hx : a.eval x0 = .slice (some ⟨B, 0, none⟩) 1 1)
    (hB : w.heap[B]? = some (.cells (f x).toArray E (0, 0))) (hb : (l.length + 1) * bytes ≤ 140737488355328) (h63 : l.length + 1 ≤ maxLen)
    (h : ∀ v' w', OwnS f c w' E v' (l ++ [x]) → Mod (fun k => some k = v.ownBlock) w w' → (∀ k, v'.ownBlock = some k → v.ownBlock = some k ∨ w.heap.size ≤ k) → wpList P ops Q rest (a.put o.dst v') w') : wpList P ops Q (o :: rest) a w := by
  refine wpList_plain hgd fun K' hK' => ?_
  obtain ⟨v', w', hr, h2, h3, h4⟩ := run_push H o.type hown hB hb h63
  unfold Oper.wp execOp
  simp only [ho, resolve, invoke, builtin, Sem.run_bind, Sem.run_pure, Result.andThen_ok, List.map_toArray, List.map_cons, List.map_nil, hs, hx, hr]
  exact hK' _ _ (h v' w' h2 h3 h4)
/-- The slice is l, whoever's it is. -/
def ReadS (f : α → List Value) (c : Nat) (w : World) (v : Value) (l : List α) : Prop := SliceIs c (fun _ cs x => cs = f x) w v l
theorem ReadS.form (h : ReadS f c w v l) : ∃ ao cap, v = .slice ao l.length cap ∧ l.length ≤ 9223372036854775807 := by
  obtain ⟨ao, cap, h1, h2, _⟩ := h
  exact ⟨ao, cap, h1, h2⟩
/-- An element, and where it lies. -/
theorem ReadS.at {ao : Option Addr} {n cap : Nat} (h : ReadS f c w (.slice ao n cap) l) {i : Nat} {x : α} (hx : l[i]? = some x) : ∃ b o, ao = some ⟨b, o, none⟩ ∧ w.rangeAt b (o + i * c) (f x) := by
  obtain ⟨ao', cap', h1, _, h2⟩ := h
  obtain ⟨b, o, cs, e, hl, hc, rfl⟩ := h2 i x hx
  simp only [Value.slice.injEq] at h1
  exact ⟨b, o, h1.1.trans e, fun j u hu => hc j u hu⟩
theorem ReadS.lt {ao : Option Addr} {n cap : Nat} (h : ReadS f c w (.slice ao n cap) l) (hc : 0 < c) (hl : ∀ x, (f x).length = c) {i : Nat} {x : α} (hx : l[i]? = some x) : ∃ b o, ao = some ⟨b, o, none⟩ ∧ w.rangeAt b (o + i * c) (f x) ∧ b < w.heap.size := by
  obtain ⟨b, o, h1, h2⟩ := h.at hx
  obtain ⟨u, hu⟩ : ∃ u, (f x)[0]? = some u := ⟨_, List.getElem?_eq_getElem (by rw [hl]; exact hc)⟩
  exact ⟨b, o, h1, h2, World.block_lt_of_cell? w ⟨b, _, none⟩ (h2 0 u hu)⟩
theorem range_below {w w' : World} {b o : Nat} {cs : List Value} {B : Nat} (h : w.rangeAt b o cs) (hb : Below B w w') (hlt : b < B) : w'.rangeAt b o cs := fun j u hu => by
  rw [hb.cell (p := ⟨b, _, none⟩) hlt]
  exact h j u hu
theorem ReadS.mod {S : Nat → Prop} {w' : World} (h : ReadS f c w v l) (hc : 0 < c) (hl : ∀ x, (f x).length = c) (hm : Mod S w w') (hn : ∀ k, v.ownBlock = some k → ¬ S k) : ReadS f c w' v l := by
  obtain ⟨ao, cap, rfl, h1, h2⟩ := h
  refine ⟨ao, cap, rfl, h1, fun i x hx => ?_⟩
  obtain ⟨b, o, cs, rfl, hlc, hcell, rfl⟩ := h2 i x hx
  refine ⟨b, o, _, rfl, hlc, fun j u hu => ?_, rfl⟩
  have h3 := hcell j u hu
  rw [hm.cell (p := ⟨b, _, none⟩) (World.block_lt_of_cell? w ⟨b, _, none⟩ h3) (hn b rfl)]
  exact h3
theorem OwnS.sl (h : OwnS f c w E v l) : ∃ ao n cap, v = .slice ao n cap ∧ l.length = n := by
  rcases h.form with ⟨rfl, rfl⟩ | ⟨g, cap, rfl, _, _⟩
  · exact ⟨_, _, _, rfl, rfl⟩
  · exact ⟨_, _, _, rfl, rfl⟩
theorem OwnS.read (hl : ∀ x, (f x).length = c) (h : OwnS f c w E v l) : ReadS f c w v l := by
  rcases h.form with ⟨rfl, rfl⟩ | ⟨g, cap, rfl, hc1, hc2⟩
  · exact ⟨none, 0, rfl, Nat.zero_le _, by simp⟩
  · refine ⟨some ⟨g, 0, none⟩, cap, rfl, by unfold maxLen at hc2; omega, fun i x hx => ⟨g, 0, f x, rfl, hl x, fun j u hu => ?_, rfl⟩⟩
    have := OwnS.range hl h hx j u hu
    rwa [Nat.zero_add]
end
end Go.Por
