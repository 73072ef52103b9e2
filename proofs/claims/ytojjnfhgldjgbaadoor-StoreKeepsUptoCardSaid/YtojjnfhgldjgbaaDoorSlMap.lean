/- Maps whose values are slices of the owner's own. No program in sight. -/
import Derived.Test.YtojjnfhgldjgbaaDoorMap
import Derived.Test.YtojjnfhgldjgbaaDoorPush
import Derived.Test.YtojjnfhgldjgbaaDoorAlist
set_option linter.unusedVariables false
set_option linter.unusedSimpArgs false
namespace Go.Por
open Go.RowKit
section
variable {κ α : Type}
theorem mput_gput [DecidableEq κ] (l : List (κ × Value)) (k : κ) (v : Value) : mput l k v = gput l k v := rfl
theorem mdel_gdel [DecidableEq κ] (l : List (κ × Value)) (k : κ) : mdel l k = gdel l k := rfl
/-- Entries: the key, the slice, what it holds. -/
def smv (l : List (κ × (Value × List α))) : List (κ × Value) := l.map (fun e => (e.1, e.2.1))
def smc (l : List (κ × (Value × List α))) : List (κ × List α) := l.map (fun e => (e.1, e.2.2))
theorem smv_fst (l : List (κ × (Value × List α))) : (smv l).map Prod.fst = l.map Prod.fst := by unfold smv; rw [List.map_map]; rfl
theorem smc_fst (l : List (κ × (Value × List α))) : (smc l).map Prod.fst = l.map Prod.fst := by unfold smc; rw [List.map_map]; rfl
/-- What a key's slice holds: nothing where the key isn't there. -/
def aget [DecidableEq κ] (l : List (κ × List α)) (k : κ) : List α := (gfind l k).getD []
variable {P : Program} {w w' : World} {M : Nat} {enc : κ → Value} {f : α → List Value} {c : Nat} {E : TypeId} {F : Nat → Prop} {l : List (κ × (Value × List α))} {kt et t : TypeId}
structure SlMap (w : World) (M : Nat) (enc : κ → Value) (f : α → List Value) (c : Nat) (E : TypeId) (F : Nat → Prop) (l : List (κ × (Value × List α))) : Prop where
  map : MapIs w M enc (smv l)
  own : ∀ e ∈ l, OwnS f c w E e.2.1 e.2.2
  dis : ∀ e ∈ l, ∀ e' ∈ l, e.1 ≠ e'.1 → ∀ b, e.2.1.ownBlock = some b → e'.2.1.ownBlock ≠ some b
  foot : ∀ e ∈ l, ∀ b, e.2.1.ownBlock = some b → F b
theorem MapIs.nodup {l : List (κ × Value)} (h : MapIs w M enc l) : (l.map Prod.fst).Nodup := by
  obtain ⟨_, _, _, _, h, _⟩ := h
  exact h
theorem SlMap.nodup (h : SlMap w M enc f c E F l) : (l.map Prod.fst).Nodup := by
  have := h.map.nodup
  rwa [smv_fst] at this
theorem SlMap.mod {S : Nat → Prop} (h : SlMap w M enc f c E F l) (hm : Mod S w w') (hM : ¬ S M) (hF : ∀ e ∈ l, ∀ b, e.2.1.ownBlock = some b → ¬ S b) : SlMap w' M enc f c E F l :=
  ⟨h.map.mod hm hM, fun e he => (h.own e he).mod hm (hF e he), h.dis, h.foot⟩
theorem SlMap.weaken {F' : Nat → Prop} (h : SlMap w M enc f c E F l) (hF : ∀ b, F b → F' b) : SlMap w M enc f c E F' l := ⟨h.map, h.own, h.dis, fun e he b hb => hF b (h.foot e he b hb)⟩
theorem SlMap.made (w : World) (enc : κ → Value) (f : α → List Value) (c : Nat) (E : TypeId) (F : Nat → Prop) : SlMap (w.alloc (.map #[] 0)) w.heap.size enc f c E F [] :=
  ⟨MapIs.made w enc, fun e he => (by cases he), fun e he => (by cases he), fun e he => (by cases he)⟩
/-- A slice's block is no map. -/
theorem OwnS.ne_map {v : Value} {x : List α} (h : OwnS f c w E v x) {l' : List (κ × Value)} (hm : MapIs w M enc l') : ∀ b, v.ownBlock = some b → b ≠ M := fun b hb e => by
  rcases h.form with ⟨rfl, _⟩ | ⟨g, cap, rfl, _, _⟩
  · simp [Value.ownBlock] at hb
  · obtain ⟨cur, h1, _⟩ := h.block
    obtain ⟨es, ck, h2, _⟩ := hm
    simp only [Value.ownBlock, Option.some.injEq] at hb
    rw [← e, ← hb, h1] at h2
    cases h2
/-- The slice that a look-up gives, and what it holds. -/
def slv [DecidableEq κ] (l : List (κ × (Value × List α))) (k : κ) : Value := ((gfind l k).map (·.1)).getD (.slice none 0 0)
theorem aget_smc [DecidableEq κ] (l : List (κ × (Value × List α))) (k : κ) : aget (smc l) k = ((gfind l k).map (·.2)).getD [] := by
  unfold aget smc
  rw [gfind_map (fun p : Value × List α => p.2)]
theorem SlMap.at [DecidableEq κ] (h : SlMap w M enc f c E F l) (k : κ) : OwnS f c w E (slv l k) (aget (smc l) k) ∧ (∀ b, (slv l k).ownBlock = some b → F b) ∧ ∀ e ∈ l, e.1 ≠ k → ∀ b, e.2.1.ownBlock = some b → (slv l k).ownBlock ≠ some b := by
  rw [aget_smc]
  unfold slv
  cases hg : gfind l k with
  | none => exact ⟨OwnS.nil _ _ _ _, fun b hb => by simp [Value.ownBlock] at hb, fun e _ _ b _ hb => by simp [Value.ownBlock] at hb⟩
  | some p =>
    have hm := gfind_mem hg
    exact ⟨h.own _ hm, h.foot _ hm, fun e he hne b hb => h.dis e he _ hm hne b hb⟩
theorem SlMap.look [DecidableEq κ] (h : SlMap w M enc f c E F l) (K : KeyOK P kt κ enc) (ht : P.underlying t = some (.map kt et)) (hz : (zeroValue et).run P w = .ok (.slice none 0 0) w) (k : κ) :
    (Instr.lookup t (.map (some M)) (enc k) false).run P w = .ok (slv l k) w := by
  unfold slv
  cases hg : gfind l k with
  | none =>
    have h1 := MapIs.look_miss K ht h.map (k := k) (by rw [smv_fst]; exact gfind_none.1 hg) hz false
    simpa using h1
  | some p =>
    have h1 := MapIs.look_hit K ht h.map (k := k) (v := p.1) (List.mem_map.2 ⟨(k, p), gfind_mem hg, rfl⟩) false
    simpa using h1
/-- The same, the slice of one key left open. -/
structure SlBut (w : World) (M : Nat) (enc : κ → Value) (f : α → List Value) (c : Nat) (E : TypeId) (F : Nat → Prop) (l : List (κ × (Value × List α))) (k : κ) : Prop where
  map : MapIs w M enc (smv l)
  own : ∀ e ∈ l, e.1 ≠ k → OwnS f c w E e.2.1 e.2.2
  dis : ∀ e ∈ l, ∀ e' ∈ l, e.1 ≠ e'.1 → ∀ b, e.2.1.ownBlock = some b → e'.2.1.ownBlock ≠ some b
  foot : ∀ e ∈ l, ∀ b, e.2.1.ownBlock = some b → F b
theorem SlMap.but (h : SlMap w M enc f c E F l) (k : κ) : SlBut w M enc f c E F l k := ⟨h.map, fun e he _ => h.own e he, h.dis, h.foot⟩
theorem SlBut.mod {S : Nat → Prop} {k : κ} (h : SlBut w M enc f c E F l k) (hm : Mod S w w') (hM : ¬ S M) (hS : ∀ e ∈ l, e.1 ≠ k → ∀ b, e.2.1.ownBlock = some b → ¬ S b) : SlBut w' M enc f c E F l k :=
  ⟨h.map.mod hm hM, fun e he hne => (h.own e he hne).mod hm (hS e he hne), h.dis, h.foot⟩
/-- The key's own slice has been written, or a new block. -/
theorem SlMap.mine [DecidableEq κ] (h : SlMap w M enc f c E F l) (k : κ) (hm : Mod (fun b => some b = (slv l k).ownBlock) w w') : SlBut w' M enc f c E F l k := by
  obtain ⟨h1, h2, h3⟩ := h.at k
  exact (h.but k).mod hm (fun e => h1.ne_map h.map M e.symm rfl) (fun e he hne b hb e' => h3 e he hne b hb e'.symm)
/-- A slice is stored under a key. -/
theorem SlBut.store [DecidableEq κ] {k : κ} (h : SlBut w M enc f c E F l k) (K : KeyOK P kt κ enc) (ht : P.underlying t = some (.map kt et)) {v : Value} {x : List α} (hown : OwnS f c w E v x)
    (hd : ∀ e ∈ l, e.1 ≠ k → ∀ b, e.2.1.ownBlock = some b → v.ownBlock ≠ some b) {F' : Nat → Prop} (hF : ∀ b, F b → F' b) (hv : ∀ b, v.ownBlock = some b → F' b) :
    ∃ w', (Instr.mapUpdate t (.map (some M)) (enc k) v).run P w = .ok () w' ∧ SlMap w' M enc f c E F' (gput l k (v, x)) ∧ Mod (fun b => b = M) w w' := by
  obtain ⟨o, h1, h2⟩ := h.map.store K ht k v
  have hm := setB_mod w M o
  refine ⟨_, h1, ⟨?_, fun e he => ?_, fun e he e' he' hne b hb => ?_, fun e he b hb => ?_⟩, hm⟩
  · rw [mput_gput] at h2
    unfold smv at h2 ⊢
    rw [gput_map (fun p : Value × List α => p.1)]
    exact h2
  · rcases mem_gput.1 he with rfl | ⟨h3, h4⟩
    · exact hown.mod hm (fun b hb e => hown.ne_map h.map b hb e)
    · exact (h.own e h4 h3).mod hm (fun b hb e' => (h.own e h4 h3).ne_map h.map b hb e')
  · rcases mem_gput.1 he with rfl | ⟨h3, h4⟩
    · rcases mem_gput.1 he' with rfl | ⟨h5, h6⟩
      · exact absurd rfl hne
      · exact fun hb' => hd e' h6 h5 b hb' hb
    · rcases mem_gput.1 he' with rfl | ⟨h5, h6⟩
      · exact hd e h4 h3 b hb
      · exact h.dis e h4 e' h6 hne b hb
  · rcases mem_gput.1 he with rfl | ⟨h3, h4⟩
    · exact hv b hb
    · exact hF b (h.foot e h4 b hb)
theorem SlMap.delete [DecidableEq κ] {ty t2 : TypeId} (h : SlMap w M enc f c E F l) (K : KeyOK P kt κ enc) (ht : P.underlying t = some (.map kt et)) (k : κ) :
    ∃ w', (Builtin.delete_ #[t, t2] ty #[.map (some M), enc k]).run P w = .ok (.tuple #[]) w' ∧ SlMap w' M enc f c E F (gdel l k) ∧ Mod (fun b => b = M) w w' := by
  obtain ⟨o, h1, h2⟩ := h.map.delete (ty := ty) (t2 := t2) K ht k
  have hm := setB_mod w M o
  refine ⟨_, h1, ⟨?_, fun e he => ?_, fun e he e' he' => ?_, fun e he => ?_⟩, hm⟩
  · rw [mdel_gdel] at h2
    unfold smv at h2 ⊢
    rw [gdel_map (fun p : Value × List α => p.1)]
    exact h2
  · have h4 := (mem_gdel.1 he).2
    exact (h.own e h4).mod hm (fun b hb e' => (h.own e h4).ne_map h.map b hb e')
  · exact h.dis e (mem_gdel.1 he).2 e' (mem_gdel.1 he').2
  · exact h.foot e (mem_gdel.1 he).2
theorem OwnS.own_lt {v : Value} {x : List α} (h : OwnS f c w E v x) : ∀ b, v.ownBlock = some b → b < w.heap.size := fun b hb => by
  rcases h.form with ⟨rfl, _⟩ | ⟨g, cap, rfl, _, _⟩
  · simp [Value.ownBlock] at hb
  · simp only [Value.ownBlock, Option.some.injEq] at hb
    rw [← hb]
    exact h.lt
/-- lists[k] = append(lists[k], x). -/
theorem SlMap.push [DecidableEq κ] {tm : TypeId} {bytes : Nat} (h : SlMap w M enc f c E F l) (H : Elem P t E f c bytes) (K : KeyOK P kt κ enc) (ht : P.underlying tm = some (.map kt et)) (k : κ) (x : α) {B : Nat} (ty : TypeId)
    (hB : w.heap[B]? = some (.cells (f x).toArray E (0, 0))) (hb : ((aget (smc l) k).length + 1) * bytes ≤ 140737488355328) (h63 : (aget (smc l) k).length + 1 ≤ maxLen) :
    ∃ v' w5 w6, (Builtin.append_ #[t, t] ty #[slv l k, .slice (some ⟨B, 0, none⟩) 1 1]).run P w = .ok v' w5 ∧ Mod (fun b => some b = (slv l k).ownBlock) w w5 ∧
      (Instr.mapUpdate tm (.map (some M)) (enc k) v').run P w5 = .ok () w6 ∧ Mod (fun b => b = M) w5 w6 ∧
      SlMap w6 M enc f c E (fun b => F b ∨ (w.heap.size ≤ b ∧ b < w5.heap.size)) (gput l k (v', aget (smc l) k ++ [x])) := by
  obtain ⟨h1, h2, h3⟩ := h.at k
  obtain ⟨v', w5, hr, ho, hm, hk⟩ := run_push H ty h1 hB hb h63
  have hbut := h.mine k hm
  obtain ⟨w6, hr6, hs6, hm6⟩ := hbut.store K ht (k := k) ho (fun e he hne b hb hb' => by
    rcases hk b hb' with h4 | h4
    · exact h3 e he hne b hb h4
    · have := (h.own e he).own_lt b hb
      omega) (F' := fun b => F b ∨ (w.heap.size ≤ b ∧ b < w5.heap.size)) (fun b hb => .inl hb) (fun b hb => by
    rcases hk b hb with h4 | h4
    · exact .inl (h2 b h4)
    · exact .inr ⟨h4, ho.own_lt b hb⟩)
  exact ⟨v', w5, w6, hr, hm, hr6, hm6, hs6⟩
theorem smc_gput [DecidableEq κ] (l : List (κ × (Value × List α))) (k : κ) (v : Value) (x : List α) : smc (gput l k (v, x)) = gput (smc l) k x := by
  unfold smc
  rw [gput_map (fun p : Value × List α => p.2)]
theorem smc_gdel [DecidableEq κ] (l : List (κ × (Value × List α))) (k : κ) : smc (gdel l k) = gdel (smc l) k := by
  unfold smc
  rw [gdel_map (fun p : Value × List α => p.2)]
end
end Go.Por
