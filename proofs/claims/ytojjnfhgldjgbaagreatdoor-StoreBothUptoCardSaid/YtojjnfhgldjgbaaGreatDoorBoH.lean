/- StoreBoth, where what came in is of bulk at most 1048576: who has a relation, what a user has, and Has say the same: part 8 of 14: what it leans on. -/
import Derived.Test.YtojjnfhgldjgbaaGreatDoorBoA
import Derived.Test.YtojjnfhgldjgbaaGreatDoorBoB
import Derived.Test.YtojjnfhgldjgbaaGreatDoorBoC
import Derived.Test.YtojjnfhgldjgbaaGreatDoorBoD
import Derived.Test.YtojjnfhgldjgbaaGreatDoorBoE
import Derived.Test.YtojjnfhgldjgbaaGreatDoorBoF
section
set_option linter.unusedVariables false
set_option linter.unusedSimpArgs false
namespace Go.Por
open Go.RowKit

theorem findIdx_born {l : List MapEntry} (hn : (l.map (·.born)).Nodup) {j : Nat} {e0 : MapEntry} (h : l[j]? = some e0) : l.findIdx? (fun e => ((e.born : Nat) : Int) == ((e0.born : Nat) : Int)) = some j := by
  have hj : j < l.length := by
    rcases Nat.lt_or_ge j l.length with h' | h'
    · exact h'
    · simp [List.getElem?_eq_none h'] at h
  have e1 : l[j] = e0 := by simpa [List.getElem?_eq_getElem hj] using h
  rw [List.findIdx?_eq_some_iff_getElem]
  refine ⟨hj, by rw [e1]; simp, fun i hi => ?_⟩
  intro k
  have k2 : l[i].born = l[j].born := by
    rw [e1]
    have k4 : ((l[i].born : Nat) : Int) = ((e0.born : Nat) : Int) := by simpa using k
    omega
  have k3 : (l.map (·.born))[i]'(by rw [List.length_map]; omega) = (l.map (·.born))[j]'(by rw [List.length_map]; exact hj) := by simpa using k2
  have := (List.getElem_inj hn).1 k3
  omega
theorem findIdx_arr' (xs : Array MapEntry) (p : MapEntry → Bool) : xs.findIdx? p = xs.toList.findIdx? p := by
  cases xs
  simp
theorem setB_at (w : World) {M : Nat} (o : Obj) (h : M < w.heap.size) : (setB w M o).heap[M]? = some o := by simp [setB, h]
section
variable {P : Program} {κ α : Type} [DecidableEq κ] {w : World} {M : Nat} {enc : κ → Value} {kt et t : TypeId}
theorem MapIs.entry {l : List (κ × Value)} (K : KeyOK P kt κ enc) (ht : P.underlying t = some (.map kt et)) (h : MapIs w M enc l) (k : κ) {z : Value} (hz : (zeroValue et).run P w = .ok z w) :
    ∃ (st : Nat) (o1 : Obj), (Instr.mapEntry t (.map (some M)) (enc k)).run P w = .ok (.tuple #[(gfind l k).getD z, goInt st]) (setB w M o1) ∧ MapIs (setB w M o1) M enc (mput l k ((gfind l k).getD z)) ∧
      ∀ (w2 : World) (val : Value), w2.heap[M]? = some o1 → ∃ o, (Instr.entryStore t (.map (some M)) (goInt st) val).run P w2 = .ok () (setB w2 M o) ∧ MapIs (setB w2 M o) M enc (mput l k val) := by
  have hlt := h.lt
  have hst := fun val => h.store K ht k val
  obtain ⟨es, clock, hb, he, hn, hborn, hbn⟩ := h
  have fin : ∀ (val : Value) (o : Obj) (w2 : World), M < w2.heap.size → (Instr.mapUpdate t (.map (some M)) (enc k) val).run P w = .ok () (setB w M o) → MapIs (setB w2 M o) M enc (mput l k val) := fun val o w2 h2 hr => by
    obtain ⟨o', hr', hm⟩ := hst val
    rw [hr] at hr'
    have e1 : setB w M o = setB w M o' := by injection hr'
    have e2 : o = o' := by
      have := setB_at w o hlt
      rw [e1, setB_at w o' hlt] at this
      exact (Option.some.inj this).symm
    subst e2
    exact hm.keep (by rw [setB_at w2 o h2, setB_at w o hlt])
  rcases MapIs.find K he k w with ⟨h1, h2⟩ | ⟨j, u, h1, h2, e, hj, hk, hv⟩
  · have hg : gfind l k = none := gfind_none.2 h2
    rw [hg]
    refine ⟨clock, .map (es.push ⟨enc k, z, clock⟩) (clock + 1), ?_, fin z _ w hlt (by simp [Instr.mapUpdate, run_underlying ht, MapKept.run_getObj_map hb, K.check w false k, h1, MapKept.run_setObj_map _ hb, Result.andThen, setB]), fun w2 val hw2 => ⟨.map (es.push ⟨enc k, val, clock⟩) (clock + 1), ?_, fin val _ w2 (lt_block hw2) ?_⟩⟩
    · simp [Instr.mapEntry, run_underlying ht, MapKept.run_getObj_map hb, K.check w false k, h1, hz, MapKept.run_setObj_map _ hb, Result.andThen, setB]
    · have hidx : (es.push ⟨enc k, z, clock⟩).findIdx? (fun e => ((e.born : Nat) : Int) == ((clock : Nat) : Int)) = some es.size := by
        rw [findIdx_arr']
        refine findIdx_born (l := (es.push ⟨enc k, z, clock⟩).toList) (j := es.size) (e0 := ⟨enc k, z, clock⟩) ?_ (by simp)
        simp only [Array.toList_push, List.map_append, List.map_cons, List.map_nil]
        refine List.nodup_append.2 ⟨hbn, by simp, fun a ha c hc e1 => ?_⟩
        simp only [List.mem_singleton] at hc
        obtain ⟨x, hx, rfl⟩ := List.mem_map.1 ha
        have := hborn x hx
        omega
      have hmod : (es.push ⟨enc k, z, clock⟩).modify es.size (fun e => { e with val := val }) = es.push ⟨enc k, val, clock⟩ := by
        apply Array.ext_getElem?
        intro i
        rw [Array.getElem?_modify, Array.getElem?_push, Array.getElem?_push]
        by_cases hi : i = es.size
        · subst hi; simp
        · simp [hi, Ne.symm hi]
      simp [Instr.entryStore, MapKept.run_getObj_map hw2, asInt, asIntOf, goInt, hidx, hmod, MapKept.run_setObj_map _ hw2, Result.andThen, setB]
    · simp [Instr.mapUpdate, run_underlying ht, MapKept.run_getObj_map hb, K.check w false k, h1, MapKept.run_setObj_map _ hb, Result.andThen, setB]
  · have hg : gfind l k = some u := (gfind_some hn).2 (List.mem_of_getElem? h2)
    have hsame : es.modify j (fun e => { e with key := enc k }) = es := by
      apply Array.ext_getElem?
      intro i
      rw [Array.getElem?_modify]
      by_cases hi : j = i
      · subst hi
        rw [if_pos rfl, hj, ← hk]
        rfl
      · rw [if_neg hi]
    rw [hg]
    have hsame2 : es.modify j (fun e => { e with key := enc k, val := u }) = es := by
      apply Array.ext_getElem?
      intro i
      rw [Array.getElem?_modify]
      by_cases hi : j = i
      · subst hi
        rw [if_pos rfl, hj, ← hk, ← hv]
        rfl
      · rw [if_neg hi]
    refine ⟨e.born, .map es clock, ?_, fin u _ w hlt (by simp [Instr.mapUpdate, run_underlying ht, MapKept.run_getObj_map hb, K.check w false k, h1, hj, hk, K.stays w k, hsame2, MapKept.run_setObj_map _ hb, Result.andThen, setB]), fun w2 val hw2 => ⟨.map (es.modify j (fun e' => { e' with key := enc k, val := val })) clock, ?_, fin val _ w2 (lt_block hw2) ?_⟩⟩
    · simp [Instr.mapEntry, run_underlying ht, MapKept.run_getObj_map hb, K.check w false k, h1, hj, hk, K.stays w k, hsame, MapKept.run_setObj_map _ hb, Result.andThen, setB]
    · have hidx : es.findIdx? (fun e' => ((e'.born : Nat) : Int) == ((e.born : Nat) : Int)) = some j := by
        rw [findIdx_arr']
        exact findIdx_born hbn (by simpa using hj)
      have hmod : es.modify j (fun e => { e with val := val }) = es.modify j (fun e' => { e' with key := enc k, val := val }) := by
        apply Array.ext_getElem?
        intro i
        rw [Array.getElem?_modify, Array.getElem?_modify]
        by_cases hi : j = i
        · subst hi
          rw [if_pos rfl, if_pos rfl, hj, ← hk]
          rfl
        · rw [if_neg hi, if_neg hi]
      simp [Instr.entryStore, MapKept.run_getObj_map hw2, asInt, asIntOf, goInt, hidx, hmod, MapKept.run_setObj_map _ hw2, Result.andThen, setB]
    · simp [Instr.mapUpdate, run_underlying ht, MapKept.run_getObj_map hb, K.check w false k, h1, hj, hk, K.stays w k, MapKept.run_setObj_map _ hb, Result.andThen, setB]
variable {f : α → List Value} {c : Nat} {E : TypeId} {F : Nat → Prop} {l : List (κ × (Value × List α))}
/-- m[k] = append(m[k], x). -/
theorem SlMap.pushE {tm : TypeId} {bytes : Nat} (h : SlMap w M enc f c E F l) (H : Elem P t E f c bytes) (K : KeyOK P kt κ enc) (ht : P.underlying tm = some (.map kt et)) (hz : (zeroValue et).run P w = .ok (.slice none 0 0) w) (k : κ) (x : α) {B : Nat} (ty : TypeId)
    (hB : w.heap[B]? = some (.cells (f x).toArray E (0, 0))) (hb : ((aget (smc l) k).length + 1) * bytes ≤ 140737488355328) (h63 : (aget (smc l) k).length + 1 ≤ maxLen) :
    ∃ (st : Nat) (w1 : World), (Instr.mapEntry tm (.map (some M)) (enc k)).run P w = .ok (.tuple #[slv l k, goInt st]) w1 ∧ Mod (fun b => b = M) w w1 ∧
    ∃ v' w5 w6, (Builtin.append_ #[t, t] ty #[slv l k, .slice (some ⟨B, 0, none⟩) 1 1]).run P w1 = .ok v' w5 ∧ Mod (fun b => some b = (slv l k).ownBlock) w1 w5 ∧
      (Instr.entryStore tm (.map (some M)) (goInt st) v').run P w5 = .ok () w6 ∧ Mod (fun b => b = M) w5 w6 ∧
      SlMap w6 M enc f c E (fun b => F b ∨ (w.heap.size ≤ b ∧ b < w5.heap.size)) (gput l k (v', aget (smc l) k ++ [x])) := by
  obtain ⟨h1, h2, h3⟩ := h.at k
  obtain ⟨st, o1, hr1, _, hst⟩ := h.map.entry K ht k hz
  have hg : (gfind (smv l) k).getD (.slice none 0 0) = slv l k := by
    unfold slv smv
    rw [gfind_map (fun p : Value × List α => p.1)]
  rw [hg] at hr1
  have hmlt := h.map.lt
  have m1 := setB_mod w M o1
  have hs1 : (setB w M o1).heap.size = w.heap.size := by simp [setB]
  have hBM : B ≠ M := fun e => by
    obtain ⟨es, ck, hm, _⟩ := h.map
    rw [← e, hB] at hm
    cases hm
  have hown1 := h1.mod m1 (fun b hb e => h1.ne_map h.map b hb e)
  obtain ⟨v', w5, hr, ho, hm, hk⟩ := run_push H ty hown1 (m1.old hB hBM) hb h63
  have h5M : w5.heap[M]? = some o1 := hm.old (setB_at w o1 hmlt) (fun e => h1.ne_map h.map M e.symm rfl)
  obtain ⟨o, hr6, hmap⟩ := hst w5 v' h5M
  have m6 := setB_mod w5 M o
  have hv : ∀ b, v'.ownBlock = some b → some b = (slv l k).ownBlock ∨ w.heap.size ≤ b := fun b hb => by
    rcases hk b hb with h4 | h4
    · exact .inl h4.symm
    · exact .inr (by rw [← hs1]; exact h4)
  have hvM : ∀ b, v'.ownBlock = some b → b ≠ M := fun b hb e => by
    rcases hv b hb with h4 | h4
    · exact h1.ne_map h.map b h4.symm e
    · omega
  have others : ∀ e ∈ l, e.1 ≠ k → OwnS f c (setB w5 M o) E e.2.1 e.2.2 := fun e he hne => by
    have a1 := (h.own e he)
    have nM := fun b hb => a1.ne_map h.map b hb
    exact ((a1.mod m1 nM).mod hm (fun b hb e' => h3 e he hne b hb e'.symm)).mod m6 nM
  have disn : ∀ e ∈ l, e.1 ≠ k → ∀ b, e.2.1.ownBlock = some b → v'.ownBlock ≠ some b := fun e he hne b hb hb' => by
    rcases hv b hb' with h4 | h4
    · exact h3 e he hne b hb h4.symm
    · have := (h.own e he).own_lt b hb
      omega
  refine ⟨st, _, hr1, m1, v', w5, _, hr, hm, hr6, m6, ⟨?_, fun e he => ?_, fun e he e' he' hne b hb => ?_, fun e he b hb => ?_⟩⟩
  · rw [mput_gput] at hmap
    unfold smv at hmap ⊢
    rw [gput_map (fun p : Value × List α => p.1)]
    exact hmap
  · rcases mem_gput.1 he with rfl | ⟨h4, h5⟩
    · exact ho.mod m6 (fun b hb e => hvM b hb e)
    · exact others e h5 h4
  · rcases mem_gput.1 he with rfl | ⟨h4, h5⟩
    · rcases mem_gput.1 he' with rfl | ⟨h6, h7⟩
      · exact absurd rfl hne
      · exact fun hb' => disn e' h7 h6 b hb' hb
    · rcases mem_gput.1 he' with rfl | ⟨h6, h7⟩
      · exact disn e h5 h4 b hb
      · exact h.dis e h5 e' h7 hne b hb
  · rcases mem_gput.1 he with rfl | ⟨h4, h5⟩
    · rcases hv b hb with h6 | h6
      · exact .inl (h2 b h6.symm)
      · exact .inr ⟨h6, ho.own_lt b hb⟩
    · exact .inl (h.foot e h5 b hb)
end
end Go.Por
end
section
set_option linter.unusedVariables false
set_option linter.unusedSimpArgs false
namespace Go.Por
open Go.RowKit
section
variable {κ α : Type} {w : World} {M : Nat} {enc : κ → Value} {f : α → List Value} {c : Nat} {E : TypeId} {F : Nat → Prop} {l : List (κ × (Value × List α))}
/-- The blocks of the lists. -/
def blk (l : List (κ × (Value × List α))) (b : Nat) : Prop := ∃ e ∈ l, e.2.1.ownBlock = some b
theorem SlMap.tight (h : SlMap w M enc f c E F l) : SlMap w M enc f c E (blk l) l := ⟨h.map, h.own, h.dis, fun e he b hb => ⟨e, he, hb⟩⟩
theorem SlMap.blk_lt (h : SlMap w M enc f c E F l) : ∀ b, blk l b → b < w.heap.size := fun b ⟨e, he, hb⟩ => (h.own e he).own_lt b hb
theorem SlMap.blk_F (h : SlMap w M enc f c E F l) : ∀ b, blk l b → F b := fun b ⟨e, he, hb⟩ => h.foot e he b hb
theorem SlMap.blk_ne (h : SlMap w M enc f c E F l) {b : Nat} {cs : Array Value} {t : TypeId} {fr : Nat × Nat} (hb : w.heap[b]? = some (.cells cs t fr)) (hne : t ≠ E) : ¬ blk l b := fun ⟨e, he, h1⟩ => by
  have ho := h.own e he
  rcases ho.form with ⟨h2, _⟩ | ⟨g, cap, h2, _, _⟩
  · rw [h2] at h1; simp [Value.ownBlock] at h1
  · rw [h2] at h1 ho
    obtain ⟨cur, h3, _⟩ := ho.block
    simp only [Value.ownBlock, Option.some.injEq] at h1
    rw [h1, hb] at h3
    injection h3 with h3
    injection h3 with _ h4 _
    exact hne h4
theorem SlMap.blk_map (h : SlMap w M enc f c E F l) {κ' : Type} {enc' : κ' → Value} {M' : Nat} {l' : List (κ' × Value)} (hm : MapIs w M' enc' l') : ¬ blk l M' := fun ⟨e, he, h1⟩ => (h.own e he).ne_map hm M' h1 rfl
theorem SlMap.blk_two {κ' α' : Type} {enc' : κ' → Value} {f' : α' → List Value} {c' : Nat} {E' : TypeId} {F' : Nat → Prop} {M' : Nat} {l' : List (κ' × (Value × List α'))} (h : SlMap w M enc f c E F l) (h' : SlMap w M' enc' f' c' E' F' l') (hne : E ≠ E') : ∀ b, blk l b → ¬ blk l' b := fun b ⟨e, he, h1⟩ => by
  have ho := h.own e he
  rcases ho.form with ⟨h2, _⟩ | ⟨g, cap, h2, _, _⟩
  · rw [h2] at h1; simp [Value.ownBlock] at h1
  · rw [h2] at h1 ho
    obtain ⟨cur, h3, _⟩ := ho.block
    simp only [Value.ownBlock, Option.some.injEq] at h1
    rw [h1] at h3
    exact h'.blk_ne h3 hne
theorem slv_blk [DecidableEq κ] {k : κ} {b : Nat} (h : some b = (slv l k).ownBlock) : blk l b := by
  unfold slv at h
  cases hg : gfind l k with
  | none => rw [hg] at h; simp [Value.ownBlock] at h
  | some p =>
    rw [hg] at h
    exact ⟨_, gfind_mem hg, h.symm⟩
end
end Go.Por
namespace Go.Proofs.YtojjnfhgldjgbaaGreatDoor.Store
open Go.RowKit Go.Por Go.Sort Go.Proofs.YtojjnfhgldjgbaaGreatDoor.Watch
section
variable {w w' : World} {s O U M MO MU : Nat} {F : Nat → Prop} {lm lm' : List (Tup × (Value × List Span))} {lo lo' : List (PairT × (Value × List Tup))} {lu lu' : List (ByteArray × (Value × List Tup))} {wm : Int}
/-- The blocks of the store, later. -/
def grew (F : Nat → Prop) (w w' : World) (b : Nat) : Prop := F b ∨ (w.heap.size ≤ b ∧ b < w'.heap.size)
theorem StMem.weaken {F' : Nat → Prop} (h : StMem w s O U M MO MU F lm lo lu wm) (hF : ∀ b, F b → F' b) (hl : ∀ b, F' b → b < w.heap.size) : StMem w s O U M MO MU F' lm lo lu wm :=
  ⟨h.hs, h.hO, h.hU, h.m.weaken hF, h.o.weaken hF, h.u.weaken hF, h.dis, h.ne1, h.ne2, h.ne3, hF _ h.fs, hF _ h.fO, hF _ h.fU, hF _ h.fM, hF _ h.fMO, hF _ h.fMU, hl⟩
theorem StMem.nm (h : StMem w s O U M MO MU F lm lo lu wm) {b : Nat} {cs : Array Value} {t : TypeId} {fr : Nat × Nat} (hb : w.heap[b]? = some (.cells cs t fr)) : b ≠ M ∧ b ≠ MO ∧ b ≠ MU := by
  refine ⟨fun e => ?_, fun e => ?_, fun e => ?_⟩
  · obtain ⟨es, ck, hm, _⟩ := h.m.map; rw [← e, hb] at hm; cases hm
  · obtain ⟨es, ck, hm, _⟩ := h.o.map; rw [← e, hb] at hm; cases hm
  · obtain ⟨es, ck, hm, _⟩ := h.u.map; rw [← e, hb] at hm; cases hm
theorem StMem.setM (h : StMem w s O U M MO MU F lm lo lu wm) (hm : Mod (fun b => b = M ∨ blk lm b) w w') (hs : SlMap w' M encT spanC 2 119 (fun b => blk lm b ∨ (w.heap.size ≤ b ∧ b < w'.heap.size)) lm') : StMem w' s O U M MO MU (grew F w w') lm' lo lu wm := by
  have nS : ∀ (b : Nat) (cs : Array Value) (t : TypeId), t ≠ 119 → w.heap[b]? = some (.cells cs t (0, 0)) → ¬ (b = M ∨ blk lm b) := fun b cs t ht hb hh => by
    rcases hh with e | hh
    · exact (h.nm hb).1 e
    · exact h.m.blk_ne hb ht hh
  have nO : ∀ b, blk lo b → ¬ (b = M ∨ blk lm b) := fun b hb hh => by
    rcases hh with e | hh
    · rw [e] at hb; exact h.o.blk_map h.m.map hb
    · exact h.m.blk_two h.o (by decide) b hh hb
  have nU : ∀ b, blk lu b → ¬ (b = M ∨ blk lm b) := fun b hb hh => by
    rcases hh with e | hh
    · rw [e] at hb; exact h.u.blk_map h.m.map hb
    · exact h.m.blk_two h.u (by decide) b hh hb
  have nMO : ¬ (MO = M ∨ blk lm MO) := fun hh => by
    rcases hh with e | hh
    · exact h.ne1 e.symm
    · exact h.m.blk_map h.o.map hh
  have nMU : ¬ (MU = M ∨ blk lm MU) := fun hh => by
    rcases hh with e | hh
    · exact h.ne2 e.symm
    · exact h.m.blk_map h.u.map hh
  refine ⟨hm.old h.hs (nS _ _ _ (by decide) h.hs), hm.old h.hO (nS _ _ _ (by decide) h.hO), hm.old h.hU (nS _ _ _ (by decide) h.hU), hs.weaken (fun b hb => ?_), (h.o.mod hm nMO (fun e he b hb => nO b ⟨e, he, hb⟩)).weaken (fun b hb => .inl hb), (h.u.mod hm nMU (fun e he b hb => nU b ⟨e, he, hb⟩)).weaken (fun b hb => .inl hb), h.dis, h.ne1, h.ne2, h.ne3, .inl h.fs, .inl h.fO, .inl h.fU, .inl h.fM, .inl h.fMO, .inl h.fMU, fun b hb => ?_⟩
  · rcases hb with hb | hb
    · exact .inl (h.m.blk_F b hb)
    · exact .inr hb
  · rcases hb with hb | hb
    · exact Nat.lt_of_lt_of_le (h.lt b hb) hm.size
    · exact hb.2
theorem StMem.setO (h : StMem w s O U M MO MU F lm lo lu wm) (hm : Mod (fun b => b = MO ∨ blk lo b) w w') (hs : SlMap w' MO encP tupC 3 41 (fun b => blk lo b ∨ (w.heap.size ≤ b ∧ b < w'.heap.size)) lo') : StMem w' s O U M MO MU (grew F w w') lm lo' lu wm := by
  have nS : ∀ (b : Nat) (cs : Array Value) (t : TypeId), t ≠ 41 → w.heap[b]? = some (.cells cs t (0, 0)) → ¬ (b = MO ∨ blk lo b) := fun b cs t ht hb hh => by
    rcases hh with e | hh
    · exact (h.nm hb).2.1 e
    · exact h.o.blk_ne hb ht hh
  have nM : ∀ b, blk lm b → ¬ (b = MO ∨ blk lo b) := fun b hb hh => by
    rcases hh with e | hh
    · rw [e] at hb; exact h.m.blk_map h.o.map hb
    · exact h.o.blk_two h.m (by decide) b hh hb
  have nU : ∀ b, blk lu b → ¬ (b = MO ∨ blk lo b) := fun b hb hh => by
    rcases hh with e | ⟨e1, he1, hh⟩
    · rw [e] at hb; exact h.u.blk_map h.o.map hb
    · obtain ⟨e2, he2, hb⟩ := hb
      exact h.dis e1 he1 e2 he2 b hh hb
  have nMM : ¬ (M = MO ∨ blk lo M) := fun hh => by
    rcases hh with e | hh
    · exact h.ne1 e
    · exact h.o.blk_map h.m.map hh
  have nMU : ¬ (MU = MO ∨ blk lo MU) := fun hh => by
    rcases hh with e | hh
    · exact h.ne3 e.symm
    · exact h.o.blk_map h.u.map hh
  refine ⟨hm.old h.hs (nS _ _ _ (by decide) h.hs), hm.old h.hO (nS _ _ _ (by decide) h.hO), hm.old h.hU (nS _ _ _ (by decide) h.hU), (h.m.mod hm nMM (fun e he b hb => nM b ⟨e, he, hb⟩)).weaken (fun b hb => .inl hb), hs.weaken (fun b hb => ?_), (h.u.mod hm nMU (fun e he b hb => nU b ⟨e, he, hb⟩)).weaken (fun b hb => .inl hb), fun e he e' he' b hb hb' => ?_, h.ne1, h.ne2, h.ne3, .inl h.fs, .inl h.fO, .inl h.fU, .inl h.fM, .inl h.fMO, .inl h.fMU, fun b hb => ?_⟩
  · rcases hb with hb | hb
    · exact .inl (h.o.blk_F b hb)
    · exact .inr hb
  · have hlu := h.u.blk_lt b ⟨e', he', hb'⟩
    rcases hs.foot e he b hb with ⟨e2, he2, h2⟩ | h2
    · exact h.dis e2 he2 e' he' b h2 hb'
    · omega
  · rcases hb with hb | hb
    · exact Nat.lt_of_lt_of_le (h.lt b hb) hm.size
    · exact hb.2
theorem StMem.setU (h : StMem w s O U M MO MU F lm lo lu wm) (hm : Mod (fun b => b = MU ∨ blk lu b) w w') (hs : SlMap w' MU (fun s => .string s) tupC 3 41 (fun b => blk lu b ∨ (w.heap.size ≤ b ∧ b < w'.heap.size)) lu') : StMem w' s O U M MO MU (grew F w w') lm lo lu' wm := by
  have nS : ∀ (b : Nat) (cs : Array Value) (t : TypeId), t ≠ 41 → w.heap[b]? = some (.cells cs t (0, 0)) → ¬ (b = MU ∨ blk lu b) := fun b cs t ht hb hh => by
    rcases hh with e | hh
    · exact (h.nm hb).2.2 e
    · exact h.u.blk_ne hb ht hh
  have nM : ∀ b, blk lm b → ¬ (b = MU ∨ blk lu b) := fun b hb hh => by
    rcases hh with e | hh
    · rw [e] at hb; exact h.m.blk_map h.u.map hb
    · exact h.u.blk_two h.m (by decide) b hh hb
  have nO : ∀ b, blk lo b → ¬ (b = MU ∨ blk lu b) := fun b hb hh => by
    rcases hh with e | ⟨e1, he1, hh⟩
    · rw [e] at hb; exact h.o.blk_map h.u.map hb
    · obtain ⟨e2, he2, hb⟩ := hb
      exact h.dis e2 he2 e1 he1 b hb hh
  have nMM : ¬ (M = MU ∨ blk lu M) := fun hh => by
    rcases hh with e | hh
    · exact h.ne2 e
    · exact h.u.blk_map h.m.map hh
  have nMO : ¬ (MO = MU ∨ blk lu MO) := fun hh => by
    rcases hh with e | hh
    · exact h.ne3 e
    · exact h.u.blk_map h.o.map hh
  refine ⟨hm.old h.hs (nS _ _ _ (by decide) h.hs), hm.old h.hO (nS _ _ _ (by decide) h.hO), hm.old h.hU (nS _ _ _ (by decide) h.hU), (h.m.mod hm nMM (fun e he b hb => nM b ⟨e, he, hb⟩)).weaken (fun b hb => .inl hb), (h.o.mod hm nMO (fun e he b hb => nO b ⟨e, he, hb⟩)).weaken (fun b hb => .inl hb), hs.weaken (fun b hb => ?_), fun e he e' he' b hb hb' => ?_, h.ne1, h.ne2, h.ne3, .inl h.fs, .inl h.fO, .inl h.fU, .inl h.fM, .inl h.fMO, .inl h.fMU, fun b hb => ?_⟩
  · rcases hb with hb | hb
    · exact .inl (h.u.blk_F b hb)
    · exact .inr hb
  · have hlo := h.o.blk_lt b ⟨e, he, hb⟩
    rcases hs.foot e' he' b hb' with ⟨e2, he2, h2⟩ | h2
    · exact h.dis e he e2 he2 b hb h2
    · omega
  · rcases hb with hb | hb
    · exact Nat.lt_of_lt_of_le (h.lt b hb) hm.size
    · exact hb.2
end
end Go.Proofs.YtojjnfhgldjgbaaGreatDoor.Store
end
section
set_option linter.unusedVariables false
set_option linter.unusedSimpArgs false
namespace Go.Proofs.YtojjnfhgldjgbaaGreatDoor.Store
open Go.RowKit Go.Por Go.Sort Go.Proofs.YtojjnfhgldjgbaaGreatDoor.Watch
section
variable {w : World} {s O U M MO MU : Nat} {F : Nat → Prop} {lm : List (Tup × (Value × List Span))} {lo : List (PairT × (Value × List Tup))} {lu : List (ByteArray × (Value × List Tup))} {wm : Int}
/-- No list is longer than N. -/
structure Short (N : Nat) (lm : List (Tup × (Value × List Span))) (lo : List (PairT × (Value × List Tup))) (lu : List (ByteArray × (Value × List Tup))) : Prop where
  m : ∀ k, (aget (smc lm) k).length ≤ N
  o : ∀ k, (aget (smc lo) k).length ≤ N
  u : ∀ k, (aget (smc lu) k).length ≤ N
set_option maxRecDepth 100000 in
set_option maxHeartbeats 4000000 in
theorem add_mem (h : StMem w s O U M MO MU F lm lo lu wm) {N : Nat} (hN : Short N lm lo lu) (hN2 : N ≤ 1099511627776) (t : Tup) (x : Span) : Calls Tryz.prog 60 #[.pointer (some ⟨s, 0, none⟩), .agg (tupC t).toArray, .agg (spanC x).toArray] w fun e w' => e = .returned (.tuple #[]) ∧
    ∃ lm' lo' lu', StMem w' s O U M MO MU (grew F w w') lm' lo' lu' wm ∧ smc lm' = gput (smc lm) t (aget (smc lm) t ++ [x]) ∧ smc lo' = putC (smc lo) (t.1, t.2.1) t ∧ smc lu' = putC (smc lu) t.2.2 t ∧ Mod F w w' := by
  obtain ⟨t0, t1, t2⟩ := t
  obtain ⟨x0, x1⟩ := x
  obtain ⟨K, hK⟩ : ∃ K, w.heap.size = K := ⟨_, rfl⟩
  obtain ⟨v, hv⟩ : ∃ v, slv lm (t0, t1, t2) = v := ⟨_, rfl⟩
  obtain ⟨W1, hW1⟩ : ∃ W1, (w.alloc (.cells #[.string t0, .string t1, .string t2] 41)).alloc (.cells #[.int .i64 x0, .int .i64 x1] 119) = W1 := ⟨_, rfl⟩
  have m1 : Mod (fun _ => False) w W1 := by rw [← hW1]; exact ((Mod.refl _ w).alloc _).alloc _
  have hs1 : W1.heap.size = K + 2 := by rw [← hW1, World.size_alloc, World.size_alloc, hK]
  have hT1 : W1.heap[K]? = some (.cells #[.string t0, .string t1, .string t2] 41 (0, 0)) := by rw [← hW1, ← hK]; exact block_alloc (block_new w _) _
  have hR1 : W1.heap[K + 1]? = some (.cells #[.int .i64 x0, .int .i64 x1] 119 (0, 0)) := by
    have h1 := block_new (w.alloc (.cells #[.string t0, .string t1, .string t2] 41)) (.cells #[.int .i64 x0, .int .i64 x1] 119)
    rw [World.size_alloc, hK] at h1
    rw [← hW1]
    exact h1
  have h1 : StMem W1 s O U M MO MU F lm lo lu wm := h.mod m1 (fun _ _ h => h)
  have hlen := hN.m (t0, t1, t2)
  obtain ⟨st, w3, hr3, hm3, v', w5, w6, hr5, hm5, hr6, hm6, hs6⟩ := SlMap.pushE (tm := 104) (h1.m.tight.mod (((Mod.refl (fun _ => False) W1).drew).alloc (.cells #[.int .i64 x0, .int .i64 x1] 119)) id (fun _ _ _ _ h => h)) elemSpan keyTup Tryz.underlying104 (zeroSpans _) (t0, t1, t2) (x0, x1) 116 (block_new W1.drew (.cells #[.int .i64 x0, .int .i64 x1] 119)) (by omega) (by unfold maxLen; omega)
  have e2 : W1.drew.heap.size = K + 2 := hs1
  have m2 : Mod (fun _ => False) W1 (W1.drew.alloc (.cells #[.int .i64 x0, .int .i64 x1] 119)) := ((Mod.refl _ W1).drew).alloc _
  have s2 : (W1.drew.alloc (.cells #[.int .i64 x0, .int .i64 x1] 119)).heap.size = K + 3 := by rw [World.size_alloc, e2]
  obtain ⟨n1, n2, n3⟩ := h1.nm hT1
  obtain ⟨n4, n5, n6⟩ := h1.nm hR1
  obtain ⟨n7, n8, n9⟩ := h1.nm h1.hs
  have fT : ¬ blk lm K := fun hb => by have := h.m.blk_lt K hb; omega
  have fR : ¬ blk lm (K + 1) := fun hb => by have := h.m.blk_lt (K + 1) hb; omega
  have fs : ¬ blk lm s := h1.m.blk_ne h1.hs (by decide)
  have q3 := hm3.old (m2.old h1.hs id) n7
  have q3' := hm3.old (m2.old hT1 id) n1
  have q3'' := hm3.old (m2.old hR1 id) n4
  have q5 := hm5.old q3 (fun e => fs (slv_blk e))
  have q5' := hm5.old q3' (fun e => fT (slv_blk e))
  have q5'' := hm5.old q3'' (fun e => fR (slv_blk e))
  have q6 := hm6.old q5 n7
  have q6' := hm6.old q5' n1
  have q6'' := hm6.old q5'' n4
  have hr3' : (Instr.mapEntry 104 (.map (some M)) (.agg #[.string t0, .string t1, .string t2])).run Tryz.prog (W1.alloc (.cells #[.int .i64 x0, .int .i64 x1] 119)).drew = .ok (.tuple #[v, goInt st]) w3 := by rw [← hv]; exact hr3
  rw [hv] at hr5
  have hgo : goInt (st : Int) = .int .i64 (st : Int) := rfl
  have m16 : Mod (fun b => b = M ∨ blk lm b) w w6 := by
    have a1 : Mod (fun b => b = M ∨ blk lm b) w (W1.drew.alloc (.cells #[.int .i64 x0, .int .i64 x1] 119)) := (m1.trans' m2).mono (fun _ _ h => h.elim)
    exact ((a1.trans hm3 (fun b hb => .inl (.inl hb))).trans hm5 (fun b hb => .inl (.inr (slv_blk hb)))).trans hm6 (fun b hb => .inl (.inl hb))
  have hs6' : SlMap w6 M encT spanC 2 119 (fun b => blk lm b ∨ (w.heap.size ≤ b ∧ b < w6.heap.size)) (gput lm (t0, t1, t2) (v', aget (smc lm) (t0, t1, t2) ++ [(x0, x1)])) := hs6.weaken (fun b hb => by
    have := hm6.size
    rcases hb with hb | hb
    · exact .inl hb
    · exact .inr ⟨by omega, by omega⟩)
  have hA := h.setM m16 hs6'
  have HH := Lib.hid (And.intro h1.hs (And.intro hT1 hR1))
  have HB := Lib.hid (And.intro (And.intro q3 (And.intro q3' q3'')) (And.intro (And.intro q5 (And.intro q5' q5'')) (And.intro q6 (And.intro q6' q6''))))
  have HA := Lib.hid (And.intro hA (And.intro m16 (And.intro hN (And.intro hN2 (And.intro hK (And.intro h.lt (And.intro h.o.blk_lt (And.intro h.u.blk_lt (And.intro (fun b (hb : b = M ∨ blk lm b) => hb.elim (fun e => e ▸ h.fM) (h.m.blk_F b)) (And.intro (fun b (hb : b = MO ∨ blk lo b) => hb.elim (fun e => e ▸ h.fMO) (h.o.blk_F b)) (fun b (hb : b = MU ∨ blk lu b) => hb.elim (fun e => e ▸ h.fMU) (h.u.blk_F b))))))))))))
  have HR5 := Lib.hid hr5
  have HR6 := Lib.hid hr6
  clear h hN hlen m1 hT1 hR1 h1 hm3 hm5 hm6 hs6 hr3 hr5 hr6 e2 m2 s2 n1 n2 n3 n4 n5 n6 n7 n8 n9 fT fR fs q3 q3' q3'' q5 q5' q5'' q6 q6' q6'' m16 hs6' hA hs1 hN2
  unfold tupC spanC
  go_enter Tryz.func60, Tryz.ntmps60
  go_upto_region 1 with fail
  clear hW1 hK
  refine wp_region_held_drew (S := fun w' => w'.heap[s]? = some (.cells #[.map (some M), .pointer (some ⟨O, 0, none⟩), .pointer (some ⟨U, 0, none⟩), .int .i64 wm] 111 (0, 0)) ∧ w'.heap[K]? = some (.cells #[.string t0, .string t1, .string t2] 41 (0, 0)) ∧ w'.heap[K + 1]? = some (.cells #[.int .i64 x0, .int .i64 x1] 119 (0, 0))) (by kernel_rfl) HH.out (fun hS => ?_)
  refine takeD (i := 0) rfl (by kernel_rfl) (by kernel_rfl) (by kernel_rfl) (fun _ _ _ h => h) hS (Or.inl ⟨by rfl, fun w hSw => by go_simp; rfl⟩) ?_
  simp only [Act.put, List.setIfInBounds_toArray, List.set_cons_zero, List.set_cons_succ]
  refine takeD (i := 1) rfl (by kernel_rfl) (by kernel_rfl) (by kernel_rfl) (fun _ _ _ h => h) hS (Or.inl ⟨by rfl, fun w hSw => by go_simp; rfl⟩) ?_
  simp only [Act.put, List.setIfInBounds_toArray, List.set_cons_zero, List.set_cons_succ]
  refine takeD (i := 2) rfl (by kernel_rfl) (by kernel_rfl) (by kernel_rfl) (fun _ _ _ h => h) hS (Or.inl ⟨by rfl, fun w hSw => by go_simp; rfl⟩) ?_
  simp only [Act.put, List.setIfInBounds_toArray, List.set_cons_zero, List.set_cons_succ]
  refine takeD (i := 3) (v := (.map (some M))) rfl (by kernel_rfl) (by kernel_rfl) (by kernel_rfl) (fun _ _ _ h => h) hS (Or.inl ⟨by rfl, fun w hSw => by have c := cell_of (i := 0) hSw.1 rfl; go_simp⟩) ?_
  simp only [Act.put, List.setIfInBounds_toArray, List.set_cons_zero, List.set_cons_succ]
  refine takeD (i := 4) rfl (by kernel_rfl) (by kernel_rfl) (by kernel_rfl) (fun _ _ _ h => h) hS (yieldsIf_load_mid (by rfl) 41 (.tmp 4) rfl K 0 rfl ([.string t0, .string t1, .string t2]) _ (fun w hSw => row_range hSw.2.1) Tryz.underlying41 rfl infoTup0) ?_
  simp only [Act.put, List.setIfInBounds_toArray, List.set_cons_zero, List.set_cons_succ]
  refine takeD (i := 5) rfl (by kernel_rfl) (by kernel_rfl) (by kernel_rfl) (fun _ _ _ h => h) hS (yieldsIf_load_mid (by rfl) 119 (.tmp 5) rfl (K + 1) 0 rfl ([.int .i64 x0, .int .i64 x1]) _ (fun w hSw => row_range hSw.2.2) Tryz.underlying119 rfl infoSpan) ?_
  simp only [Act.put, List.setIfInBounds_toArray, List.set_cons_zero, List.set_cons_succ]
  refine wpAnyH_ready (rs := [6]) (by kernel_rfl) (by simp) ?_
  refine consD (i := 6) rfl (fun K' hK' => ?_) AllReadyH.nil
  rw [if_pos (by rfl)]
  go_simp
  refine hK'.out _ _ ⟨block_alloc hS.1 _, block_alloc hS.2.1 _, block_alloc hS.2.2 _⟩ (fun hS => ?_)
  clear hK' K'
  refine wpAnyH_ready (rs := [7]) (by kernel_rfl) (by simp) ?_
  refine consD (i := 7) rfl (fun K' hK' => ?_) AllReadyH.nil
  rw [if_pos (by rfl)]
  go_simp
  clear hr3'
  refine hK'.out _ _ HB.out.1 (fun hS => ?_)
  clear hK' K'
  refine takeD (i := 8) (v := v) rfl (by kernel_rfl) (by kernel_rfl) (by kernel_rfl) (fun _ _ _ h => h) hS (Or.inl ⟨by rfl, fun w hSw => by go_simp⟩) ?_
  simp only [Act.put, List.setIfInBounds_toArray, List.set_cons_zero, List.set_cons_succ]
  refine takeD (i := 10) (v := (.int .i64 (st : Int))) rfl (by kernel_rfl) (by kernel_rfl) (by kernel_rfl) (fun _ _ _ h => h) hS (Or.inl ⟨by rfl, fun w hSw => by go_simp⟩) ?_
  simp only [Act.put, List.setIfInBounds_toArray, List.set_cons_zero, List.set_cons_succ]
  refine wpAnyH_ready (rs := [9]) (by kernel_rfl) (by simp) ?_
  refine consD (i := 9) rfl (fun K' hK' => ?_) AllReadyH.nil
  refine step_append_run rfl (.tmp 11) (.tmp 13) 116 rfl _ _ _ _ rfl rfl HR5.out ?_
  refine hK'.out _ _ HB.out.2.1 (fun hS => ?_)
  clear hK' K'
  refine wpAnyH_ready (rs := [11]) (by kernel_rfl) (by simp) ?_
  refine consD (i := 11) rfl (fun K' hK' => ?_) AllReadyH.nil
  rw [if_pos (by rfl)]
  have hr6' : (Instr.entryStore 104 (.map (some M)) (.int .i64 (st : Int)) v').run Tryz.prog w5 = .ok () w6 := HR6.out
  go_simp
  clear hr6'
  refine hK'.out _ _ HB.out.2.2 (fun hS => ?_)
  clear hK' K' hS
  refine wpAnyH_done (by kernel_rfl) ?_ _
  simp only [Exit.then]
  go_upto_region 2 with fail
  clear HR5 HR6 hgo
  obtain ⟨lm', hlm⟩ : ∃ lm', gput lm (t0, t1, t2) (v', aget (smc lm) (t0, t1, t2) ++ [(x0, x1)]) = lm' := ⟨_, rfl⟩
  have hlm2 : smc lm' = gput (smc lm) (t0, t1, t2) (aget (smc lm) (t0, t1, t2) ++ [(x0, x1)]) := by rw [← hlm, smc_gput]
  rw [hlm] at HA
  have HL := Lib.hid hlm2
  clear hlm hlm2 hv
  refine wp_region_held_drew (S := fun w' => w'.heap[s]? = some (.cells #[.map (some M), .pointer (some ⟨O, 0, none⟩), .pointer (some ⟨U, 0, none⟩), .int .i64 wm] 111 (0, 0)) ∧ w'.heap[K]? = some (.cells #[.string t0, .string t1, .string t2] 41 (0, 0)) ∧ w'.heap[K + 1]? = some (.cells #[.int .i64 x0, .int .i64 x1] 119 (0, 0))) (by kernel_rfl) HB.out.2.2 (fun hS => ?_)
  refine takeD (i := 0) rfl (by kernel_rfl) (by kernel_rfl) (by kernel_rfl) (fun _ _ _ h => h) hS (Or.inl ⟨by rfl, fun w hSw => by go_simp; rfl⟩) ?_
  simp only [Act.put, List.setIfInBounds_toArray, List.set_cons_zero, List.set_cons_succ]
  refine takeD (i := 1) rfl (by kernel_rfl) (by kernel_rfl) (by kernel_rfl) (fun _ _ _ h => h) hS (Or.inl ⟨by rfl, fun w hSw => by go_simp; rfl⟩) ?_
  simp only [Act.put, List.setIfInBounds_toArray, List.set_cons_zero, List.set_cons_succ]
  refine takeD (i := 2) rfl (by kernel_rfl) (by kernel_rfl) (by kernel_rfl) (fun _ _ _ h => h) hS (Or.inl ⟨by rfl, fun w hSw => by go_simp; rfl⟩) ?_
  simp only [Act.put, List.setIfInBounds_toArray, List.set_cons_zero, List.set_cons_succ]
  refine takeD (i := 3) (v := (.pointer (some ⟨O, 0, none⟩))) rfl (by kernel_rfl) (by kernel_rfl) (by kernel_rfl) (fun _ _ _ h => h) hS (Or.inl ⟨by rfl, fun w hSw => by have c := cell_of (i := 1) hSw.1 rfl; go_simp⟩) ?_
  simp only [Act.put, List.setIfInBounds_toArray, List.set_cons_zero, List.set_cons_succ]
  refine takeD (i := 4) rfl (by kernel_rfl) (by kernel_rfl) (by kernel_rfl) (fun _ _ _ h => h) hS (Or.inl ⟨by rfl, fun w hSw => by go_simp; rfl⟩) ?_
  simp only [Act.put, List.setIfInBounds_toArray, List.set_cons_zero, List.set_cons_succ]
  refine takeD (i := 5) (v := (.string t0)) rfl (by kernel_rfl) (by kernel_rfl) (by kernel_rfl) (fun _ _ _ h => h) hS (Or.inl ⟨by rfl, fun w hSw => by have c := cell_of (i := 0) hSw.2.1 rfl; go_simp⟩) ?_
  simp only [Act.put, List.setIfInBounds_toArray, List.set_cons_zero, List.set_cons_succ]
  refine takeD (i := 6) rfl (by kernel_rfl) (by kernel_rfl) (by kernel_rfl) (fun _ _ _ h => h) hS (Or.inl ⟨by rfl, fun w hSw => by go_simp; rfl⟩) ?_
  simp only [Act.put, List.setIfInBounds_toArray, List.set_cons_zero, List.set_cons_succ]
  refine takeD (i := 7) (v := (.string t1)) rfl (by kernel_rfl) (by kernel_rfl) (by kernel_rfl) (fun _ _ _ h => h) hS (Or.inl ⟨by rfl, fun w hSw => by have c := cell_of (i := 1) hSw.2.1 rfl; go_simp⟩) ?_
  simp only [Act.put, List.setIfInBounds_toArray, List.set_cons_zero, List.set_cons_succ]
  refine takeD (i := 8) rfl (by kernel_rfl) (by kernel_rfl) (by kernel_rfl) (fun _ _ _ h => h) hS (Or.inl ⟨by rfl, fun w hSw => by go_simp; rfl⟩) ?_
  simp only [Act.put, List.setIfInBounds_toArray, List.set_cons_zero, List.set_cons_succ]
  refine takeD (i := 9) rfl (by kernel_rfl) (by kernel_rfl) (by kernel_rfl) (fun _ _ _ h => h) hS (yieldsIf_load_mid (by rfl) 41 (.tmp 4) rfl K 0 rfl ([.string t0, .string t1, .string t2]) _ (fun w hSw => row_range hSw.2.1) Tryz.underlying41 rfl infoTup0) ?_
  simp only [Act.put, List.setIfInBounds_toArray, List.set_cons_zero, List.set_cons_succ]
  refine wpAnyH_ready (rs := [10]) (by kernel_rfl) (by simp) ?_
  refine consD (i := 10) rfl (fun K' hK' => ?_) AllReadyH.nil
  rw [if_pos (by rfl)]
  go_simp
  have hA6 : StMem w6.drew s O U M MO MU (grew F w w6) lm' lo lu wm := HA.out.1.mod ((Mod.refl (fun _ => False) w6).drew) (fun _ _ h => h)
  refine (putO hA6.hO hA6.o.tight hA6.o.blk_lt (t0, t1) (t0, t1, t2) (Nat.le_trans (HA.out.2.2.1.o _) HA.out.2.2.2.1)).mono ?_
  rintro e w7 ⟨rfl, lo', hs7, hlo, hm7⟩
  have hm7' : Mod (fun b => b = MO ∨ blk lo b) w6.drew w7 := hm7.mono (fun b _ hb => hb.imp id slv_blk)
  have hA7 := hA6.setO hm7' hs7
  have k1 := hm7'.old hS.1 (fun hb => hb.elim (hA6.nm hS.1).2.1 (fun hb => hA6.o.blk_ne hS.1 (by decide) hb))
  have kK : ∀ b, blk lo b → b < K := fun b hb => by rw [← HA.out.2.2.2.2.1]; exact HA.out.2.2.2.2.2.2.1 b hb
  have k2 := hm7'.old hS.2.1 (fun hb => hb.elim (hA6.nm hS.2.1).2.1 (fun hb => by have := kK _ hb; omega))
  have k3 := hm7'.old hS.2.2 (fun hb => hb.elim (hA6.nm hS.2.2).2.1 (fun hb => by have := kK _ hb; omega))
  dsimp only
  refine hK'.out _ _ ⟨k1, k2, k3⟩ (fun hS' => ?_)
  clear hK' K' hS'
  have H7 := Lib.hid (And.intro hA7 (And.intro hlo (And.intro hm7' (And.intro k1 (And.intro k2 k3)))))
  clear hA6 hs7 hlo hm7 hm7' hA7 k1 k2 k3 kK hS
  refine wpAnyH_done (by kernel_rfl) ?_ _
  simp only [Exit.then]
  go_upto_region 3 with fail
  refine wp_region_held_drew (S := fun w' => w'.heap[s]? = some (.cells #[.map (some M), .pointer (some ⟨O, 0, none⟩), .pointer (some ⟨U, 0, none⟩), .int .i64 wm] 111 (0, 0)) ∧ w'.heap[K]? = some (.cells #[.string t0, .string t1, .string t2] 41 (0, 0)) ∧ w'.heap[K + 1]? = some (.cells #[.int .i64 x0, .int .i64 x1] 119 (0, 0))) (by kernel_rfl) H7.out.2.2.2 (fun hS => ?_)
  refine takeD (i := 0) rfl (by kernel_rfl) (by kernel_rfl) (by kernel_rfl) (fun _ _ _ h => h) hS (Or.inl ⟨by rfl, fun w hSw => by go_simp; rfl⟩) ?_
  simp only [Act.put, List.setIfInBounds_toArray, List.set_cons_zero, List.set_cons_succ]
  refine takeD (i := 1) rfl (by kernel_rfl) (by kernel_rfl) (by kernel_rfl) (fun _ _ _ h => h) hS (Or.inl ⟨by rfl, fun w hSw => by go_simp; rfl⟩) ?_
  simp only [Act.put, List.setIfInBounds_toArray, List.set_cons_zero, List.set_cons_succ]
  refine takeD (i := 2) rfl (by kernel_rfl) (by kernel_rfl) (by kernel_rfl) (fun _ _ _ h => h) hS (Or.inl ⟨by rfl, fun w hSw => by go_simp; rfl⟩) ?_
  simp only [Act.put, List.setIfInBounds_toArray, List.set_cons_zero, List.set_cons_succ]
  refine takeD (i := 3) (v := (.pointer (some ⟨U, 0, none⟩))) rfl (by kernel_rfl) (by kernel_rfl) (by kernel_rfl) (fun _ _ _ h => h) hS (Or.inl ⟨by rfl, fun w hSw => by have c := cell_of (i := 2) hSw.1 rfl; go_simp⟩) ?_
  simp only [Act.put, List.setIfInBounds_toArray, List.set_cons_zero, List.set_cons_succ]
  refine takeD (i := 4) rfl (by kernel_rfl) (by kernel_rfl) (by kernel_rfl) (fun _ _ _ h => h) hS (Or.inl ⟨by rfl, fun w hSw => by go_simp; rfl⟩) ?_
  simp only [Act.put, List.setIfInBounds_toArray, List.set_cons_zero, List.set_cons_succ]
  refine takeD (i := 5) (v := (.string t2)) rfl (by kernel_rfl) (by kernel_rfl) (by kernel_rfl) (fun _ _ _ h => h) hS (Or.inl ⟨by rfl, fun w hSw => by have c := cell_of (i := 2) hSw.2.1 rfl; go_simp⟩) ?_
  simp only [Act.put, List.setIfInBounds_toArray, List.set_cons_zero, List.set_cons_succ]
  refine takeD (i := 6) rfl (by kernel_rfl) (by kernel_rfl) (by kernel_rfl) (fun _ _ _ h => h) hS (yieldsIf_load_mid (by rfl) 41 (.tmp 4) rfl K 0 rfl ([.string t0, .string t1, .string t2]) _ (fun w hSw => row_range hSw.2.1) Tryz.underlying41 rfl infoTup0) ?_
  simp only [Act.put, List.setIfInBounds_toArray, List.set_cons_zero, List.set_cons_succ]
  refine wpAnyH_ready (rs := [7]) (by kernel_rfl) (by simp) ?_
  refine consD (i := 7) rfl (fun K' hK' => ?_) AllReadyH.nil
  rw [if_pos (by rfl)]
  go_simp
  have hA8 : StMem w7.drew s O U M MO MU (grew (grew F w w6) w6.drew w7) lm' lo' lu wm := H7.out.1.mod ((Mod.refl (fun _ => False) w7).drew) (fun _ _ h => h)
  refine (putU hA8.hU hA8.u.tight hA8.u.blk_lt t2 (t0, t1, t2) (Nat.le_trans (HA.out.2.2.1.u _) HA.out.2.2.2.1)).mono ?_
  rintro e w8 ⟨rfl, lu', hs8, hlu, hm8⟩
  have hm8' : Mod (fun b => b = MU ∨ blk lu b) w7.drew w8 := hm8.mono (fun b _ hb => hb.imp id slv_blk)
  have hA9 := hA8.setU hm8' hs8
  have k1 := hm8'.old hS.1 (fun hb => hb.elim (hA8.nm hS.1).2.2 (fun hb => hA8.u.blk_ne hS.1 (by decide) hb))
  have kK : ∀ b, blk lu b → b < K := fun b hb => by rw [← HA.out.2.2.2.2.1]; exact HA.out.2.2.2.2.2.2.2.1 b hb
  have k2 := hm8'.old hS.2.1 (fun hb => hb.elim (hA8.nm hS.2.1).2.2 (fun hb => by have := kK _ hb; omega))
  have k3 := hm8'.old hS.2.2 (fun hb => hb.elim (hA8.nm hS.2.2).2.2 (fun hb => by have := kK _ hb; omega))
  dsimp only
  refine hK'.out _ _ ⟨k1, k2, k3⟩ (fun hS' => ?_)
  clear hK' K' hS'
  have H8 := Lib.hid (And.intro hA9 (And.intro hlu hm8'))
  clear hA8 hs8 hlu hm8 hm8' hA9 k1 k2 k3 kK hS
  refine wpAnyH_done (by kernel_rfl) ?_ _
  (try simp only [Exit.inBlock, Exit.then])
  refine bodyPost_end (results_none rfl _ _ _) rfl ?_
  obtain ⟨a1, a2, a3, a4, a5, a6, a7, a8, a9, a10, a11⟩ := HA.out
  obtain ⟨b1, b2, b3, _⟩ := H7.out
  obtain ⟨c1, c2, c3⟩ := H8.out
  have z1 := a2.size
  have z2 := b3.size
  have z3 := c3.size
  have y1 : w6.drew.heap.size = w6.heap.size := rfl
  have y2 : w7.drew.heap.size = w7.heap.size := rfl
  have d1 : Mod F w w6 := a2.mono (fun b _ hb => a9 b hb)
  have d2 : Mod F w w7 := d1.drew.trans b3 (fun b hb => .inl (a10 b hb))
  have d3 : Mod F w w8 := d2.drew.trans c3 (fun b hb => .inl (a11 b hb))
  refine ⟨rfl, lm', lo', lu', c1.weaken (fun b hb => ?_) (fun b hb => ?_), HL.out, b2, c2, d3⟩
  · rcases hb with (((hb | hb) | hb) | hb)
    · exact .inl hb
    · exact .inr ⟨by omega, by omega⟩
    · exact .inr ⟨by omega, by omega⟩
    · exact .inr ⟨by omega, by omega⟩
  · rcases hb with hb | hb
    · have := a6 b hb
      omega
    · exact hb.2
end
end Go.Proofs.YtojjnfhgldjgbaaGreatDoor.Store
end
