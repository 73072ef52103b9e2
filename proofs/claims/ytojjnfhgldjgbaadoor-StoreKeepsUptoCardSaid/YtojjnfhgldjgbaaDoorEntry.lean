/- m[k] = append(m[k], x), as the machine does it: the entry first, then the store into it. No program in sight. -/
import Derived.Test.YtojjnfhgldjgbaaDoorSlMap
set_option linter.unusedVariables false
set_option linter.unusedSimpArgs false
namespace Go.Por
open Go.RowKit

theorem findIdx_born {l : List MapEntry} (hn : (l.map (·.born)).Nodup) {j : Nat} {e0 : MapEntry} (h : l[j]? = some e0) : l.findIdx? (fun e => ((e.born : Nat) : Int) == ((e0.born : Nat) : Int)) = some j := by
  have hj : j < l.length := by
    rcases Nat.lt_or_ge j l.length with h' | h'
    · exact h'
    · simp [List.getElem?_eq_none h'] at h
  have e1 : l[j] = e0 := by simpa [List.getElem?_eq_getElem hj] using h
  rw [List.findIdx?_eq_some_iff_getElem]
  refine ⟨hj, by rw [e1]; simp, fun i hi => ?_⟩
  intro k
  have k2 : l[i].born = l[j].born := by
    rw [e1]
    have k4 : ((l[i].born : Nat) : Int) = ((e0.born : Nat) : Int) := by simpa using k
    omega
  have k3 : (l.map (·.born))[i]'(by rw [List.length_map]; omega) = (l.map (·.born))[j]'(by rw [List.length_map]; exact hj) := by simpa using k2
  have := (List.getElem_inj hn).1 k3
  omega
theorem findIdx_arr' (xs : Array MapEntry) (p : MapEntry → Bool) : xs.findIdx? p = xs.toList.findIdx? p := by
  cases xs
  simp
theorem setB_at (w : World) {M : Nat} (o : Obj) (h : M < w.heap.size) : (setB w M o).heap[M]? = some o := by simp [setB, h]
section
variable {P : Program} {κ α : Type} [DecidableEq κ] {w : World} {M : Nat} {enc : κ → Value} {kt et t : TypeId}
theorem MapIs.entry {l : List (κ × Value)} (K : KeyOK P kt κ enc) (ht : P.underlying t = some (.map kt et)) (h : MapIs w M enc l) (k : κ) {z : Value} (hz : (zeroValue et).run P w = .ok z w) :
    ∃ (st : Nat) (o1 : Obj), (Instr.mapEntry t (.map (some M)) (enc k)).run P w = .ok (.tuple #[(gfind l k).getD z, goInt st]) (setB w M o1) ∧ MapIs (setB w M o1) M enc (mput l k ((gfind l k).getD z)) ∧
      ∀ (w2 : World) (val : Value), w2.heap[M]? = some o1 → ∃ o, (Instr.entryStore t (.map (some M)) (goInt st) val).run P w2 = .ok () (setB w2 M o) ∧ MapIs (setB w2 M o) M enc (mput l k val) := by
  have hlt := h.lt
  have hst := fun val => h.store K ht k val
  obtain ⟨es, clock, hb, he, hn, hborn, hbn⟩ := h
  have fin : ∀ (val : Value) (o : Obj) (w2 : World), M < w2.heap.size → (Instr.mapUpdate t (.map (some M)) (enc k) val).run P w = .ok () (setB w M o) → MapIs (setB w2 M o) M enc (mput l k val) := fun val o w2 h2 hr => by
    obtain ⟨o', hr', hm⟩ := hst val
    rw [hr] at hr'
    have e1 : setB w M o = setB w M o' := by injection hr'
    have e2 : o = o' := by
      have := setB_at w o hlt
      rw [e1, setB_at w o' hlt] at this
      exact (Option.some.inj this).symm
    subst e2
    exact hm.keep (by rw [setB_at w2 o h2, setB_at w o hlt])
  rcases MapIs.find K he k w with ⟨h1, h2⟩ | ⟨j, u, h1, h2, e, hj, hk, hv⟩
  · have hg : gfind l k = none := gfind_none.2 h2
    rw [hg]
    refine ⟨clock, .map (es.push ⟨enc k, z, clock⟩) (clock + 1), ?_, fin z _ w hlt (by simp [Instr.mapUpdate, run_underlying ht, MapKept.run_getObj_map hb, K.check w false k, h1, MapKept.run_setObj_map _ hb, Result.andThen, setB]), fun w2 val hw2 => ⟨.map (es.push ⟨enc k, val, clock⟩) (clock + 1), ?_, fin val _ w2 (lt_block hw2) ?_⟩⟩
    · simp [Instr.mapEntry, run_underlying ht, MapKept.run_getObj_map hb, K.check w false k, h1, hz, MapKept.run_setObj_map _ hb, Result.andThen, setB]
    · have hidx : (es.push ⟨enc k, z, clock⟩).findIdx? (fun e => ((e.born : Nat) : Int) == ((clock : Nat) : Int)) = some es.size := by
        rw [findIdx_arr']
        refine findIdx_born (l := (es.push ⟨enc k, z, clock⟩).toList) (j := es.size) (e0 := ⟨enc k, z, clock⟩) ?_ (by simp)
        simp only [Array.toList_push, List.map_append, List.map_cons, List.map_nil]
        refine List.nodup_append.2 ⟨hbn, by simp, fun a ha c hc e1 => ?_⟩
        simp only [List.mem_singleton] at hc
        obtain ⟨x, hx, rfl⟩ := List.mem_map.1 ha
        have := hborn x hx
        omega
      have hmod : (es.push ⟨enc k, z, clock⟩).modify es.size (fun e => { e with val := val }) = es.push ⟨enc k, val, clock⟩ := by
        apply Array.ext_getElem?
        intro i
        rw [Array.getElem?_modify, Array.getElem?_push, Array.getElem?_push]
        by_cases hi : i = es.size
        · subst hi; simp
        · simp [hi, Ne.symm hi]
      simp [Instr.entryStore, MapKept.run_getObj_map hw2, asInt, asIntOf, goInt, hidx, hmod, MapKept.run_setObj_map _ hw2, Result.andThen, setB]
    · simp [Instr.mapUpdate, run_underlying ht, MapKept.run_getObj_map hb, K.check w false k, h1, MapKept.run_setObj_map _ hb, Result.andThen, setB]
  · have hg : gfind l k = some u := (gfind_some hn).2 (List.mem_of_getElem? h2)
    have hsame : es.modify j (fun e => { e with key := enc k }) = es := by
      apply Array.ext_getElem?
      intro i
      rw [Array.getElem?_modify]
      by_cases hi : j = i
      · subst hi
        rw [if_pos rfl, hj, ← hk]
        rfl
      · rw [if_neg hi]
    rw [hg]
    have hsame2 : es.modify j (fun e => { e with key := enc k, val := u }) = es := by
      apply Array.ext_getElem?
      intro i
      rw [Array.getElem?_modify]
      by_cases hi : j = i
      · subst hi
        rw [if_pos rfl, hj, ← hk, ← hv]
        rfl
      · rw [if_neg hi]
    refine ⟨e.born, .map es clock, ?_, fin u _ w hlt (by simp [Instr.mapUpdate, run_underlying ht, MapKept.run_getObj_map hb, K.check w false k, h1, hj, hk, K.stays w k, hsame2, MapKept.run_setObj_map _ hb, Result.andThen, setB]), fun w2 val hw2 => ⟨.map (es.modify j (fun e' => { e' with key := enc k, val := val })) clock, ?_, fin val _ w2 (lt_block hw2) ?_⟩⟩
    · simp [Instr.mapEntry, run_underlying ht, MapKept.run_getObj_map hb, K.check w false k, h1, hj, hk, K.stays w k, hsame, MapKept.run_setObj_map _ hb, Result.andThen, setB]
    · have hidx : es.findIdx? (fun e' => ((e'.born : Nat) : Int) == ((e.born : Nat) : Int)) = some j := by
        rw [findIdx_arr']
        exact findIdx_born hbn (by simpa using hj)
      have hmod : es.modify j (fun e => { e with val := val }) = es.modify j (fun e' => { e' with key := enc k, val := val }) := by
        apply Array.ext_getElem?
        intro i
        rw [Array.getElem?_modify, Array.getElem?_modify]
        by_cases hi : j = i
        · subst hi
          rw [if_pos rfl, if_pos rfl, hj, ← hk]
          rfl
        · rw [if_neg hi, if_neg hi]
      simp [Instr.entryStore, MapKept.run_getObj_map hw2, asInt, asIntOf, goInt, hidx, hmod, MapKept.run_setObj_map _ hw2, Result.andThen, setB]
    · simp [Instr.mapUpdate, run_underlying ht, MapKept.run_getObj_map hb, K.check w false k, h1, hj, hk, K.stays w k, MapKept.run_setObj_map _ hb, Result.andThen, setB]
variable {f : α → List Value} {c : Nat} {E : TypeId} {F : Nat → Prop} {l : List (κ × (Value × List α))}
/-- m[k] = append(m[k], x). -/
theorem SlMap.pushE {tm : TypeId} {bytes : Nat} (h : SlMap w M enc f c E F l) (H : Elem P t E f c bytes) (K : KeyOK P kt κ enc) (ht : P.underlying tm = some (.map kt et)) (hz : (zeroValue et).run P w = .ok (.slice none 0 0) w) (k : κ) (x : α) {B : Nat} (ty : TypeId)
    (hB : w.heap[B]? = some (.cells (f x).toArray E (0, 0))) (hb : ((aget (smc l) k).length + 1) * bytes ≤ 140737488355328) (h63 : (aget (smc l) k).length + 1 ≤ maxLen) :
    ∃ (st : Nat) (w1 : World), (Instr.mapEntry tm (.map (some M)) (enc k)).run P w = .ok (.tuple #[slv l k, goInt st]) w1 ∧ Mod (fun b => b = M) w w1 ∧
    ∃ v' w5 w6, (Builtin.append_ #[t, t] ty #[slv l k, .slice (some ⟨B, 0, none⟩) 1 1]).run P w1 = .ok v' w5 ∧ Mod (fun b => some b = (slv l k).ownBlock) w1 w5 ∧
      (Instr.entryStore tm (.map (some M)) (goInt st) v').run P w5 = .ok () w6 ∧ Mod (fun b => b = M) w5 w6 ∧
      SlMap w6 M enc f c E (fun b => F b ∨ (w.heap.size ≤ b ∧ b < w5.heap.size)) (gput l k (v', aget (smc l) k ++ [x])) := by
  obtain ⟨h1, h2, h3⟩ := h.at k
  obtain ⟨st, o1, hr1, _, hst⟩ := h.map.entry K ht k hz
  have hg : (gfind (smv l) k).getD (.slice none 0 0) = slv l k := by
    unfold slv smv
    rw [gfind_map (fun p : Value × List α => p.1)]
  rw [hg] at hr1
  have hmlt := h.map.lt
  have m1 := setB_mod w M o1
  have hs1 : (setB w M o1).heap.size = w.heap.size := by simp [setB]
  have hBM : B ≠ M := fun e => by
    obtain ⟨es, ck, hm, _⟩ := h.map
    rw [← e, hB] at hm
    cases hm
  have hown1 := h1.mod m1 (fun b hb e => h1.ne_map h.map b hb e)
  obtain ⟨v', w5, hr, ho, hm, hk⟩ := run_push H ty hown1 (m1.old hB hBM) hb h63
  have h5M : w5.heap[M]? = some o1 := hm.old (setB_at w o1 hmlt) (fun e => h1.ne_map h.map M e.symm rfl)
  obtain ⟨o, hr6, hmap⟩ := hst w5 v' h5M
  have m6 := setB_mod w5 M o
  have hv : ∀ b, v'.ownBlock = some b → some b = (slv l k).ownBlock ∨ w.heap.size ≤ b := fun b hb => by
    rcases hk b hb with h4 | h4
    · exact .inl h4.symm
    · exact .inr (by rw [← hs1]; exact h4)
  have hvM : ∀ b, v'.ownBlock = some b → b ≠ M := fun b hb e => by
    rcases hv b hb with h4 | h4
    · exact h1.ne_map h.map b h4.symm e
    · omega
  have others : ∀ e ∈ l, e.1 ≠ k → OwnS f c (setB w5 M o) E e.2.1 e.2.2 := fun e he hne => by
    have a1 := (h.own e he)
    have nM := fun b hb => a1.ne_map h.map b hb
    exact ((a1.mod m1 nM).mod hm (fun b hb e' => h3 e he hne b hb e'.symm)).mod m6 nM
  have disn : ∀ e ∈ l, e.1 ≠ k → ∀ b, e.2.1.ownBlock = some b → v'.ownBlock ≠ some b := fun e he hne b hb hb' => by
    rcases hv b hb' with h4 | h4
    · exact h3 e he hne b hb h4.symm
    · have := (h.own e he).own_lt b hb
      omega
  refine ⟨st, _, hr1, m1, v', w5, _, hr, hm, hr6, m6, ⟨?_, fun e he => ?_, fun e he e' he' hne b hb => ?_, fun e he b hb => ?_⟩⟩
  · rw [mput_gput] at hmap
    unfold smv at hmap ⊢
    rw [gput_map (fun p : Value × List α => p.1)]
    exact hmap
  · rcases mem_gput.1 he with rfl | ⟨h4, h5⟩
    · exact ho.mod m6 (fun b hb e => hvM b hb e)
    · exact others e h5 h4
  · rcases mem_gput.1 he with rfl | ⟨h4, h5⟩
    · rcases mem_gput.1 he' with rfl | ⟨h6, h7⟩
      · exact absurd rfl hne
      · exact fun hb' => disn e' h7 h6 b hb' hb
    · rcases mem_gput.1 he' with rfl | ⟨h6, h7⟩
      · exact disn e h5 h4 b hb
      · exact h.dis e h5 e' h7 hne b hb
  · rcases mem_gput.1 he with rfl | ⟨h4, h5⟩
    · rcases hv b hb with h6 | h6
      · exact .inl (h2 b h6.symm)
      · exact .inr ⟨h6, ho.own_lt b hb⟩
    · exact .inl (h.foot e h5 b hb)
end
end Go.Por
