/- Pairs of texts as keys of maps. -/
import Derived.Test.YtojjnfhgldjgbaaDoorTypes
import Derived.ChangeKeysEq
set_option linter.unusedVariables false
set_option linter.unusedSimpArgs false
namespace Go.Proofs.YtojjnfhgldjgbaaDoor.Watch
open Go.RowKit Go.Por Go.Sort Go.Por.StEq

abbrev PairT := ByteArray × ByteArray
def encP (x : PairT) : Value := .agg #[.string x.1, .string x.2]
theorem encP_inj {a b : PairT} (h : encP a = encP b) : a = b := by
  obtain ⟨a0, a1⟩ := a
  obtain ⟨b0, b1⟩ := b
  simp only [encP, Value.agg.injEq, List.toArray_eq_iff, Array.mk.injEq, List.cons.injEq, Value.string.injEq, and_true] at h
  rw [h.1, h.2]
theorem infoStr0 : (Tryd.prog.info? 9).isSome = true := by kernel_rfl
theorem infoStr : ∃ i, Tryd.prog.info? 9 = some i := Option.isSome_iff_exists.1 infoStr0
theorem cellsStrP : Tryd.prog.cellsOf 9 = 1 := by kernel_rfl
theorem eqPairIn (d : Nat) (w : World) (x y : PairT) : (Op.equalIn (d + 2) 48 (encP x) (encP y)).run Tryd.prog w = .ok (decide (x = y)) w := by
  obtain ⟨a, b⟩ := x
  obtain ⟨p, q⟩ := y
  obtain ⟨i, hi⟩ := infoStr
  unfold encP
  rw [run_equalIn_array (P := Tryd.prog) (w := w) (d + 1) #[.string a, .string b] #[.string p, .string q] Tryd.underlying48 hi, cellsStrP]
  have p0 : ∀ (s u : ByteArray), (part 9 #[.string s, .string u] 0).run Tryd.prog w = .ok (.string s) w := fun s u => by go_simp
  have p1 : ∀ (s u : ByteArray), (part 9 #[.string s, .string u] 1).run Tryd.prog w = .ok (.string u) w := fun s u => by go_simp
  have hs : ∀ (s u : ByteArray), (Op.equalIn (d + 1) 9 (.string s) (.string u)).run Tryd.prog w = .ok (s.toList == u.toList) w := fun s u => by go_simp
  show (Op.eqItems (d + 1) 9 1 #[.string a, .string b] #[.string p, .string q] [0, 1]).run Tryd.prog w = _
  simp only [Op.eqItems, Sem.run_bind, Nat.zero_mul, Nat.one_mul, p0, p1, hs, Result.andThen_ok]
  by_cases h0 : a = p
  · have e0 : (a.toList == p.toList) = true := beq_yes h0
    rw [if_neg (by simp [e0])]
    simp only [Sem.run_bind, p1, hs, Result.andThen_ok]
    by_cases h1 : b = q
    · have e1 : (b.toList == q.toList) = true := beq_yes h1
      rw [if_neg (by simp [e1]), decide_eq_true (by rw [h0, h1])]
      rfl
    · have e1 : (b.toList == q.toList) = false := beq_no h1
      rw [if_pos (by simp [e1]), decide_eq_false (fun e => h1 (Prod.mk.inj e).2)]
      rfl
  · have e0 : (a.toList == p.toList) = false := beq_no h0
    rw [if_pos (by simp [e0]), decide_eq_false (fun e => h0 (Prod.mk.inj e).1)]
    rfl
theorem eqPair (x y : PairT) (w : World) : (Op.equal 48 (encP x) (encP y)).run Tryd.prog w = .ok (decide (x = y)) w := eqPairIn 9998 w x y
theorem pair_check (w : World) (em : Bool) (k : PairT) : (Instr.checkKey em 10000 48 (encP k)).run Tryd.prog w = .ok () w := by
  obtain ⟨k0, k1⟩ := k
  obtain ⟨i, hi⟩ := infoStr
  have hs : ∀ (s : ByteArray), (Instr.checkKey em 9999 9 (.string s)).run Tryd.prog w = .ok () w := fun s => Go.MapKept.run_checkKey (d := .string) Tryd.underlying9 (by simp [Go.MapKept.IsKey]) em 9998
  have hz : (sizeOf 9).run Tryd.prog w = .ok 1 w := by kernel_rfl
  show (Instr.checkKey em (9999 + 1) 48 (.agg #[.string k0, .string k1])).run Tryd.prog w = .ok () w
  unfold Instr.checkKey
  have p0 : (part 9 #[.string k0, .string k1] 0).run Tryd.prog w = .ok (.string k0) w := by go_simp
  have p1 : (part 9 #[.string k0, .string k1] 1).run Tryd.prog w = .ok (.string k1) w := by go_simp
  simp only [Sem.run_bind, run_underlying Tryd.underlying48, Result.andThen_ok]
  simp [Std.Legacy.Range.forIn_eq_forIn_range', Std.Legacy.Range.size, List.range', hz, p0, p1, hs, Result.andThen]
theorem pair_asking (w : World) (k : PairT) : ∀ (es : List MapEntry) (i : Nat), (∀ e ∈ es, ∃ k', e.key = encP k') →
    ((Instr.findAsking 48 (encP k) es i).run Tryd.prog w = .ok none w ∧ ∀ e ∈ es, e.key ≠ encP k) ∨ ∃ j e, (Instr.findAsking 48 (encP k) es i).run Tryd.prog w = .ok (some (i + j, e.val)) w ∧ es[j]? = some e ∧ e.key = encP k
  | [], i, _ => .inl ⟨by simp [Instr.findAsking], by simp⟩
  | e :: es, i, hall => by
    obtain ⟨l, hl⟩ := hall e (by simp)
    have hr := eqPair k l w
    by_cases he : k = l
    · rw [decide_eq_true he] at hr
      right
      refine ⟨0, e, ?_, rfl, by rw [hl, he]⟩
      rw [Instr.findAsking, hl]
      simp only [Sem.run_bind, hr, Result.andThen_ok, if_true, Sem.run_pure, Nat.add_zero]
    · rw [decide_eq_false he] at hr
      have hne : e.key ≠ encP k := fun h => he (encP_inj (h.symm.trans hl))
      have hstep : (Instr.findAsking 48 (encP k) (e :: es) i).run Tryd.prog w = (Instr.findAsking 48 (encP k) es (i + 1)).run Tryd.prog w := by
        rw [Instr.findAsking, hl]
        simp only [Sem.run_bind, hr, Result.andThen_ok, Bool.false_eq_true, if_false]
      rw [hstep]
      rcases pair_asking w k es (i + 1) (fun y hy => hall y (by simp [hy])) with ⟨h1, h2⟩ | ⟨j, e', h1, h2, h3⟩
      · exact .inl ⟨h1, fun y hy => by
          rcases List.mem_cons.1 hy with rfl | hy
          · exact hne
          · exact h2 y hy⟩
      · exact .inr ⟨j + 1, e', by rw [h1, Nat.add_assoc, Nat.add_comm 1 j], by simpa using h2, h3⟩
theorem keyPair : KeyOK Tryd.prog 48 PairT encP where
  inj := encP_inj
  check := pair_check
  find w k es hes := by
    rw [run_findKey_eq (P := Tryd.prog) (w := w) (k := 48) (by kernel_rfl) (encP k) es]
    rcases pair_asking w k es 0 hes with h | ⟨j, e, h1, h2, h3⟩
    · exact .inl h
    · exact .inr ⟨j, e, by rw [h1, Nat.zero_add], h2, h3⟩
  stays w k := by
    obtain ⟨k0, k1⟩ := k
    have hb : ∀ s : ByteArray, (s == s) = true := fun s => ba_beq_self s
    have : Instr.sameBits 10000 (encP (k0, k1)) (encP (k0, k1)) = true := by simp [encP, Instr.sameBits, hb]
    simp [Instr.keyThatStays, this]
theorem keyStr : KeyOK Tryd.prog 9 ByteArray (fun s => .string s) := KeyOK.str Tryd.underlying9
end Go.Proofs.YtojjnfhgldjgbaaDoor.Watch
