/- Tuples as keys of maps. -/
import Derived.Test.YtobcakjlfdejjaaAt
import Derived.Test.YtobcakjlfdejjaaMap
import Derived.WideKeyRuns
set_option linter.unusedVariables false
set_option linter.unusedSimpArgs false
namespace Go.Proofs.Ytobcakjlfdejjaa.Watch
open Go.RowKit Go.Por Go.Sort Go.Por.StEq

theorem ba_beq_self (s : ByteArray) : (s == s) = true := by
  obtain ⟨d⟩ := s
  show (d == d) = true
  simp
def encT (x : Tup) : Value := .agg (tupC x).toArray
theorem encT_inj {a b : Tup} (h : encT a = encT b) : a = b := by
  obtain ⟨a0, a1, a2⟩ := a
  obtain ⟨b0, b1, b2⟩ := b
  simp only [encT, tupC, Value.agg.injEq, List.toArray_eq_iff, List.cons.injEq, Value.string.injEq, and_true] at h
  simp [h]
theorem tup_check (w : World) (em : Bool) (k : Tup) : (Instr.checkKey em 10000 37 (encT k)).run Try.prog w = .ok () w := by
  obtain ⟨k0, k1, k2⟩ := k
  have hs : ∀ (s : ByteArray), (Instr.checkKey em 9999 9 (.string s)).run Try.prog w = .ok () w := fun s => Go.MapKept.run_checkKey (d := .string) Try.underlying9 (by simp [Go.MapKept.IsKey]) em 9998
  show (Instr.checkKey em (9999 + 1) 37 (.agg #[.string k0, .string k1, .string k2])).run Try.prog w = .ok () w
  unfold Instr.checkKey
  simp only [Sem.run_bind, run_underlying Try.underlying37, Result.andThen_ok]
  have p0 : (part 9 #[.string k0, .string k1, .string k2] 0).run Try.prog w = .ok (.string k0) w := by go_simp
  have p1 : (part 9 #[.string k0, .string k1, .string k2] 1).run Try.prog w = .ok (.string k1) w := by go_simp
  have p2 : (part 9 #[.string k0, .string k1, .string k2] 2).run Try.prog w = .ok (.string k2) w := by go_simp
  simp [p0, p1, p2, hs, Result.andThen]
theorem tup_asking (w : World) (k : Tup) : ∀ (es : List MapEntry) (i : Nat), (∀ e ∈ es, ∃ k', e.key = encT k') →
    ((Instr.findAsking 37 (encT k) es i).run Try.prog w = .ok none w ∧ ∀ e ∈ es, e.key ≠ encT k) ∨ ∃ j e, (Instr.findAsking 37 (encT k) es i).run Try.prog w = .ok (some (i + j, e.val)) w ∧ es[j]? = some e ∧ e.key = encT k
  | [], i, _ => .inl ⟨by simp [Instr.findAsking], by simp⟩
  | e :: es, i, hall => by
    obtain ⟨l, hl⟩ := hall e (by simp)
    have hr := eqTup k l w
    by_cases he : k = l
    · rw [decide_eq_true he] at hr
      right
      refine ⟨0, e, ?_, rfl, by rw [hl, he]⟩
      rw [Instr.findAsking, hl]
      have hr' : (Op.equal 37 (encT k) (encT l)).run Try.prog w = .ok true w := hr
      simp only [Sem.run_bind, hr', Result.andThen_ok, if_true, Sem.run_pure, Nat.add_zero]
    · rw [decide_eq_false he] at hr
      have hr' : (Op.equal 37 (encT k) (encT l)).run Try.prog w = .ok false w := hr
      have hne : e.key ≠ encT k := fun h => he (encT_inj (h.symm.trans hl))
      have hstep : (Instr.findAsking 37 (encT k) (e :: es) i).run Try.prog w = (Instr.findAsking 37 (encT k) es (i + 1)).run Try.prog w := by
        rw [Instr.findAsking, hl]
        simp only [Sem.run_bind, hr', Result.andThen_ok, Bool.false_eq_true, if_false]
      rw [hstep]
      rcases tup_asking w k es (i + 1) (fun y hy => hall y (by simp [hy])) with ⟨h1, h2⟩ | ⟨j, e', h1, h2, h3⟩
      · exact .inl ⟨h1, fun y hy => by
          rcases List.mem_cons.1 hy with rfl | hy
          · exact hne
          · exact h2 y hy⟩
      · exact .inr ⟨j + 1, e', by rw [h1, Nat.add_assoc, Nat.add_comm 1 j], by simpa using h2, h3⟩
theorem keyTup : KeyOK Try.prog 37 Tup encT where
  inj := encT_inj
  check := tup_check
  find w k es hes := by
    rw [run_findKey_eq (P := Try.prog) (w := w) (k := 37) (by kernel_rfl) (encT k) es]
    rcases tup_asking w k es 0 hes with h | ⟨j, e, h1, h2, h3⟩
    · exact .inl h
    · exact .inr ⟨j, e, by rw [h1, Nat.zero_add], h2, h3⟩
  stays w k := by
    obtain ⟨k0, k1, k2⟩ := k
    have hb : ∀ s : ByteArray, (s == s) = true := fun s => ba_beq_self s
    have : Instr.sameBits 10000 (encT (k0, k1, k2)) (encT (k0, k1, k2)) = true := by simp [encT, tupC, Instr.sameBits, hb]
    simp [Instr.keyThatStays, this]
end Go.Proofs.Ytobcakjlfdejjaa.Watch
