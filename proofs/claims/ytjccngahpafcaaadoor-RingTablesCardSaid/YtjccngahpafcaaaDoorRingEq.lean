/- '==' of owners and of tables. -/
import Derived.Test.YtjccngahpafcaaaDoorRingG
import Derived.Laws.StructEq
import Derived.ChangeKeysEq
namespace Go.Proofs.YtjccngahpafcaaaDoor.RingF
open Go.RowKit Go.Por Go.Sort Go.Proofs.YtjccngahpafcaaaDoorW.PrintWords

theorem part_own (os : List Int) (i : Nat) {n : Int} (h : os[i]? = some n) (w : World) : (part 3 (os.map (Value.int .i64)).toArray i).run Tryd.prog w = .ok (.int .i64 n) w :=
  run_part_plain w (by kernel_rfl) (by simp [h])
theorem eqItems_own (d : Nat) (xs ys : List Int) (hx : xs.length = 16) (hy : ys.length = 16) (w : World) : ∀ (k i : Nat), i + k = 16 →
    (Op.eqItems (d + 1) 3 1 (xs.map (Value.int .i64)).toArray (ys.map (Value.int .i64)).toArray (List.range' i k)).run Tryd.prog w = .ok (decide (xs.drop i = ys.drop i)) w
  | 0, i, h => by
    rw [List.drop_eq_nil_of_le (by omega), List.drop_eq_nil_of_le (by omega)]
    simp [Op.eqItems]
  | k + 1, i, h => by
    have h1 : i < xs.length := by omega
    have h2 : i < ys.length := by omega
    rw [List.range'_succ, Op.eqItems]
    simp only [Nat.mul_one, Sem.run_bind, part_own xs i (List.getElem?_eq_getElem h1) w, part_own ys i (List.getElem?_eq_getElem h2) w, Result.andThen_ok, run_equalIn_int w d 3 .i64 .i64 _ _ Tryd.underlying3]
    rw [List.drop_eq_getElem_cons h1, List.drop_eq_getElem_cons h2]
    by_cases he : xs[i] = ys[i]
    · simp only [he, List.cons.injEq, true_and]
      simpa using eqItems_own d xs ys hx hy w k (i + 1) (by omega)
    · have hb : (xs[i] == ys[i]) = false := by simpa using he
      rw [decide_eq_false (fun h => he (List.cons.inj h).1)]
      simp [hb]
theorem eqOwn (d : Nat) (xs ys : List Int) (hx : xs.length = 16) (hy : ys.length = 16) (w : World) :
    (Op.equalIn (d + 2) 22 (.agg (xs.map (Value.int .i64)).toArray) (.agg (ys.map (Value.int .i64)).toArray)).run Tryd.prog w = .ok (decide (xs = ys)) w := by
  obtain ⟨i0, hi, _⟩ := info_parts infoI
  rw [run_equalIn_array w (d + 1) _ _ Tryd.underlying22 hi, show Tryd.prog.cellsOf 3 = 1 by kernel_rfl]
  have := eqItems_own d xs ys hx hy w 16 0 (by omega)
  rw [← List.range_eq_range'] at this
  simpa using this
theorem part_owners (e : Int) (os : List Int) (hl : os.length = 16) (w : World) : (part 22 (tcells e os) 1).run Tryd.prog w = .ok (.agg (os.map (Value.int .i64)).toArray) w := by
  have h1 : ∀ w, (isAgg 22).run Tryd.prog w = .ok true w := fun w => by kernel_rfl
  have h2 : ∀ w, (Go.sizeOf 22).run Tryd.prog w = .ok 16 w := fun w => by kernel_rfl
  have h3 : (tcells e os).extract 1 17 = (os.map (Value.int .i64)).toArray := by
    apply Array.toList_inj.1
    rw [Array.toList_extract, tcells_list]
    rw [List.extract, List.drop_succ_cons, List.drop_zero]
    exact List.take_of_length_le (by rw [List.length_map, hl]; omega)
  unfold part
  simp only [Sem.run_bind, h1, Result.andThen_ok, if_true, h2, Sem.run_pure, h3, Nat.reduceAdd]
theorem eqTab (d : Nat) (e e' : Int) (xs ys : List Int) (hx : xs.length = 16) (hy : ys.length = 16) (w : World) :
    (Op.equalIn (d + 3) 24 (.agg (tcells e xs)) (.agg (tcells e' ys))).run Tryd.prog w = .ok (e == e' && decide (xs = ys)) w := by
  refine eqA_of Tryd.underlying24 (by kernel_rfl) ?_
  refine eqf_cons (a := .int .i64 e) (b := .int .i64 e') (by rfl) (run_part_plain w (by kernel_rfl) (tcells_zero e xs)) (run_part_plain w (by kernel_rfl) (tcells_zero e' ys)) (by go_simp) ?_
  exact eqf_last (by rfl) (part_owners e xs hx w) (part_owners e' ys hy w) (eqOwn d xs ys hx hy w)
end Go.Proofs.YtjccngahpafcaaaDoor.RingF
