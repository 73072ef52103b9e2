/- porterlaw22.awake: true. -/
import Derived.Test.YtobcakjlfdejjaaBackB
import Derived.Handy
set_option linter.unusedVariables false
set_option linter.unusedSimpArgs false
namespace Go.Proofs.Ytobcakjlfdejjaa.Watch
open Go.RowKit Go.Por Go.Sort

def docA : ByteArray := { data := #[100, 111, 99, 58, 97] }
def viewerS : ByteArray := { data := #[118, 105, 101, 119, 101, 114] }
set_option maxRecDepth 100000 in
theorem viewer_any (u : ByteArray) (w : World) : Calls Try.prog 25 #[.string u] w fun e w' =>
    e = .returned (.agg #[.string docA, .string viewerS, .string u]) ∧ Gr w w' := by
  go_enter Try.func25, Try.ntmps25
  go_wp2
  go_returns
  exact ⟨rfl, (Gr.refl w).alloc _⟩
def annS : ByteArray := { data := #[117, 115, 101, 114, 58, 97, 110, 110] }
def annT : Tup := (docA, viewerS, annS)
def annRows : List RowT := [(annT, 3, 5)]
theorem ann_out : outL 0 9 annRows = [(3, false, annT), (5, true, annT)] := by
  simp [outL, annRows, rowAdd, addL]
theorem ann_sorted : Stab.Sorted (ltOf ccmp) [((3, false, annT) : Chg), (5, true, annT)] := by
  simp [Stab.Sorted, ltOf, ccmp, or2v, Lib.compareInt]
theorem ann_at : atL annRows 4 = [annT] := by
  simp [atL, annRows, thereL, isAt, compactL, compactP]
theorem ann_rows : rowsF [(3, false, annT), (5, true, annT)] = [(annT, 3, 5)] := by
  simp [rowsF, stepR, isOpen, shutAt, List.findIdx?_cons]
theorem OwnS.one {α : Type} {f : α → List Value} {c : Nat} {w : World} {E : TypeId} {g : Nat} {x : α} (hc : (f x).length = c) (h : w.heap[g]? = some (.cells (f x).toArray E (0, 0))) : OwnS f c w E (.slice (some ⟨g, 0, none⟩) 1 1) [x] := by
  refine ⟨by simp [hc], .inr ⟨g, 1, _, rfl, Nat.zero_le _, h, Nat.le_refl _, by unfold maxLen; omega, by simp [hc], ?_⟩⟩
  rw [List.flatMap_cons, List.flatMap_nil, List.append_nil, List.length_singleton, Nat.one_mul]
  exact List.take_of_length_le (by simp [hc])
theorem sorted_one {α : Type} {lt : α → α → Bool} (x : α) : Stab.Sorted lt [x] := by simp [Stab.Sorted]

set_option maxRecDepth 100000 in
set_option maxHeartbeats 1600000 in
theorem awake_any (w : World) : Calls Try.prog 8 #[] w fun e w' => e = .returned (.bool true) ∧ Below w.heap.size w w' := by
  have hdoc : ({ data := #[117, 115, 101, 114, 58, 97, 110, 110] } : ByteArray) = annS := rfl
  go_enter Try.func8, Try.ntmps8
  go_wp2_with fail
  refine (viewer_any _ _).mono ?_
  rintro e w1 ⟨rfl, hg1⟩
  have H1 := Lib.hid hg1.below
  clear hg1
  go_wp2_with fail
  have hr2 : ReadS rowC 5 (w1.alloc (.cells #[.string docA, .string viewerS, .string annS, .int .i64 3, .int .i64 5] 39)) (.slice (some ⟨w1.heap.size, 0, none⟩) 1 1) annRows := OwnS.read rowC_len' (OwnS.one (E := 39) rfl (block_new w1 (.cells (rowC (annT, 3, 5)).toArray 39)))
  have hb2 := H1.out.alloc H1.out.size (.cells #[.string docA, .string viewerS, .string annS, .int .i64 3, .int .i64 5] 39)
  generalize hW2 : w1.alloc (.cells #[.string docA, .string viewerS, .string annS, .int .i64 3, .int .i64 5] 39) = w2 at *
  have H2 := Lib.hid (And.intro hr2 hb2)
  clear hr2 hb2 hW2
  refine (changes_any H2.out.1 0 9 (by rw [ann_out]; decide)).mono ?_
  rintro e w3 ⟨v3, l3, rfl, hs3, hst3, hown3, hb3, hv3⟩
  rw [ann_out] at hst3
  have e3 := Stab.uniq chgSwo l3 _ hs3 ann_sorted hst3.symm
  subst e3
  obtain ⟨g, cap, rfl, _, _⟩ : ∃ g cap, v3 = .slice (some ⟨g, 0, none⟩) 2 cap ∧ True ∧ True := by
    rcases hown3.form with ⟨_, h⟩ | ⟨g, cap, rfl, _, _⟩
    · cases h
    · exact ⟨g, cap, rfl, trivial, trivial⟩
  have d0 : w3.cell? ⟨g, 0, none⟩ = some (.int .i64 3) := OwnS.cell chgC_len hown3 (i := 0) (j := 0) rfl (by decide) rfl
  have d1 : w3.cell? ⟨g, 1, none⟩ = some (.bool false) := OwnS.cell chgC_len hown3 (i := 0) (j := 1) rfl (by decide) rfl
  have d5 : w3.cell? ⟨g, 5, none⟩ = some (.int .i64 5) := OwnS.cell chgC_len hown3 (i := 1) (j := 0) rfl (by decide) rfl
  have d6 : w3.cell? ⟨g, 6, none⟩ = some (.bool true) := OwnS.cell chgC_len hown3 (i := 1) (j := 1) rfl (by decide) rfl
  have hr3 : ReadS rowC 5 w3 (.slice (some ⟨w1.heap.size, 0, none⟩) 1 1) annRows := H2.out.1.mod (by decide) rowC_len' (Mod.of_below hb3 (fun _ => False)) (fun _ _ h => h)
  have hb3' : Below w.heap.size w w3 := H2.out.2.trans (hb3.mono H2.out.2.size)
  have H3 := Lib.hid (And.intro hown3 (And.intro hr3 hb3'))
  clear hown3 hr3 hb3' hb3 hv3 hs3 hst3
  go_wp2_with fail
  refine (at_any H3.out.2.1 4 (by decide)).mono ?_
  rintro e w4 ⟨v4, rfl, hown4, hb4, _⟩
  rw [ann_at] at hown4
  obtain ⟨ao4, n4, cap4, rfl, hn4⟩ := hown4.sl
  simp only [List.length_singleton] at hn4
  subst hn4
  have H4 := Lib.hid (And.intro ((H3.out.1.read chgC_len).mod (by decide) chgC_len (Mod.of_below hb4 (fun _ => False)) (fun _ _ h => h)) (H3.out.2.2.trans (hb4.mono H3.out.2.2.size)))
  clear hown4 hb4 d0 d1 d5 d6
  go_wp2_with fail
  refine (rows_any H4.out.1 (by decide)).mono ?_
  rintro e w5 ⟨v5, l5, rfl, hs5, hst5, hown5, hb5, _⟩
  rw [ann_rows] at hst5
  have e5 := Stab.uniq rowSwo l5 _ hs5 (sorted_one _) hst5.symm
  subst e5
  obtain ⟨ao5, n5, cap5, rfl, hn5⟩ := hown5.sl
  simp only [List.length_singleton] at hn5
  subst hn5
  have H5 := Lib.hid (And.intro (H4.out.1.mod (by decide) chgC_len (Mod.of_below hb5 (fun _ => False)) (fun _ _ h => h)) (H4.out.2.trans (hb5.mono H4.out.2.size)))
  clear hown5 hb5 hs5 hst5
  go_wp2_with fail
  refine (Back.back_any H5.out.1 (by decide)).mono ?_
  rintro e w6 ⟨v6, rfl, hown6, hb6, _⟩
  obtain ⟨ao6, n6, cap6, rfl, hn6⟩ := hown6.sl
  have hn6' : n6 = 2 := by rw [← hn6]; rfl
  subst hn6'
  have H6 := Lib.hid (H5.out.2.trans (hb6.mono H5.out.2.size))
  clear hown6 hb6 hn6
  go_wp2
  go_ret
  exact ⟨rfl, H6.out⟩
end Go.Proofs.Ytobcakjlfdejjaa.Watch
