/- WatchEmpty: the walk. -/
import Derived.Test.YtobcakjlfdejjaaWatchEmptyP
import Derived.Test.YtobcakjlfdejjaaOpenW
set_option linter.unusedVariables false
set_option linter.unusedSimpArgs false
namespace Go.Proofs.Ytobcakjlfdejjaa.WatchEmpty
open Go.RowKit Go.Por Go.Sort Go.Proofs.Ytobcakjlfdejjaa.Watch

theorem readNil {α : Type} (f : α → List Value) (c : Nat) (w : World) : ReadS f c w (.slice none 0 0) [] := ⟨none, 0, rfl, Nat.zero_le _, by simp⟩
set_option maxRecDepth 100000 in
set_option maxHeartbeats 4000000 in
theorem row {W : World} (v : Value) (rows : List RowT) (h : SliceIs 5 (fun _ cs x => cs = rowC x) W v rows) (hz : rows.length * 64 ≤ 140737488351232) (fr up : Int) :
    Calls Try.prog 7 #[v, .int .i64 fr, .int .i64 up] W fun e w' => e = .returned (.bool true) ∧ Below W.heap.size W w' := by
  have h' : ReadS rowC 5 W v rows := h
  have hroom : (rows.length + 1) * 48 ≤ 140737488355328 := by
    have h1 : rows.length ≤ 2199023255488 := by
      rcases Nat.lt_or_ge 2199023255488 rows.length with hh | hh
      · have := Nat.mul_le_mul_right 64 hh
        have := Nat.le_trans this hz
        exact absurd this (by decide)
      · exact hh
    exact Nat.le_trans (Nat.mul_le_mul_right 48 (Nat.succ_le_succ h1)) (by decide)
  obtain ⟨ao, cap, rfl, hlen⟩ := h'.form
  obtain ⟨n, hn⟩ : ∃ n, rows.length = n := ⟨_, rfl⟩
  rw [hn] at h' ⊢
  have HH := Lib.hid (And.intro h' hroom)
  clear h h' hz hroom hlen hn
  go_enter Try.func7, Try.ntmps7
  go_wp2_with fail
  refine (awake_any W).mono ?_
  rintro e w1 ⟨rfl, hb1⟩
  have H1 := Lib.hid hb1
  clear hb1
  go_wp2_with fail
  have hr1 := HH.out.1.mod (by decide) rowC_len' (Mod.of_below H1.out (fun _ => False)) (fun _ _ h => h)
  refine (changes_any hr1 fr fr (by rw [outL_none rows fr fr (Int.le_refl _)]; decide)).mono ?_
  rintro e w2 ⟨v2, l2, rfl, _, hst2, hown2, hb2, _⟩
  rw [outL_none rows fr fr (Int.le_refl _)] at hst2
  have e2 := stab_nil chgSwo hst2
  subst e2
  obtain ⟨ao2, n2, cap2, rfl, hn2⟩ := hown2.sl
  simp only [List.length_nil] at hn2
  subst hn2
  have H2 := Lib.hid (And.intro (hr1.mod (by decide) rowC_len' (Mod.of_below hb2 (fun _ => False)) (fun _ _ h => h)) (H1.out.trans (hb2.mono H1.out.size)))
  clear hown2 hb2 hst2 hr1
  by_cases hc : up ≤ fr
  · have HC := Lib.hid hc
    clear hc
    have hc2 := HC.out
    go_wp2_with fail
    refine (changes_any H2.out.1 fr up (by rw [outL_none rows fr up HC.out]; decide)).mono ?_
    rintro e w3 ⟨v3, l3, rfl, _, hst3, hown3, hb3, _⟩
    rw [outL_none rows fr up HC.out] at hst3
    have e3 := stab_nil chgSwo hst3
    subst e3
    obtain ⟨ao3, n3, cap3, rfl, hn3⟩ := hown3.sl
    simp only [List.length_nil] at hn3
    subst hn3
    have HX := Lib.hid (And.intro (H2.out.1.mod (by decide) rowC_len' (Mod.of_below hb3 (fun _ => False)) (fun _ _ h => h)) (H2.out.2.trans (hb3.mono H2.out.2.size)))
    clear hown3 hb3 hst3
    go_wp2_with fail
    refine (at_any HX.out.1 fr HH.out.2).mono ?_
    rintro e w4 ⟨v4, rfl, hown4, hb4, _⟩
    obtain ⟨l4, hl4⟩ : ∃ l4, atL rows fr = l4 := ⟨_, rfl⟩
    have hris := atL_rising rows fr
    rw [hl4] at hown4 hris
    have hlen4 : (l4.length + ([] : List Chg).length + 1) * 48 ≤ 140737488355328 := by
      have h1 : l4.length ≤ rows.length := by
        rw [← hl4]
        unfold atL
        refine Nat.le_trans (compactL_le _) ?_
        rw [List.length_mergeSort]
        have := thereL_le rows fr rows.length
        rwa [List.take_of_length_le (Nat.le_refl _)] at this
      rw [List.length_nil, Nat.add_zero]
      exact Nat.le_trans (Nat.mul_le_mul_right 48 (by omega)) HH.out.2
    have hread4 := hown4.read tupC_len
    obtain ⟨ao4, n4, cap4, rfl, hn4⟩ := hown4.sl
    have H4 := Lib.hid (And.intro hread4 (And.intro (HX.out.2.trans (hb4.mono HX.out.2.size)) (And.intro hris hlen4)))
    clear hown4 hb4 hread4 hris hlen4 hl4 hn4
    go_wp2_with fail
    refine (play_any H4.out.1 (readNil chgC 5 w4) H4.out.2.2.2).mono ?_
    rintro e w5 ⟨v5, rfl, hown5, hb5, _⟩
    rw [playL_rising H4.out.2.2.1] at hown5
    obtain ⟨ao5, n5, cap5, rfl, hn5⟩ := hown5.sl
    have H5 := Lib.hid (And.intro (hown5.read tupC_len) (And.intro (H4.out.1.mod (by decide) tupC_len (Mod.of_below hb5 (fun _ => False)) (fun _ _ h => h)) (H4.out.2.1.trans (hb5.mono H4.out.2.1.size))))
    clear hown5 hb5 hn5
    go_wp2_with fail
    refine (tuples_any H5.out.1 H5.out.2.1).mono ?_
    rintro e w6 ⟨rfl, hm6⟩
    rw [decide_eq_true (rfl : l4 = l4)]
    have hb6 : Below w5.heap.size w5 w6 := hm6.to_below (Nat.le_refl _) (fun _ h => h.elim)
    have H6 := Lib.hid (And.intro (H5.out.2.1.mod (by decide) tupC_len hm6 (fun _ _ h => h)) (H5.out.2.2.trans (hb6.mono H5.out.2.2.size)))
    clear hm6 hb6
    go_wp2_with fail
    refine (net_any H6.out.1 H6.out.1 (by rw [netU_same]; decide)).mono ?_
    rintro e w7 ⟨v7, l7, rfl, hp7, _, hown7, hb7, _⟩
    rw [netU_same] at hp7
    rw [List.perm_nil.1 hp7] at hown7
    obtain ⟨ao7, n7, cap7, rfl, hn7⟩ := hown7.sl
    have hn7' : n7 = 0 := by rw [← hn7]; rfl
    subst hn7'
    have H7 := Lib.hid (H6.out.2.trans (hb7.mono H6.out.2.size))
    clear hown7 hb7 hp7 hn7
    go_wp2_with fail
    refine (Back.back_any (readNil chgC 5 w7) (by decide)).mono ?_
    rintro e w8 ⟨v8, rfl, hown8, hb8, _⟩
    obtain ⟨ao8, n8, cap8, rfl, hn8⟩ := hown8.sl
    have hn8' : n8 = 0 := by rw [← hn8]; rfl
    subst hn8'
    have H8 := Lib.hid (H7.out.trans (hb8.mono H7.out.size))
    clear hown8 hb8 hn8
    go_wp2_with fail
    refine (rows_any (readNil chgC 5 w8) (by decide)).mono ?_
    rintro e w9 ⟨v9, l9, rfl, _, hst9, hown9, hb9, _⟩
    have e9 := stab_nil rowSwo hst9
    subst e9
    obtain ⟨ao9, n9, cap9, rfl, hn9⟩ := hown9.sl
    simp only [List.length_nil] at hn9
    subst hn9
    have H9 := Lib.hid (H8.out.trans (hb9.mono H8.out.size))
    clear hown9 hb9 hst9
    go_wp2
    go_ret
    exact ⟨rfl, H9.out⟩
  · have HX := H2
    go_wp2_with fail
    refine (at_any HX.out.1 fr HH.out.2).mono ?_
    rintro e w4 ⟨v4, rfl, hown4, hb4, _⟩
    obtain ⟨l4, hl4⟩ : ∃ l4, atL rows fr = l4 := ⟨_, rfl⟩
    have hris := atL_rising rows fr
    rw [hl4] at hown4 hris
    have hlen4 : (l4.length + ([] : List Chg).length + 1) * 48 ≤ 140737488355328 := by
      have h1 : l4.length ≤ rows.length := by
        rw [← hl4]
        unfold atL
        refine Nat.le_trans (compactL_le _) ?_
        rw [List.length_mergeSort]
        have := thereL_le rows fr rows.length
        rwa [List.take_of_length_le (Nat.le_refl _)] at this
      rw [List.length_nil, Nat.add_zero]
      exact Nat.le_trans (Nat.mul_le_mul_right 48 (by omega)) HH.out.2
    have hread4 := hown4.read tupC_len
    obtain ⟨ao4, n4, cap4, rfl, hn4⟩ := hown4.sl
    have H4 := Lib.hid (And.intro hread4 (And.intro (HX.out.2.trans (hb4.mono HX.out.2.size)) (And.intro hris hlen4)))
    clear hown4 hb4 hread4 hris hlen4 hl4 hn4
    go_wp2_with fail
    refine (play_any H4.out.1 (readNil chgC 5 w4) H4.out.2.2.2).mono ?_
    rintro e w5 ⟨v5, rfl, hown5, hb5, _⟩
    rw [playL_rising H4.out.2.2.1] at hown5
    obtain ⟨ao5, n5, cap5, rfl, hn5⟩ := hown5.sl
    have H5 := Lib.hid (And.intro (hown5.read tupC_len) (And.intro (H4.out.1.mod (by decide) tupC_len (Mod.of_below hb5 (fun _ => False)) (fun _ _ h => h)) (H4.out.2.1.trans (hb5.mono H4.out.2.1.size))))
    clear hown5 hb5 hn5
    go_wp2_with fail
    refine (tuples_any H5.out.1 H5.out.2.1).mono ?_
    rintro e w6 ⟨rfl, hm6⟩
    rw [decide_eq_true (rfl : l4 = l4)]
    have hb6 : Below w5.heap.size w5 w6 := hm6.to_below (Nat.le_refl _) (fun _ h => h.elim)
    have H6 := Lib.hid (And.intro (H5.out.2.1.mod (by decide) tupC_len hm6 (fun _ _ h => h)) (H5.out.2.2.trans (hb6.mono H5.out.2.2.size)))
    clear hm6 hb6
    go_wp2_with fail
    refine (net_any H6.out.1 H6.out.1 (by rw [netU_same]; decide)).mono ?_
    rintro e w7 ⟨v7, l7, rfl, hp7, _, hown7, hb7, _⟩
    rw [netU_same] at hp7
    rw [List.perm_nil.1 hp7] at hown7
    obtain ⟨ao7, n7, cap7, rfl, hn7⟩ := hown7.sl
    have hn7' : n7 = 0 := by rw [← hn7]; rfl
    subst hn7'
    have H7 := Lib.hid (H6.out.2.trans (hb7.mono H6.out.2.size))
    clear hown7 hb7 hp7 hn7
    go_wp2_with fail
    refine (Back.back_any (readNil chgC 5 w7) (by decide)).mono ?_
    rintro e w8 ⟨v8, rfl, hown8, hb8, _⟩
    obtain ⟨ao8, n8, cap8, rfl, hn8⟩ := hown8.sl
    have hn8' : n8 = 0 := by rw [← hn8]; rfl
    subst hn8'
    have H8 := Lib.hid (H7.out.trans (hb8.mono H7.out.size))
    clear hown8 hb8 hn8
    go_wp2_with fail
    refine (rows_any (readNil chgC 5 w8) (by decide)).mono ?_
    rintro e w9 ⟨v9, l9, rfl, _, hst9, hown9, hb9, _⟩
    have e9 := stab_nil rowSwo hst9
    subst e9
    obtain ⟨ao9, n9, cap9, rfl, hn9⟩ := hown9.sl
    simp only [List.length_nil] at hn9
    subst hn9
    have H9 := Lib.hid (H8.out.trans (hb9.mono H8.out.size))
    clear hown9 hb9 hst9
    go_wp2
    go_ret
    exact ⟨rfl, H9.out⟩
end Go.Proofs.Ytobcakjlfdejjaa.WatchEmpty
