/- tuple.Check, walked. -/
import Derived.Test.YtojjnfhgldjgbaaDoorStoreP
import Derived.Test.YtojjnfhgldjgbaaDoorShelfS
set_option linter.unusedVariables false
set_option linter.unusedSimpArgs false
namespace Go.Proofs.YtojjnfhgldjgbaaDoor.Store
open Go.RowKit Go.Por Go.Sort Go.Proofs.YtojjnfhgldjgbaaDoor.Watch Go.Por.Tupl

/-- What strings.Cut gives at a sign. -/
def cutB (s : ByteArray) (c : UInt8) : ByteArray × ByteArray × Bool :=
  if 0 ≤ Lib.indexByte s.data.toList c then (⟨(s.data.toList.take (Lib.indexByte s.data.toList c).toNat).toArray⟩, ⟨(s.data.toList.drop ((Lib.indexByte s.data.toList c).toNat + 1)).toArray⟩, true) else (s, ⟨#[]⟩, false)
theorem extract_take (s : ByteArray) (k : Nat) : s.extract 0 k = ⟨(s.data.toList.take k).toArray⟩ := by
  apply ByteArray.ext
  rw [ByteArray.data_extract]
  apply Array.toList_inj.1
  simp [Array.toList_extract]
theorem extract_drop (s : ByteArray) (k : Nat) : s.extract k s.size = ⟨(s.data.toList.drop k).toArray⟩ := by
  apply ByteArray.ext
  rw [ByteArray.data_extract]
  apply Array.toList_inj.1
  simp [Array.toList_extract]
  exact List.take_of_length_le (by simp)
set_option maxRecDepth 100000 in
set_option maxHeartbeats 800000 in
theorem slcut_any (w : World) (s : ByteArray) (hs : s.size ≤ 9223372036854775807) (c : UInt8) : Calls Tryd.prog 73 #[.string s, .string ⟨#[c]⟩] w fun e w' => e = .returned (.tuple #[.string (cutB s c).1, .string (cutB s c).2.1, .bool (cutB s c).2.2]) ∧ Below w.heap.size w w' := by
  have hi : ∀ W : World, Calls Tryd.prog 83 #[.string s, .string ⟨#[c]⟩] W fun e w' => e = .returned (.int .i64 (Lib.indexByte s.data.toList c)) ∧ w' = W := fun W => Tryd.stringslite_Index_one s c W
  obtain ⟨i, hI⟩ : ∃ i, Lib.indexByte s.data.toList c = i := ⟨_, rfl⟩
  have h1 := indexByte_lo s.data.toList c
  have h2 : 0 ≤ i → i.toNat < s.size := fun h => by
    rw [← hI] at h ⊢
    have := indexByte_lt h
    simpa using this
  unfold cutB
  rw [hI] at hi h1 ⊢
  have HH := Lib.hid (And.intro hi hI)
  clear hi hI
  by_cases h0 : 0 ≤ i
  · rw [if_pos h0]
    obtain ⟨k, rfl⟩ := Int.eq_ofNat_of_zero_le h0
    have hk := h2 h0
    rw [Int.toNat_natCast] at hk ⊢
    obtain ⟨z, hz⟩ : ∃ z, s.size = z := ⟨_, rfl⟩
    rw [hz] at hs hk
    clear h0 h1 h2
    have e1 : ((k : Int) + 1).toNat = k + 1 := by omega
    have HZ := Lib.hid (And.intro hz hk)
    clear hz hk
    go_enter Tryd.func73, Tryd.ntmps73
    go_wp2_with fail
    refine (HH.out.1 _).mono ?_
    rintro e w1 ⟨rfl, rfl⟩
    go_upto_region 3 with fail
    refine wp_region_held_drew (S := fun w' => Below w1.heap.size w1 w') (by kernel_rfl) ((Below.refl _ w1).drew) (fun hS => ?_)
    refine takeD (i := 0) rfl (by kernel_rfl) (by kernel_rfl) (by kernel_rfl) (fun _ _ _ h => h) hS (Or.inl ⟨by rfl, fun w hSw => by go_simp; rfl⟩) ?_
    simp only [Act.put, List.setIfInBounds_toArray, List.set_cons_zero, List.set_cons_succ]
    refine takeD (i := 1) rfl (by kernel_rfl) (by kernel_rfl) (by kernel_rfl) (fun _ _ _ h => h) hS (Or.inl ⟨by rfl, fun w hSw => by go_simp; rfl⟩) ?_
    simp only [Act.put, List.setIfInBounds_toArray, List.set_cons_zero, List.set_cons_succ]
    refine takeD (i := 2) (v := (.string (s.extract 0 k))) rfl (by kernel_rfl) (by kernel_rfl) (by kernel_rfl) (fun _ _ _ h => h) hS (Or.inl ⟨by rfl, fun w hSw => by have q1 := HZ.out.1; have q2 := HZ.out.2; go_simp; exact fun h => absurd h (by omega)⟩) ?_
    simp only [Act.put, List.setIfInBounds_toArray, List.set_cons_zero, List.set_cons_succ]
    refine takeD (i := 3) rfl (by kernel_rfl) (by kernel_rfl) (by kernel_rfl) (fun _ _ _ h => h) hS (Or.inl ⟨by rfl, fun w hSw => by go_simp; rfl⟩) ?_
    simp only [Act.put, List.setIfInBounds_toArray, List.set_cons_zero, List.set_cons_succ]
    refine takeD (i := 4) rfl (by kernel_rfl) (by kernel_rfl) (by kernel_rfl) (fun _ _ _ h => h) hS (Or.inl ⟨by rfl, fun w hSw => by go_simp; rfl⟩) ?_
    simp only [Act.put, List.setIfInBounds_toArray, List.set_cons_zero, List.set_cons_succ]
    refine takeD (i := 5) rfl (by kernel_rfl) (by kernel_rfl) (by kernel_rfl) (fun _ _ _ h => h) hS (Or.inl ⟨by rfl, fun w hSw => by go_simp; rfl⟩) ?_
    simp only [Act.put, List.setIfInBounds_toArray, List.set_cons_zero, List.set_cons_succ]
    refine takeD (i := 6) (v := (.int .i64 1)) rfl (by kernel_rfl) (by kernel_rfl) (by kernel_rfl) (fun _ _ _ h => h) hS (Or.inl ⟨by rfl, fun w hSw => by go_simp⟩) ?_
    simp only [Act.put, List.setIfInBounds_toArray, List.set_cons_zero, List.set_cons_succ]
    refine takeD (i := 7) (v := (.int .i64 ((k : Int) + 1))) rfl (by kernel_rfl) (by kernel_rfl) (by kernel_rfl) (fun _ _ _ h => h) hS (Or.inl ⟨by rfl, fun w hSw => by have q1 := HZ.out.1; have q2 := HZ.out.2; go_simp; rw [IntKind.wrap_i64]; omega⟩) ?_
    simp only [Act.put, List.setIfInBounds_toArray, List.set_cons_zero, List.set_cons_succ]
    refine takeD (i := 8) (v := (.string (s.extract (k + 1) s.size))) rfl (by kernel_rfl) (by kernel_rfl) (by kernel_rfl) (fun _ _ _ h => h) hS (Or.inl ⟨by rfl, fun w hSw => by have q1 := HZ.out.1; have q2 := HZ.out.2; go_simp; exact fun h => absurd (h (by omega)) (by omega)⟩) ?_
    simp only [Act.put, List.setIfInBounds_toArray, List.set_cons_zero, List.set_cons_succ]
    refine takeD (i := 9) rfl (by kernel_rfl) (by kernel_rfl) (by kernel_rfl) (fun _ _ _ h => h) hS (Or.inl ⟨by rfl, fun w hSw => by go_simp; rfl⟩) ?_
    simp only [Act.put, List.setIfInBounds_toArray, List.set_cons_zero, List.set_cons_succ]
    refine takeD (i := 10) rfl (by kernel_rfl) (by kernel_rfl) (by kernel_rfl) (fun _ _ _ h => h) hS (Or.inl ⟨by rfl, fun w hSw => by go_simp; rfl⟩) ?_
    simp only [Act.put, List.setIfInBounds_toArray, List.set_cons_zero, List.set_cons_succ]
    refine takeD (i := 11) rfl (by kernel_rfl) (by kernel_rfl) (by kernel_rfl) (fun _ _ _ h => h) hS (Or.inl ⟨by rfl, fun w hSw => by go_simp; rfl⟩) ?_
    simp only [Act.put, List.setIfInBounds_toArray, List.set_cons_zero, List.set_cons_succ]
    refine wpAnyH_done (by kernel_rfl) ?_ _
    simp only [Exit.then]
    go_wp2
    refine bodyPost_ret (results_tmp3 rfl _ _ _) rfl ?_
    rw [extract_take, extract_drop]
    exact ⟨rfl, (Below.refl _ w1).drew⟩
  · rw [if_neg h0]
    go_enter Tryd.func73, Tryd.ntmps73
    go_wp2_with fail
    refine (HH.out.1 _).mono ?_
    rintro e w1 ⟨rfl, rfl⟩
    go_wp2
    refine bodyPost_ret (results_tmp3 rfl _ _ _) rfl ?_
    exact ⟨rfl, Below.refl _ _⟩
set_option maxRecDepth 100000 in
set_option maxHeartbeats 800000 in
theorem name_any (w : World) (s : ByteArray) (hs : s.size ≤ 9223372036854775807) : Calls Tryd.prog 36 #[.string s] w fun e w' => e = .returned (.bool (nameL s.data.toList)) ∧ Below w.heap.size w w' := by
  have ht : ∀ W : World, Calls Tryd.prog 61 #[.string s, .string ⟨cset.toArray⟩] W fun e w' => e = .returned (.string ⟨(Lib.trimS s.data.toList cset).toArray⟩) ∧ Below W.heap.size W w' := fun W => Tryd.strings_Trim s ⟨cset.toArray⟩ W hs (by decide) (by
    intro j b hj
    have h1 : ∀ b ∈ cset, b.toNat < 128 := by decide
    exact h1 b (List.mem_of_getElem? (by simpa using hj)))
  have HH := Lib.hid ht
  clear ht
  have he := ByteArray.toList_eq s
  have hz : s.data.toList.length = s.size := by simp
  by_cases h0 : s.data.toList = []
  · have h1 : s.toList.isEmpty = true := by rw [he, h0]; rfl
    have h2 : nameL s.data.toList = false := by rw [h0]; rfl
    rw [h2]
    clear he h0 h2 hz
    go_enter Tryd.func36, Tryd.ntmps36
    go_wp2
    go_ret
    exact ⟨rfl, Below.refl _ _⟩
  · have h1 : s.toList.isEmpty = false := by rw [he]; simpa using h0
    by_cases h3 : s.size ≤ 32
    · have h2 : nameL s.data.toList = (Lib.trimS s.data.toList cset).isEmpty := by
        rw [trim_name]
        unfold nameL
        rw [hz, decide_eq_true h3]
        cases hh : s.data.toList with
        | nil => exact absurd hh h0
        | cons a b => rfl
      rw [h2]
      obtain ⟨q, hq⟩ : ∃ q, Lib.trimS s.data.toList cset = q := ⟨_, rfl⟩
      rw [hq] at HH ⊢
      have h4 : (⟨q.toArray⟩ : ByteArray).toList.isEmpty = q.isEmpty := by rw [ByteArray.toList_eq]
      have h32 : (s.size : Int) ≤ 32 := by omega
      clear he h0 h2 hz h3
      go_enter Tryd.func36, Tryd.ntmps36
      go_wp2_with fail
      refine (HH.out _).mono ?_
      rintro e w1 ⟨rfl, hb⟩
      have H1 := Lib.hid hb
      clear hb
      go_wp2
      go_ret
      exact ⟨by simp [h4], H1.out⟩
    · have h2 : nameL s.data.toList = false := by
        unfold nameL
        rw [hz, decide_eq_false h3]
        simp
      rw [h2]
      have h32 : ¬ (s.size : Int) ≤ 32 := by omega
      clear he h0 h2 hz h3
      go_enter Tryd.func36, Tryd.ntmps36
      go_wp2
      go_ret
      exact ⟨rfl, Below.refl _ _⟩
set_option maxRecDepth 100000 in
set_option maxHeartbeats 800000 in
theorem cut_any (w : World) (s : ByteArray) (hs : s.size ≤ 9223372036854775807) (c : UInt8) : Calls Tryd.prog 60 #[.string s, .string ⟨#[c]⟩] w fun e w' => e = .returned (.tuple #[.string (cutB s c).1, .string (cutB s c).2.1, .bool (cutB s c).2.2]) ∧ Below w.heap.size w w' := by
  have HH := Lib.hid (slcut_any w s hs c)
  obtain ⟨⟨a, b, o⟩, hq⟩ : ∃ q, cutB s c = q := ⟨_, rfl⟩
  rw [hq] at HH ⊢
  go_enter Tryd.func60, Tryd.ntmps60
  go_wp2_with fail
  refine (HH.out).mono ?_
  rintro e w1 ⟨rfl, hb⟩
  have H1 := Lib.hid hb
  clear hb
  go_wp2
  refine bodyPost_ret (results_tmp3 rfl _ _ _) rfl ?_
  exact ⟨rfl, H1.out⟩
theorem cutB_size (s : ByteArray) (c : UInt8) : (cutB s c).1.size ≤ s.size ∧ (cutB s c).2.1.size ≤ s.size := by
  unfold cutB
  split
  · refine ⟨?_, ?_⟩
    · show (List.toArray _).size ≤ s.data.size
      rw [List.size_toArray, List.length_take, Array.length_toList]
      omega
    · show (List.toArray _).size ≤ s.data.size
      rw [List.size_toArray, List.length_drop, Array.length_toList]
      omega
  · exact ⟨Nat.le_refl _, Nat.zero_le _⟩
theorem objE_cut (s : ByteArray) : objE s.data.toList = if (cutB s 58).2.2 = true then (if nameL (cutB s 58).1.data.toList && nameL (cutB s 58).2.1.data.toList then 0 else 50) else 51 := by
  unfold objE cutB
  by_cases h : 0 ≤ Lib.indexByte s.data.toList 58
  · rw [if_neg (by omega), if_pos h]
    simp
  · rw [if_pos (by omega), if_neg h]
    simp
theorem usrE_cut (s : ByteArray) : usrE s.data.toList = if objE (cutB s 35).1.data.toList = 0 then (if (cutB s 35).2.2 && !nameL (cutB s 35).2.1.data.toList then 50 else 0) else objE (cutB s 35).1.data.toList := by
  unfold usrE cutB
  by_cases h : 0 ≤ Lib.indexByte s.data.toList 35
  · rw [if_neg (by omega), if_pos h]
    simp only [Bool.true_and]
    congr 1
    cases nameL (List.drop ((Lib.indexByte s.data.toList 35).toNat + 1) s.data.toList) <;> rfl
  · rw [if_pos (by omega), if_neg h]
    simp only [Bool.false_and]
    by_cases h2 : objE s.data.toList = 0
    · rw [if_pos h2, h2]; rfl
    · rw [if_neg h2]
set_option maxRecDepth 100000 in
set_option maxHeartbeats 800000 in
theorem object_any (w : World) (s : ByteArray) (hs : s.size ≤ 9223372036854775807) : Calls Tryd.prog 35 #[.string s] w fun e w' => ∃ a b, e = .returned (.tuple #[.string a, .string b, .int .i64 (objE s.data.toList)]) ∧ Below w.heap.size w w' := by
  have hc : ∀ W : World, Calls Tryd.prog 60 #[.string s, .string ⟨#[58]⟩] W fun e w' => e = .returned (.tuple #[.string (cutB s 58).1, .string (cutB s 58).2.1, .bool (cutB s 58).2.2]) ∧ Below W.heap.size W w' := fun W => cut_any W s hs 58
  have h1 : ∀ W : World, Calls Tryd.prog 36 #[.string (cutB s 58).1] W fun e w' => e = .returned (.bool (nameL (cutB s 58).1.data.toList)) ∧ Below W.heap.size W w' := fun W => name_any W _ (Nat.le_trans (cutB_size s 58).1 hs)
  have h2 : ∀ W : World, Calls Tryd.prog 36 #[.string (cutB s 58).2.1] W fun e w' => e = .returned (.bool (nameL (cutB s 58).2.1.data.toList)) ∧ Below W.heap.size W w' := fun W => name_any W _ (Nat.le_trans (cutB_size s 58).2 hs)
  rw [objE_cut]
  obtain ⟨n1, hn1⟩ : ∃ n, nameL (cutB s 58).1.data.toList = n := ⟨_, rfl⟩
  obtain ⟨n2, hn2⟩ : ∃ n, nameL (cutB s 58).2.1.data.toList = n := ⟨_, rfl⟩
  rw [hn1] at h1 ⊢
  rw [hn2] at h2 ⊢
  clear hn1 hn2
  obtain ⟨⟨a, b, o⟩, hq⟩ : ∃ q, cutB s 58 = q := ⟨_, rfl⟩
  rw [hq] at h1 h2 hc ⊢
  have HH := Lib.hid (And.intro hc (And.intro h1 h2))
  clear hc h1 h2 hq
  cases o with
  | false =>
    go_enter Tryd.func35, Tryd.ntmps35
    go_wp2_with fail
    refine (HH.out.1 _).mono ?_
    rintro e w1 ⟨rfl, hb⟩
    have H1 := Lib.hid hb
    clear hb
    go_wp2
    refine bodyPost_ret (results_tmp3 rfl _ _ _) rfl ?_
    first | exact ⟨⟨_, _, rfl⟩, H1.out⟩ | exact ⟨_, _, rfl, H1.out⟩
  | true =>
    cases n1 with
    | false =>
      go_enter Tryd.func35, Tryd.ntmps35
      go_wp2_with fail
      refine (HH.out.1 _).mono ?_
      rintro e w1 ⟨rfl, hb⟩
      have H1 := Lib.hid hb
      clear hb
      go_wp2_with fail
      refine (HH.out.2.1 _).mono ?_
      rintro e w2 ⟨rfl, hb⟩
      have H2 := Lib.hid hb
      clear hb
      go_wp2
      refine bodyPost_ret (results_tmp3 rfl _ _ _) rfl ?_
      first | exact ⟨⟨_, _, rfl⟩, H1.out.trans (H2.out.mono H1.out.size)⟩ | exact ⟨_, _, rfl, H1.out.trans (H2.out.mono H1.out.size)⟩
    | true =>
      go_enter Tryd.func35, Tryd.ntmps35
      go_wp2_with fail
      refine (HH.out.1 _).mono ?_
      rintro e w1 ⟨rfl, hb⟩
      have H1 := Lib.hid hb
      clear hb
      go_wp2_with fail
      refine (HH.out.2.1 _).mono ?_
      rintro e w2 ⟨rfl, hb⟩
      have H2 := Lib.hid hb
      clear hb
      go_wp2_with fail
      refine (HH.out.2.2 _).mono ?_
      rintro e w3 ⟨rfl, hb⟩
      have H3 := Lib.hid hb
      clear hb
      cases n2 with
      | false =>
        go_wp2
        refine bodyPost_ret (results_tmp3 rfl _ _ _) rfl ?_
        first | exact ⟨⟨_, _, rfl⟩, (H1.out.trans (H2.out.mono H1.out.size)).trans (H3.out.mono (Nat.le_trans H1.out.size H2.out.size))⟩ | exact ⟨_, _, rfl, (H1.out.trans (H2.out.mono H1.out.size)).trans (H3.out.mono (Nat.le_trans H1.out.size H2.out.size))⟩
      | true =>
        go_wp2
        refine bodyPost_ret (results_tmp3 rfl _ _ _) rfl ?_
        first | exact ⟨⟨_, _, rfl⟩, (H1.out.trans (H2.out.mono H1.out.size)).trans (H3.out.mono (Nat.le_trans H1.out.size H2.out.size))⟩ | exact ⟨_, _, rfl, (H1.out.trans (H2.out.mono H1.out.size)).trans (H3.out.mono (Nat.le_trans H1.out.size H2.out.size))⟩
set_option maxRecDepth 100000 in
set_option maxHeartbeats 800000 in
theorem user_any (w : World) (s : ByteArray) (hs : s.size ≤ 9223372036854775807) : Calls Tryd.prog 37 #[.string s] w fun e w' => ∃ a b, e = .returned (.tuple #[.string a, .string b, .int .i64 (usrE s.data.toList)]) ∧ Below w.heap.size w w' := by
  have hc : ∀ W : World, Calls Tryd.prog 60 #[.string s, .string ⟨#[35]⟩] W fun e w' => e = .returned (.tuple #[.string (cutB s 35).1, .string (cutB s 35).2.1, .bool (cutB s 35).2.2]) ∧ Below W.heap.size W w' := fun W => cut_any W s hs 35
  have h1 : ∀ W : World, Calls Tryd.prog 35 #[.string (cutB s 35).1] W fun e w' => ∃ a b, e = .returned (.tuple #[.string a, .string b, .int .i64 (objE (cutB s 35).1.data.toList)]) ∧ Below W.heap.size W w' := fun W => object_any W _ (Nat.le_trans (cutB_size s 35).1 hs)
  have h2 : ∀ W : World, Calls Tryd.prog 36 #[.string (cutB s 35).2.1] W fun e w' => e = .returned (.bool (nameL (cutB s 35).2.1.data.toList)) ∧ Below W.heap.size W w' := fun W => name_any W _ (Nat.le_trans (cutB_size s 35).2 hs)
  rw [usrE_cut]
  obtain ⟨n1, hn1⟩ : ∃ n, objE (cutB s 35).1.data.toList = n := ⟨_, rfl⟩
  obtain ⟨n2, hn2⟩ : ∃ n, nameL (cutB s 35).2.1.data.toList = n := ⟨_, rfl⟩
  rw [hn1] at h1 ⊢
  rw [hn2] at h2 ⊢
  clear hn1 hn2
  obtain ⟨⟨a, b, o⟩, hq⟩ : ∃ q, cutB s 35 = q := ⟨_, rfl⟩
  rw [hq] at h1 h2 hc ⊢
  have HH := Lib.hid (And.intro hc (And.intro h1 h2))
  clear hc h1 h2 hq
  by_cases h0 : n1 = 0
  · subst h0
    cases o with
    | false =>
      go_enter Tryd.func37, Tryd.ntmps37
      go_wp2_with fail
      refine (HH.out.1 _).mono ?_
      rintro e w1 ⟨rfl, hb⟩
      have H1 := Lib.hid hb
      clear hb
      go_wp2_with fail
      refine (HH.out.2.1 _).mono ?_
      rintro e w2 ⟨x, y, rfl, hb⟩
      have H2 := Lib.hid hb
      clear hb
      go_wp2
      refine bodyPost_ret (results_tmp3 rfl _ _ _) rfl ?_
      first | exact ⟨⟨_, _, rfl⟩, H1.out.trans (H2.out.mono H1.out.size)⟩ | exact ⟨_, _, rfl, H1.out.trans (H2.out.mono H1.out.size)⟩
    | true =>
      go_enter Tryd.func37, Tryd.ntmps37
      go_wp2_with fail
      refine (HH.out.1 _).mono ?_
      rintro e w1 ⟨rfl, hb⟩
      have H1 := Lib.hid hb
      clear hb
      go_wp2_with fail
      refine (HH.out.2.1 _).mono ?_
      rintro e w2 ⟨x, y, rfl, hb⟩
      have H2 := Lib.hid hb
      clear hb
      go_wp2_with fail
      refine (HH.out.2.2 _).mono ?_
      rintro e w3 ⟨rfl, hb⟩
      have H3 := Lib.hid hb
      clear hb
      cases n2 with
      | false =>
        go_wp2
        refine bodyPost_ret (results_tmp3 rfl _ _ _) rfl ?_
        first | exact ⟨⟨_, _, rfl⟩, (H1.out.trans (H2.out.mono H1.out.size)).trans (H3.out.mono (Nat.le_trans H1.out.size H2.out.size))⟩ | exact ⟨_, _, rfl, (H1.out.trans (H2.out.mono H1.out.size)).trans (H3.out.mono (Nat.le_trans H1.out.size H2.out.size))⟩
      | true =>
        go_wp2
        refine bodyPost_ret (results_tmp3 rfl _ _ _) rfl ?_
        first | exact ⟨⟨_, _, rfl⟩, (H1.out.trans (H2.out.mono H1.out.size)).trans (H3.out.mono (Nat.le_trans H1.out.size H2.out.size))⟩ | exact ⟨_, _, rfl, (H1.out.trans (H2.out.mono H1.out.size)).trans (H3.out.mono (Nat.le_trans H1.out.size H2.out.size))⟩
  · have hn : (n1 == 0) = false := by simp [h0]
    rw [if_neg h0]
    go_enter Tryd.func37, Tryd.ntmps37
    go_wp2_with fail
    refine (HH.out.1 _).mono ?_
    rintro e w1 ⟨rfl, hb⟩
    have H1 := Lib.hid hb
    clear hb
    go_wp2_with fail
    refine (HH.out.2.1 _).mono ?_
    rintro e w2 ⟨x, y, rfl, hb⟩
    have H2 := Lib.hid hb
    clear hb
    go_wp2
    refine bodyPost_ret (results_tmp3 rfl _ _ _) rfl ?_
    first | exact ⟨⟨_, _, rfl⟩, H1.out.trans (H2.out.mono H1.out.size)⟩ | exact ⟨_, _, rfl, H1.out.trans (H2.out.mono H1.out.size)⟩
set_option maxRecDepth 100000 in
set_option maxHeartbeats 1600000 in
/-- tuple.Check of one tuple. -/
theorem check_one {w : World} {v : Value} (t : Tup) (hr : OwnS tupC 3 w 27 v [t]) (h0 : t.1.size ≤ 9223372036854775807) (h1 : t.2.1.size ≤ 9223372036854775807) (h2 : t.2.2.size ≤ 9223372036854775807) : Calls Tryd.prog 24 #[v] w fun e w' => e = .returned (.int .i64 (tchk t)) ∧ Below w.heap.size w w' := by
  obtain ⟨t0, t1, t2⟩ := t
  obtain ⟨g, cap, rfl⟩ : ∃ g cap, v = .slice (some ⟨g, 0, none⟩) 1 cap := by
    rcases hr.form with ⟨_, h⟩ | ⟨g, cap, h, _⟩
    · cases h
    · exact ⟨g, cap, h⟩
  have hrange := hr.range tupC_len (i := 0) rfl
  have hg := hr.lt
  have a1 : ∀ W : World, Calls Tryd.prog 35 #[.string t0] W fun e w' => ∃ a b, e = .returned (.tuple #[.string a, .string b, .int .i64 (objE t0.data.toList)]) ∧ Below W.heap.size W w' := fun W => object_any W _ h0
  have a2 : ∀ W : World, Calls Tryd.prog 36 #[.string t1] W fun e w' => e = .returned (.bool (nameL t1.data.toList)) ∧ Below W.heap.size W w' := fun W => name_any W _ h1
  have a3 : ∀ W : World, Calls Tryd.prog 37 #[.string t2] W fun e w' => ∃ a b, e = .returned (.tuple #[.string a, .string b, .int .i64 (usrE t2.data.toList)]) ∧ Below W.heap.size W w' := fun W => user_any W _ h2
  unfold tchk
  obtain ⟨n1, hn1⟩ : ∃ n, objE t0.data.toList = n := ⟨_, rfl⟩
  obtain ⟨n2, hn2⟩ : ∃ n, nameL t1.data.toList = n := ⟨_, rfl⟩
  obtain ⟨n3, hn3⟩ : ∃ n, usrE t2.data.toList = n := ⟨_, rfl⟩
  rw [hn1] at a1 ⊢
  rw [hn2] at a2 ⊢
  rw [hn3] at a3 ⊢
  obtain ⟨R, hR⟩ : ∃ R, (if n1 = 0 then (if n2 = true then n3 else 50) else n1) = R := ⟨_, rfl⟩
  simp only [hR]
  have HH := Lib.hid (And.intro a1 (And.intro a2 (And.intro a3 (And.intro hrange hg))))
  have HR := Lib.hid hR
  clear a1 a2 a3 hn1 hn2 hn3 hr h0 h1 h2 hrange hg hR
  go_enter Tryd.func24, Tryd.ntmps24
  go_wp2
  go_loopg [13] 1 (fun gg vi wx => ∃ (t : Nat), t + gg = 1 ∧ vi = .int .i64 (t : Int) ∧ Below w.heap.size w wx ∧ (t = 1 → n1 = 0 ∧ n2 = true ∧ n3 = 0))
  case atStart => exact ⟨0, rfl, rfl, Below.refl _ _, fun h => by omega⟩
  case round =>
    obtain ⟨t, htg, rfl, hbel, hd⟩ := hrel
    by_cases hg : gk = 0
    · have ht : t = 1 := by omega
      subst ht
      have HE := Lib.hid (And.intro hbel (hd rfl))
      clear hbel hd htg hg
      go_wp2
      go_ret
      obtain ⟨h1, h2, h3, h4⟩ := HE.out
      refine ⟨?_, h1⟩
      rw [← HR.out, if_pos h2, if_pos h3, h4]
      rfl
    · have ht : t = 0 := by omega
      subst ht
      have hr2 : wr.rangeAt g 0 (tupC (t0, t1, t2)) := range_below (by simpa using HH.out.2.2.2.1) hbel HH.out.2.2.2.2
      have HE := Lib.hid (And.intro hbel (And.intro hr2 htg))
      clear hbel hd htg hg hr2
      go_upto_region 4 with (first
        | (refine wpList_load_mid rfl 27 (.tmp 15) rfl g 0 rfl (tupC (t0, t1, t2)) _ HE.out.2.1 Tryd.underlying27 rfl infoTup0 ?_; unfold tupC))
      obtain ⟨Q, hQ⟩ : ∃ Q, wr.heap.size = Q := ⟨_, rfl⟩
      have hRb := block_new wr (.cells #[.string t0, .string t1, .string t2] 27)
      have hW : ∃ W4, wr.alloc (.cells #[.string t0, .string t1, .string t2] 27) = W4 := ⟨_, rfl⟩
      have hb4 : Below w.heap.size w (wr.alloc (.cells #[.string t0, .string t1, .string t2] 27)) := HE.out.1.alloc HE.out.1.size _
      have hs4 : Q < (wr.alloc (.cells #[.string t0, .string t1, .string t2] 27)).heap.size := by rw [World.size_alloc]; omega
      rw [hQ] at hRb ⊢
      generalize hW4 : wr.alloc (.cells #[.string t0, .string t1, .string t2] 27) = W4 at *
      clear hW hW4 hQ
      have c0 : W4.cell? ⟨Q, 0, none⟩ = some (.string t0) := cell_of hRb rfl
      have HB := Lib.hid (And.intro hRb (And.intro hb4 hs4))
      clear hRb hb4 hs4
      go_wp2_with fail
      refine (HH.out.1 _).mono ?_
      rintro e w5 ⟨x5, y5, rfl, hb5⟩
      have b5 : Mod (fun _ => False) W4 w5 := Mod.of_below hb5 _
      have H5 := Lib.hid hb5
      clear hb5 c0
      by_cases hn : n1 = 0
      · subst hn
        have c1 : w5.cell? ⟨Q, 1, none⟩ = some (.string t1) := cell_of (b5.old HB.out.1 id) rfl
        have B5 := Lib.hid b5
        clear b5
        go_wp2_with fail
        refine (HH.out.2.1 _).mono ?_
        rintro e w6 ⟨rfl, hb6⟩
        have b6 : Mod (fun _ => False) w5 w6 := Mod.of_below hb6 _
        have H6 := Lib.hid hb6
        clear hb6 c1
        cases n2 with
        | true =>
          have c2 : w6.cell? ⟨Q, 2, none⟩ = some (.string t2) := cell_of (b6.old (B5.out.old HB.out.1 id) id) rfl
          have B6 := Lib.hid b6
          clear b6
          go_wp2_with fail
          refine (HH.out.2.2.1 _).mono ?_
          rintro e w7 ⟨x7, y7, rfl, hb7⟩
          have H7 := Lib.hid hb7
          clear hb7 c2
          by_cases hn3 : n3 = 0
          · subst hn3
            go_wp2
            go_roundg (gk - 1)
            case measure => have := HE.out.2.2; omega
            case rel =>
              refine ⟨1, by have := HE.out.2.2; omega, by go_num, ?_, fun _ => by simp⟩
              exact ((HB.out.2.1.trans (H5.out.mono HB.out.2.1.size)).trans (H6.out.mono (Nat.le_trans HB.out.2.1.size H5.out.size))).trans (H7.out.mono (Nat.le_trans (Nat.le_trans HB.out.2.1.size H5.out.size) H6.out.size))
          · have hn3' : (n3 == 0) = false := by simp [hn3]
            go_wp2
            go_ret
            refine ⟨?_, ((HB.out.2.1.trans (H5.out.mono HB.out.2.1.size)).trans (H6.out.mono (Nat.le_trans HB.out.2.1.size H5.out.size))).trans (H7.out.mono (Nat.le_trans (Nat.le_trans HB.out.2.1.size H5.out.size) H6.out.size))⟩
            rw [← HR.out]
            rfl
        | false =>
          go_wp2
          go_ret
          refine ⟨?_, (HB.out.2.1.trans (H5.out.mono HB.out.2.1.size)).trans (H6.out.mono (Nat.le_trans HB.out.2.1.size H5.out.size))⟩
          rw [← HR.out]
          rfl
      · have hn' : (n1 == 0) = false := by simp [hn]
        go_wp2
        go_ret
        refine ⟨?_, HB.out.2.1.trans (H5.out.mono HB.out.2.1.size)⟩
        rw [← HR.out, if_neg hn]
        rfl
end Go.Proofs.YtojjnfhgldjgbaaDoor.Store
