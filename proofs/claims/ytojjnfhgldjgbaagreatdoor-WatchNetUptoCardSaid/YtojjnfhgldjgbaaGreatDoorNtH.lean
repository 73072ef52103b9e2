/- WatchNet, where what came in is of bulk at most 1048576: what leads from some tuples to others does so in a store, and n: part 8 of 32: what it leans on. -/
import Derived.Test.YtojjnfhgldjgbaaGreatDoorNtA
import Derived.Test.YtojjnfhgldjgbaaGreatDoorNtB
import Derived.Test.YtojjnfhgldjgbaaGreatDoorNtC
import Derived.Test.YtojjnfhgldjgbaaGreatDoorNtD
import Derived.Test.YtojjnfhgldjgbaaGreatDoorNtE
import Derived.Test.YtojjnfhgldjgbaaGreatDoorNtF
import Derived.Test.YtojjnfhgldjgbaaGreatDoorNtG
section
set_option linter.unusedVariables false
set_option linter.unusedSimpArgs false
namespace Go.Proofs.YtojjnfhgldjgbaaGreatDoor.Store
open Go.RowKit Go.Por Go.Sort Go.Proofs.YtojjnfhgldjgbaaGreatDoor.Watch Go.Por.Tupl

/-- What strings.Cut gives at a sign. -/
def cutB (s : ByteArray) (c : UInt8) : ByteArray × ByteArray × Bool :=
  if 0 ≤ Lib.indexByte s.data.toList c then (⟨(s.data.toList.take (Lib.indexByte s.data.toList c).toNat).toArray⟩, ⟨(s.data.toList.drop ((Lib.indexByte s.data.toList c).toNat + 1)).toArray⟩, true) else (s, ⟨#[]⟩, false)
theorem extract_take (s : ByteArray) (k : Nat) : s.extract 0 k = ⟨(s.data.toList.take k).toArray⟩ := by
  apply ByteArray.ext
  rw [ByteArray.data_extract]
  apply Array.toList_inj.1
  simp [Array.toList_extract]
theorem extract_drop (s : ByteArray) (k : Nat) : s.extract k s.size = ⟨(s.data.toList.drop k).toArray⟩ := by
  apply ByteArray.ext
  rw [ByteArray.data_extract]
  apply Array.toList_inj.1
  simp [Array.toList_extract]
  exact List.take_of_length_le (by simp)
set_option maxRecDepth 100000 in
set_option maxHeartbeats 800000 in
theorem slcut_any (w : World) (s : ByteArray) (hs : s.size ≤ 9223372036854775807) (c : UInt8) : Calls Tryz.prog 173 #[.string s, .string ⟨#[c]⟩] w fun e w' => e = .returned (.tuple #[.string (cutB s c).1, .string (cutB s c).2.1, .bool (cutB s c).2.2]) ∧ Below w.heap.size w w' := by
  have hi : ∀ W : World, Calls Tryz.prog 188 #[.string s, .string ⟨#[c]⟩] W fun e w' => e = .returned (.int .i64 (Lib.indexByte s.data.toList c)) ∧ w' = W := fun W => Tryz.stringslite_Index_one s c W
  obtain ⟨i, hI⟩ : ∃ i, Lib.indexByte s.data.toList c = i := ⟨_, rfl⟩
  have h1 := indexByte_lo s.data.toList c
  have h2 : 0 ≤ i → i.toNat < s.size := fun h => by
    rw [← hI] at h ⊢
    have := indexByte_lt h
    simpa using this
  unfold cutB
  rw [hI] at hi h1 ⊢
  have HH := Lib.hid (And.intro hi hI)
  clear hi hI
  by_cases h0 : 0 ≤ i
  · rw [if_pos h0]
    obtain ⟨k, rfl⟩ := Int.eq_ofNat_of_zero_le h0
    have hk := h2 h0
    rw [Int.toNat_natCast] at hk ⊢
    obtain ⟨z, hz⟩ : ∃ z, s.size = z := ⟨_, rfl⟩
    rw [hz] at hs hk
    clear h0 h1 h2
    have e1 : ((k : Int) + 1).toNat = k + 1 := by omega
    have HZ := Lib.hid (And.intro hz hk)
    clear hz hk
    go_enter Tryz.func173, Tryz.ntmps173
    go_wp2_with fail
    refine (HH.out.1 _).mono ?_
    rintro e w1 ⟨rfl, rfl⟩
    go_upto_region 3 with fail
    refine wp_region_held_drew (S := fun w' => Below w1.heap.size w1 w') (by kernel_rfl) ((Below.refl _ w1).drew) (fun hS => ?_)
    refine takeD (i := 0) rfl (by kernel_rfl) (by kernel_rfl) (by kernel_rfl) (fun _ _ _ h => h) hS (Or.inl ⟨by rfl, fun w hSw => by go_simp; rfl⟩) ?_
    simp only [Act.put, List.setIfInBounds_toArray, List.set_cons_zero, List.set_cons_succ]
    refine takeD (i := 1) rfl (by kernel_rfl) (by kernel_rfl) (by kernel_rfl) (fun _ _ _ h => h) hS (Or.inl ⟨by rfl, fun w hSw => by go_simp; rfl⟩) ?_
    simp only [Act.put, List.setIfInBounds_toArray, List.set_cons_zero, List.set_cons_succ]
    refine takeD (i := 2) (v := (.string (s.extract 0 k))) rfl (by kernel_rfl) (by kernel_rfl) (by kernel_rfl) (fun _ _ _ h => h) hS (Or.inl ⟨by rfl, fun w hSw => by have q1 := HZ.out.1; have q2 := HZ.out.2; go_simp; exact fun h => absurd h (by omega)⟩) ?_
    simp only [Act.put, List.setIfInBounds_toArray, List.set_cons_zero, List.set_cons_succ]
    refine takeD (i := 3) rfl (by kernel_rfl) (by kernel_rfl) (by kernel_rfl) (fun _ _ _ h => h) hS (Or.inl ⟨by rfl, fun w hSw => by go_simp; rfl⟩) ?_
    simp only [Act.put, List.setIfInBounds_toArray, List.set_cons_zero, List.set_cons_succ]
    refine takeD (i := 4) rfl (by kernel_rfl) (by kernel_rfl) (by kernel_rfl) (fun _ _ _ h => h) hS (Or.inl ⟨by rfl, fun w hSw => by go_simp; rfl⟩) ?_
    simp only [Act.put, List.setIfInBounds_toArray, List.set_cons_zero, List.set_cons_succ]
    refine takeD (i := 5) rfl (by kernel_rfl) (by kernel_rfl) (by kernel_rfl) (fun _ _ _ h => h) hS (Or.inl ⟨by rfl, fun w hSw => by go_simp; rfl⟩) ?_
    simp only [Act.put, List.setIfInBounds_toArray, List.set_cons_zero, List.set_cons_succ]
    refine takeD (i := 6) (v := (.int .i64 1)) rfl (by kernel_rfl) (by kernel_rfl) (by kernel_rfl) (fun _ _ _ h => h) hS (Or.inl ⟨by rfl, fun w hSw => by go_simp⟩) ?_
    simp only [Act.put, List.setIfInBounds_toArray, List.set_cons_zero, List.set_cons_succ]
    refine takeD (i := 7) (v := (.int .i64 ((k : Int) + 1))) rfl (by kernel_rfl) (by kernel_rfl) (by kernel_rfl) (fun _ _ _ h => h) hS (Or.inl ⟨by rfl, fun w hSw => by have q1 := HZ.out.1; have q2 := HZ.out.2; go_simp; rw [IntKind.wrap_i64]; omega⟩) ?_
    simp only [Act.put, List.setIfInBounds_toArray, List.set_cons_zero, List.set_cons_succ]
    refine takeD (i := 8) (v := (.string (s.extract (k + 1) s.size))) rfl (by kernel_rfl) (by kernel_rfl) (by kernel_rfl) (fun _ _ _ h => h) hS (Or.inl ⟨by rfl, fun w hSw => by have q1 := HZ.out.1; have q2 := HZ.out.2; go_simp; exact fun h => absurd (h (by omega)) (by omega)⟩) ?_
    simp only [Act.put, List.setIfInBounds_toArray, List.set_cons_zero, List.set_cons_succ]
    refine takeD (i := 9) rfl (by kernel_rfl) (by kernel_rfl) (by kernel_rfl) (fun _ _ _ h => h) hS (Or.inl ⟨by rfl, fun w hSw => by go_simp; rfl⟩) ?_
    simp only [Act.put, List.setIfInBounds_toArray, List.set_cons_zero, List.set_cons_succ]
    refine takeD (i := 10) rfl (by kernel_rfl) (by kernel_rfl) (by kernel_rfl) (fun _ _ _ h => h) hS (Or.inl ⟨by rfl, fun w hSw => by go_simp; rfl⟩) ?_
    simp only [Act.put, List.setIfInBounds_toArray, List.set_cons_zero, List.set_cons_succ]
    refine takeD (i := 11) rfl (by kernel_rfl) (by kernel_rfl) (by kernel_rfl) (fun _ _ _ h => h) hS (Or.inl ⟨by rfl, fun w hSw => by go_simp; rfl⟩) ?_
    simp only [Act.put, List.setIfInBounds_toArray, List.set_cons_zero, List.set_cons_succ]
    refine wpAnyH_done (by kernel_rfl) ?_ _
    simp only [Exit.then]
    go_wp2
    refine bodyPost_ret (results_tmp3 rfl _ _ _) rfl ?_
    rw [extract_take, extract_drop]
    exact ⟨rfl, (Below.refl _ w1).drew⟩
  · rw [if_neg h0]
    go_enter Tryz.func173, Tryz.ntmps173
    go_wp2_with fail
    refine (HH.out.1 _).mono ?_
    rintro e w1 ⟨rfl, rfl⟩
    go_wp2
    refine bodyPost_ret (results_tmp3 rfl _ _ _) rfl ?_
    exact ⟨rfl, Below.refl _ _⟩
set_option maxRecDepth 100000 in
set_option maxHeartbeats 800000 in
theorem name_any (w : World) (s : ByteArray) (hs : s.size ≤ 9223372036854775807) : Calls Tryz.prog 100 #[.string s] w fun e w' => e = .returned (.bool (nameL s.data.toList)) ∧ Below w.heap.size w w' := by
  have ht : ∀ W : World, Calls Tryz.prog 150 #[.string s, .string ⟨cset.toArray⟩] W fun e w' => e = .returned (.string ⟨(Lib.trimS s.data.toList cset).toArray⟩) ∧ Below W.heap.size W w' := fun W => Tryz.strings_Trim s ⟨cset.toArray⟩ W hs (by decide) (by
    intro j b hj
    have h1 : ∀ b ∈ cset, b.toNat < 128 := by decide
    exact h1 b (List.mem_of_getElem? (by simpa using hj)))
  have HH := Lib.hid ht
  clear ht
  have he := ByteArray.toList_eq s
  have hz : s.data.toList.length = s.size := by simp
  by_cases h0 : s.data.toList = []
  · have h1 : s.toList.isEmpty = true := by rw [he, h0]; rfl
    have h2 : nameL s.data.toList = false := by rw [h0]; rfl
    rw [h2]
    clear he h0 h2 hz
    go_enter Tryz.func100, Tryz.ntmps100
    go_wp2
    go_ret
    exact ⟨rfl, Below.refl _ _⟩
  · have h1 : s.toList.isEmpty = false := by rw [he]; simpa using h0
    by_cases h3 : s.size ≤ 32
    · have h2 : nameL s.data.toList = (Lib.trimS s.data.toList cset).isEmpty := by
        rw [trim_name]
        unfold nameL
        rw [hz, decide_eq_true h3]
        cases hh : s.data.toList with
        | nil => exact absurd hh h0
        | cons a b => rfl
      rw [h2]
      obtain ⟨q, hq⟩ : ∃ q, Lib.trimS s.data.toList cset = q := ⟨_, rfl⟩
      rw [hq] at HH ⊢
      have h4 : (⟨q.toArray⟩ : ByteArray).toList.isEmpty = q.isEmpty := by rw [ByteArray.toList_eq]
      have h32 : (s.size : Int) ≤ 32 := by omega
      clear he h0 h2 hz h3
      go_enter Tryz.func100, Tryz.ntmps100
      go_wp2_with fail
      refine (HH.out _).mono ?_
      rintro e w1 ⟨rfl, hb⟩
      have H1 := Lib.hid hb
      clear hb
      go_wp2
      go_ret
      exact ⟨by simp [h4], H1.out⟩
    · have h2 : nameL s.data.toList = false := by
        unfold nameL
        rw [hz, decide_eq_false h3]
        simp
      rw [h2]
      have h32 : ¬ (s.size : Int) ≤ 32 := by omega
      clear he h0 h2 hz h3
      go_enter Tryz.func100, Tryz.ntmps100
      go_wp2
      go_ret
      exact ⟨rfl, Below.refl _ _⟩
set_option maxRecDepth 100000 in
set_option maxHeartbeats 800000 in
theorem cut_any (w : World) (s : ByteArray) (hs : s.size ≤ 9223372036854775807) (c : UInt8) : Calls Tryz.prog 149 #[.string s, .string ⟨#[c]⟩] w fun e w' => e = .returned (.tuple #[.string (cutB s c).1, .string (cutB s c).2.1, .bool (cutB s c).2.2]) ∧ Below w.heap.size w w' := by
  have HH := Lib.hid (slcut_any w s hs c)
  obtain ⟨⟨a, b, o⟩, hq⟩ : ∃ q, cutB s c = q := ⟨_, rfl⟩
  rw [hq] at HH ⊢
  go_enter Tryz.func149, Tryz.ntmps149
  go_wp2_with fail
  refine (HH.out).mono ?_
  rintro e w1 ⟨rfl, hb⟩
  have H1 := Lib.hid hb
  clear hb
  go_wp2
  refine bodyPost_ret (results_tmp3 rfl _ _ _) rfl ?_
  exact ⟨rfl, H1.out⟩
theorem cutB_size (s : ByteArray) (c : UInt8) : (cutB s c).1.size ≤ s.size ∧ (cutB s c).2.1.size ≤ s.size := by
  unfold cutB
  split
  · refine ⟨?_, ?_⟩
    · show (List.toArray _).size ≤ s.data.size
      rw [List.size_toArray, List.length_take, Array.length_toList]
      omega
    · show (List.toArray _).size ≤ s.data.size
      rw [List.size_toArray, List.length_drop, Array.length_toList]
      omega
  · exact ⟨Nat.le_refl _, Nat.zero_le _⟩
theorem objE_cut (s : ByteArray) : objE s.data.toList = if (cutB s 58).2.2 = true then (if nameL (cutB s 58).1.data.toList && nameL (cutB s 58).2.1.data.toList then 0 else 50) else 51 := by
  unfold objE cutB
  by_cases h : 0 ≤ Lib.indexByte s.data.toList 58
  · rw [if_neg (by omega), if_pos h]
    simp
  · rw [if_pos (by omega), if_neg h]
    simp
theorem usrE_cut (s : ByteArray) : usrE s.data.toList = if objE (cutB s 35).1.data.toList = 0 then (if (cutB s 35).2.2 && !nameL (cutB s 35).2.1.data.toList then 50 else 0) else objE (cutB s 35).1.data.toList := by
  unfold usrE cutB
  by_cases h : 0 ≤ Lib.indexByte s.data.toList 35
  · rw [if_neg (by omega), if_pos h]
    simp only [Bool.true_and]
    congr 1
    cases nameL (List.drop ((Lib.indexByte s.data.toList 35).toNat + 1) s.data.toList) <;> rfl
  · rw [if_pos (by omega), if_neg h]
    simp only [Bool.false_and]
    by_cases h2 : objE s.data.toList = 0
    · rw [if_pos h2, h2]; rfl
    · rw [if_neg h2]
set_option maxRecDepth 100000 in
set_option maxHeartbeats 800000 in
theorem object_any (w : World) (s : ByteArray) (hs : s.size ≤ 9223372036854775807) : Calls Tryz.prog 99 #[.string s] w fun e w' => ∃ a b, e = .returned (.tuple #[.string a, .string b, .int .i64 (objE s.data.toList)]) ∧ Below w.heap.size w w' := by
  have hc : ∀ W : World, Calls Tryz.prog 149 #[.string s, .string ⟨#[58]⟩] W fun e w' => e = .returned (.tuple #[.string (cutB s 58).1, .string (cutB s 58).2.1, .bool (cutB s 58).2.2]) ∧ Below W.heap.size W w' := fun W => cut_any W s hs 58
  have h1 : ∀ W : World, Calls Tryz.prog 100 #[.string (cutB s 58).1] W fun e w' => e = .returned (.bool (nameL (cutB s 58).1.data.toList)) ∧ Below W.heap.size W w' := fun W => name_any W _ (Nat.le_trans (cutB_size s 58).1 hs)
  have h2 : ∀ W : World, Calls Tryz.prog 100 #[.string (cutB s 58).2.1] W fun e w' => e = .returned (.bool (nameL (cutB s 58).2.1.data.toList)) ∧ Below W.heap.size W w' := fun W => name_any W _ (Nat.le_trans (cutB_size s 58).2 hs)
  rw [objE_cut]
  obtain ⟨n1, hn1⟩ : ∃ n, nameL (cutB s 58).1.data.toList = n := ⟨_, rfl⟩
  obtain ⟨n2, hn2⟩ : ∃ n, nameL (cutB s 58).2.1.data.toList = n := ⟨_, rfl⟩
  rw [hn1] at h1 ⊢
  rw [hn2] at h2 ⊢
  clear hn1 hn2
  obtain ⟨⟨a, b, o⟩, hq⟩ : ∃ q, cutB s 58 = q := ⟨_, rfl⟩
  rw [hq] at h1 h2 hc ⊢
  have HH := Lib.hid (And.intro hc (And.intro h1 h2))
  clear hc h1 h2 hq
  cases o with
  | false =>
    go_enter Tryz.func99, Tryz.ntmps99
    go_wp2_with fail
    refine (HH.out.1 _).mono ?_
    rintro e w1 ⟨rfl, hb⟩
    have H1 := Lib.hid hb
    clear hb
    go_wp2
    refine bodyPost_ret (results_tmp3 rfl _ _ _) rfl ?_
    first | exact ⟨⟨_, _, rfl⟩, H1.out⟩ | exact ⟨_, _, rfl, H1.out⟩
  | true =>
    cases n1 with
    | false =>
      go_enter Tryz.func99, Tryz.ntmps99
      go_wp2_with fail
      refine (HH.out.1 _).mono ?_
      rintro e w1 ⟨rfl, hb⟩
      have H1 := Lib.hid hb
      clear hb
      go_wp2_with fail
      refine (HH.out.2.1 _).mono ?_
      rintro e w2 ⟨rfl, hb⟩
      have H2 := Lib.hid hb
      clear hb
      go_wp2
      refine bodyPost_ret (results_tmp3 rfl _ _ _) rfl ?_
      first | exact ⟨⟨_, _, rfl⟩, H1.out.trans (H2.out.mono H1.out.size)⟩ | exact ⟨_, _, rfl, H1.out.trans (H2.out.mono H1.out.size)⟩
    | true =>
      go_enter Tryz.func99, Tryz.ntmps99
      go_wp2_with fail
      refine (HH.out.1 _).mono ?_
      rintro e w1 ⟨rfl, hb⟩
      have H1 := Lib.hid hb
      clear hb
      go_wp2_with fail
      refine (HH.out.2.1 _).mono ?_
      rintro e w2 ⟨rfl, hb⟩
      have H2 := Lib.hid hb
      clear hb
      go_wp2_with fail
      refine (HH.out.2.2 _).mono ?_
      rintro e w3 ⟨rfl, hb⟩
      have H3 := Lib.hid hb
      clear hb
      cases n2 with
      | false =>
        go_wp2
        refine bodyPost_ret (results_tmp3 rfl _ _ _) rfl ?_
        first | exact ⟨⟨_, _, rfl⟩, (H1.out.trans (H2.out.mono H1.out.size)).trans (H3.out.mono (Nat.le_trans H1.out.size H2.out.size))⟩ | exact ⟨_, _, rfl, (H1.out.trans (H2.out.mono H1.out.size)).trans (H3.out.mono (Nat.le_trans H1.out.size H2.out.size))⟩
      | true =>
        go_wp2
        refine bodyPost_ret (results_tmp3 rfl _ _ _) rfl ?_
        first | exact ⟨⟨_, _, rfl⟩, (H1.out.trans (H2.out.mono H1.out.size)).trans (H3.out.mono (Nat.le_trans H1.out.size H2.out.size))⟩ | exact ⟨_, _, rfl, (H1.out.trans (H2.out.mono H1.out.size)).trans (H3.out.mono (Nat.le_trans H1.out.size H2.out.size))⟩
set_option maxRecDepth 100000 in
set_option maxHeartbeats 800000 in
theorem user_any (w : World) (s : ByteArray) (hs : s.size ≤ 9223372036854775807) : Calls Tryz.prog 101 #[.string s] w fun e w' => ∃ a b, e = .returned (.tuple #[.string a, .string b, .int .i64 (usrE s.data.toList)]) ∧ Below w.heap.size w w' := by
  have hc : ∀ W : World, Calls Tryz.prog 149 #[.string s, .string ⟨#[35]⟩] W fun e w' => e = .returned (.tuple #[.string (cutB s 35).1, .string (cutB s 35).2.1, .bool (cutB s 35).2.2]) ∧ Below W.heap.size W w' := fun W => cut_any W s hs 35
  have h1 : ∀ W : World, Calls Tryz.prog 99 #[.string (cutB s 35).1] W fun e w' => ∃ a b, e = .returned (.tuple #[.string a, .string b, .int .i64 (objE (cutB s 35).1.data.toList)]) ∧ Below W.heap.size W w' := fun W => object_any W _ (Nat.le_trans (cutB_size s 35).1 hs)
  have h2 : ∀ W : World, Calls Tryz.prog 100 #[.string (cutB s 35).2.1] W fun e w' => e = .returned (.bool (nameL (cutB s 35).2.1.data.toList)) ∧ Below W.heap.size W w' := fun W => name_any W _ (Nat.le_trans (cutB_size s 35).2 hs)
  rw [usrE_cut]
  obtain ⟨n1, hn1⟩ : ∃ n, objE (cutB s 35).1.data.toList = n := ⟨_, rfl⟩
  obtain ⟨n2, hn2⟩ : ∃ n, nameL (cutB s 35).2.1.data.toList = n := ⟨_, rfl⟩
  rw [hn1] at h1 ⊢
  rw [hn2] at h2 ⊢
  clear hn1 hn2
  obtain ⟨⟨a, b, o⟩, hq⟩ : ∃ q, cutB s 35 = q := ⟨_, rfl⟩
  rw [hq] at h1 h2 hc ⊢
  have HH := Lib.hid (And.intro hc (And.intro h1 h2))
  clear hc h1 h2 hq
  by_cases h0 : n1 = 0
  · subst h0
    cases o with
    | false =>
      go_enter Tryz.func101, Tryz.ntmps101
      go_wp2_with fail
      refine (HH.out.1 _).mono ?_
      rintro e w1 ⟨rfl, hb⟩
      have H1 := Lib.hid hb
      clear hb
      go_wp2_with fail
      refine (HH.out.2.1 _).mono ?_
      rintro e w2 ⟨x, y, rfl, hb⟩
      have H2 := Lib.hid hb
      clear hb
      go_wp2
      refine bodyPost_ret (results_tmp3 rfl _ _ _) rfl ?_
      first | exact ⟨⟨_, _, rfl⟩, H1.out.trans (H2.out.mono H1.out.size)⟩ | exact ⟨_, _, rfl, H1.out.trans (H2.out.mono H1.out.size)⟩
    | true =>
      go_enter Tryz.func101, Tryz.ntmps101
      go_wp2_with fail
      refine (HH.out.1 _).mono ?_
      rintro e w1 ⟨rfl, hb⟩
      have H1 := Lib.hid hb
      clear hb
      go_wp2_with fail
      refine (HH.out.2.1 _).mono ?_
      rintro e w2 ⟨x, y, rfl, hb⟩
      have H2 := Lib.hid hb
      clear hb
      go_wp2_with fail
      refine (HH.out.2.2 _).mono ?_
      rintro e w3 ⟨rfl, hb⟩
      have H3 := Lib.hid hb
      clear hb
      cases n2 with
      | false =>
        go_wp2
        refine bodyPost_ret (results_tmp3 rfl _ _ _) rfl ?_
        first | exact ⟨⟨_, _, rfl⟩, (H1.out.trans (H2.out.mono H1.out.size)).trans (H3.out.mono (Nat.le_trans H1.out.size H2.out.size))⟩ | exact ⟨_, _, rfl, (H1.out.trans (H2.out.mono H1.out.size)).trans (H3.out.mono (Nat.le_trans H1.out.size H2.out.size))⟩
      | true =>
        go_wp2
        refine bodyPost_ret (results_tmp3 rfl _ _ _) rfl ?_
        first | exact ⟨⟨_, _, rfl⟩, (H1.out.trans (H2.out.mono H1.out.size)).trans (H3.out.mono (Nat.le_trans H1.out.size H2.out.size))⟩ | exact ⟨_, _, rfl, (H1.out.trans (H2.out.mono H1.out.size)).trans (H3.out.mono (Nat.le_trans H1.out.size H2.out.size))⟩
  · have hn : (n1 == 0) = false := by simp [h0]
    rw [if_neg h0]
    go_enter Tryz.func101, Tryz.ntmps101
    go_wp2_with fail
    refine (HH.out.1 _).mono ?_
    rintro e w1 ⟨rfl, hb⟩
    have H1 := Lib.hid hb
    clear hb
    go_wp2_with fail
    refine (HH.out.2.1 _).mono ?_
    rintro e w2 ⟨x, y, rfl, hb⟩
    have H2 := Lib.hid hb
    clear hb
    go_wp2
    refine bodyPost_ret (results_tmp3 rfl _ _ _) rfl ?_
    first | exact ⟨⟨_, _, rfl⟩, H1.out.trans (H2.out.mono H1.out.size)⟩ | exact ⟨_, _, rfl, H1.out.trans (H2.out.mono H1.out.size)⟩
set_option maxRecDepth 100000 in
set_option maxHeartbeats 1600000 in
/-- tuple.Check of one tuple. -/
theorem check_one {w : World} {v : Value} (t : Tup) (hr : OwnS tupC 3 w 41 v [t]) (h0 : t.1.size ≤ 9223372036854775807) (h1 : t.2.1.size ≤ 9223372036854775807) (h2 : t.2.2.size ≤ 9223372036854775807) : Calls Tryz.prog 71 #[v] w fun e w' => e = .returned (.int .i64 (tchk t)) ∧ Below w.heap.size w w' := by
  obtain ⟨t0, t1, t2⟩ := t
  obtain ⟨g, cap, rfl⟩ : ∃ g cap, v = .slice (some ⟨g, 0, none⟩) 1 cap := by
    rcases hr.form with ⟨_, h⟩ | ⟨g, cap, h, _⟩
    · cases h
    · exact ⟨g, cap, h⟩
  have hrange := hr.range tupC_len (i := 0) rfl
  have hg := hr.lt
  have a1 : ∀ W : World, Calls Tryz.prog 99 #[.string t0] W fun e w' => ∃ a b, e = .returned (.tuple #[.string a, .string b, .int .i64 (objE t0.data.toList)]) ∧ Below W.heap.size W w' := fun W => object_any W _ h0
  have a2 : ∀ W : World, Calls Tryz.prog 100 #[.string t1] W fun e w' => e = .returned (.bool (nameL t1.data.toList)) ∧ Below W.heap.size W w' := fun W => name_any W _ h1
  have a3 : ∀ W : World, Calls Tryz.prog 101 #[.string t2] W fun e w' => ∃ a b, e = .returned (.tuple #[.string a, .string b, .int .i64 (usrE t2.data.toList)]) ∧ Below W.heap.size W w' := fun W => user_any W _ h2
  unfold tchk
  obtain ⟨n1, hn1⟩ : ∃ n, objE t0.data.toList = n := ⟨_, rfl⟩
  obtain ⟨n2, hn2⟩ : ∃ n, nameL t1.data.toList = n := ⟨_, rfl⟩
  obtain ⟨n3, hn3⟩ : ∃ n, usrE t2.data.toList = n := ⟨_, rfl⟩
  rw [hn1] at a1 ⊢
  rw [hn2] at a2 ⊢
  rw [hn3] at a3 ⊢
  obtain ⟨R, hR⟩ : ∃ R, (if n1 = 0 then (if n2 = true then n3 else 50) else n1) = R := ⟨_, rfl⟩
  simp only [hR]
  have HH := Lib.hid (And.intro a1 (And.intro a2 (And.intro a3 (And.intro hrange hg))))
  have HR := Lib.hid hR
  clear a1 a2 a3 hn1 hn2 hn3 hr h0 h1 h2 hrange hg hR
  go_enter Tryz.func71, Tryz.ntmps71
  go_wp2
  go_loopg [13] 1 (fun gg vi wx => ∃ (t : Nat), t + gg = 1 ∧ vi = .int .i64 (t : Int) ∧ Below w.heap.size w wx ∧ (t = 1 → n1 = 0 ∧ n2 = true ∧ n3 = 0))
  case atStart => exact ⟨0, rfl, rfl, Below.refl _ _, fun h => by omega⟩
  case round =>
    obtain ⟨t, htg, rfl, hbel, hd⟩ := hrel
    by_cases hg : gk = 0
    · have ht : t = 1 := by omega
      subst ht
      have HE := Lib.hid (And.intro hbel (hd rfl))
      clear hbel hd htg hg
      go_wp2
      go_ret
      obtain ⟨h1, h2, h3, h4⟩ := HE.out
      refine ⟨?_, h1⟩
      rw [← HR.out, if_pos h2, if_pos h3, h4]
      rfl
    · have ht : t = 0 := by omega
      subst ht
      have hr2 : wr.rangeAt g 0 (tupC (t0, t1, t2)) := range_below (by simpa using HH.out.2.2.2.1) hbel HH.out.2.2.2.2
      have HE := Lib.hid (And.intro hbel (And.intro hr2 htg))
      clear hbel hd htg hg hr2
      go_upto_region 4 with (first
        | (refine wpList_load_mid rfl 41 (.tmp 15) rfl g 0 rfl (tupC (t0, t1, t2)) _ HE.out.2.1 Tryz.underlying41 rfl infoTup0 ?_; unfold tupC))
      obtain ⟨Q, hQ⟩ : ∃ Q, wr.heap.size = Q := ⟨_, rfl⟩
      have hRb := block_new wr (.cells #[.string t0, .string t1, .string t2] 41)
      have hW : ∃ W4, wr.alloc (.cells #[.string t0, .string t1, .string t2] 41) = W4 := ⟨_, rfl⟩
      have hb4 : Below w.heap.size w (wr.alloc (.cells #[.string t0, .string t1, .string t2] 41)) := HE.out.1.alloc HE.out.1.size _
      have hs4 : Q < (wr.alloc (.cells #[.string t0, .string t1, .string t2] 41)).heap.size := by rw [World.size_alloc]; omega
      rw [hQ] at hRb ⊢
      generalize hW4 : wr.alloc (.cells #[.string t0, .string t1, .string t2] 41) = W4 at *
      clear hW hW4 hQ
      have c0 : W4.cell? ⟨Q, 0, none⟩ = some (.string t0) := cell_of hRb rfl
      have HB := Lib.hid (And.intro hRb (And.intro hb4 hs4))
      clear hRb hb4 hs4
      go_wp2_with fail
      refine (HH.out.1 _).mono ?_
      rintro e w5 ⟨x5, y5, rfl, hb5⟩
      have b5 : Mod (fun _ => False) W4 w5 := Mod.of_below hb5 _
      have H5 := Lib.hid hb5
      clear hb5 c0
      by_cases hn : n1 = 0
      · subst hn
        have c1 : w5.cell? ⟨Q, 1, none⟩ = some (.string t1) := cell_of (b5.old HB.out.1 id) rfl
        have B5 := Lib.hid b5
        clear b5
        go_wp2_with fail
        refine (HH.out.2.1 _).mono ?_
        rintro e w6 ⟨rfl, hb6⟩
        have b6 : Mod (fun _ => False) w5 w6 := Mod.of_below hb6 _
        have H6 := Lib.hid hb6
        clear hb6 c1
        cases n2 with
        | true =>
          have c2 : w6.cell? ⟨Q, 2, none⟩ = some (.string t2) := cell_of (b6.old (B5.out.old HB.out.1 id) id) rfl
          have B6 := Lib.hid b6
          clear b6
          go_wp2_with fail
          refine (HH.out.2.2.1 _).mono ?_
          rintro e w7 ⟨x7, y7, rfl, hb7⟩
          have H7 := Lib.hid hb7
          clear hb7 c2
          by_cases hn3 : n3 = 0
          · subst hn3
            go_wp2
            go_roundg (gk - 1)
            case measure => have := HE.out.2.2; omega
            case rel =>
              refine ⟨1, by have := HE.out.2.2; omega, by go_num, ?_, fun _ => by simp⟩
              exact ((HB.out.2.1.trans (H5.out.mono HB.out.2.1.size)).trans (H6.out.mono (Nat.le_trans HB.out.2.1.size H5.out.size))).trans (H7.out.mono (Nat.le_trans (Nat.le_trans HB.out.2.1.size H5.out.size) H6.out.size))
          · have hn3' : (n3 == 0) = false := by simp [hn3]
            go_wp2
            go_ret
            refine ⟨?_, ((HB.out.2.1.trans (H5.out.mono HB.out.2.1.size)).trans (H6.out.mono (Nat.le_trans HB.out.2.1.size H5.out.size))).trans (H7.out.mono (Nat.le_trans (Nat.le_trans HB.out.2.1.size H5.out.size) H6.out.size))⟩
            rw [← HR.out]
            rfl
        | false =>
          go_wp2
          go_ret
          refine ⟨?_, (HB.out.2.1.trans (H5.out.mono HB.out.2.1.size)).trans (H6.out.mono (Nat.le_trans HB.out.2.1.size H5.out.size))⟩
          rw [← HR.out]
          rfl
      · have hn' : (n1 == 0) = false := by simp [hn]
        go_wp2
        go_ret
        refine ⟨?_, HB.out.2.1.trans (H5.out.mono HB.out.2.1.size)⟩
        rw [← HR.out, if_neg hn]
        rfl
end Go.Proofs.YtojjnfhgldjgbaaGreatDoor.Store
end
section
set_option linter.unusedVariables false
set_option linter.unusedSimpArgs false
namespace Go.Por
open Go.RowKit

theorem findIdx_born {l : List MapEntry} (hn : (l.map (·.born)).Nodup) {j : Nat} {e0 : MapEntry} (h : l[j]? = some e0) : l.findIdx? (fun e => ((e.born : Nat) : Int) == ((e0.born : Nat) : Int)) = some j := by
  have hj : j < l.length := by
    rcases Nat.lt_or_ge j l.length with h' | h'
    · exact h'
    · simp [List.getElem?_eq_none h'] at h
  have e1 : l[j] = e0 := by simpa [List.getElem?_eq_getElem hj] using h
  rw [List.findIdx?_eq_some_iff_getElem]
  refine ⟨hj, by rw [e1]; simp, fun i hi => ?_⟩
  intro k
  have k2 : l[i].born = l[j].born := by
    rw [e1]
    have k4 : ((l[i].born : Nat) : Int) = ((e0.born : Nat) : Int) := by simpa using k
    omega
  have k3 : (l.map (·.born))[i]'(by rw [List.length_map]; omega) = (l.map (·.born))[j]'(by rw [List.length_map]; exact hj) := by simpa using k2
  have := (List.getElem_inj hn).1 k3
  omega
theorem findIdx_arr' (xs : Array MapEntry) (p : MapEntry → Bool) : xs.findIdx? p = xs.toList.findIdx? p := by
  cases xs
  simp
theorem setB_at (w : World) {M : Nat} (o : Obj) (h : M < w.heap.size) : (setB w M o).heap[M]? = some o := by simp [setB, h]
section
variable {P : Program} {κ α : Type} [DecidableEq κ] {w : World} {M : Nat} {enc : κ → Value} {kt et t : TypeId}
theorem MapIs.entry {l : List (κ × Value)} (K : KeyOK P kt κ enc) (ht : P.underlying t = some (.map kt et)) (h : MapIs w M enc l) (k : κ) {z : Value} (hz : (zeroValue et).run P w = .ok z w) :
    ∃ (st : Nat) (o1 : Obj), (Instr.mapEntry t (.map (some M)) (enc k)).run P w = .ok (.tuple #[(gfind l k).getD z, goInt st]) (setB w M o1) ∧ MapIs (setB w M o1) M enc (mput l k ((gfind l k).getD z)) ∧
      ∀ (w2 : World) (val : Value), w2.heap[M]? = some o1 → ∃ o, (Instr.entryStore t (.map (some M)) (goInt st) val).run P w2 = .ok () (setB w2 M o) ∧ MapIs (setB w2 M o) M enc (mput l k val) := by
  have hlt := h.lt
  have hst := fun val => h.store K ht k val
  obtain ⟨es, clock, hb, he, hn, hborn, hbn⟩ := h
  have fin : ∀ (val : Value) (o : Obj) (w2 : World), M < w2.heap.size → (Instr.mapUpdate t (.map (some M)) (enc k) val).run P w = .ok () (setB w M o) → MapIs (setB w2 M o) M enc (mput l k val) := fun val o w2 h2 hr => by
    obtain ⟨o', hr', hm⟩ := hst val
    rw [hr] at hr'
    have e1 : setB w M o = setB w M o' := by injection hr'
    have e2 : o = o' := by
      have := setB_at w o hlt
      rw [e1, setB_at w o' hlt] at this
      exact (Option.some.inj this).symm
    subst e2
    exact hm.keep (by rw [setB_at w2 o h2, setB_at w o hlt])
  rcases MapIs.find K he k w with ⟨h1, h2⟩ | ⟨j, u, h1, h2, e, hj, hk, hv⟩
  · have hg : gfind l k = none := gfind_none.2 h2
    rw [hg]
    refine ⟨clock, .map (es.push ⟨enc k, z, clock⟩) (clock + 1), ?_, fin z _ w hlt (by simp [Instr.mapUpdate, run_underlying ht, MapKept.run_getObj_map hb, K.check w false k, h1, MapKept.run_setObj_map _ hb, Result.andThen, setB]), fun w2 val hw2 => ⟨.map (es.push ⟨enc k, val, clock⟩) (clock + 1), ?_, fin val _ w2 (lt_block hw2) ?_⟩⟩
    · simp [Instr.mapEntry, run_underlying ht, MapKept.run_getObj_map hb, K.check w false k, h1, hz, MapKept.run_setObj_map _ hb, Result.andThen, setB]
    · have hidx : (es.push ⟨enc k, z, clock⟩).findIdx? (fun e => ((e.born : Nat) : Int) == ((clock : Nat) : Int)) = some es.size := by
        rw [findIdx_arr']
        refine findIdx_born (l := (es.push ⟨enc k, z, clock⟩).toList) (j := es.size) (e0 := ⟨enc k, z, clock⟩) ?_ (by simp)
        simp only [Array.toList_push, List.map_append, List.map_cons, List.map_nil]
        refine List.nodup_append.2 ⟨hbn, by simp, fun a ha c hc e1 => ?_⟩
        simp only [List.mem_singleton] at hc
        obtain ⟨x, hx, rfl⟩ := List.mem_map.1 ha
        have := hborn x hx
        omega
      have hmod : (es.push ⟨enc k, z, clock⟩).modify es.size (fun e => { e with val := val }) = es.push ⟨enc k, val, clock⟩ := by
        apply Array.ext_getElem?
        intro i
        rw [Array.getElem?_modify, Array.getElem?_push, Array.getElem?_push]
        by_cases hi : i = es.size
        · subst hi; simp
        · simp [hi, Ne.symm hi]
      simp [Instr.entryStore, MapKept.run_getObj_map hw2, asInt, asIntOf, goInt, hidx, hmod, MapKept.run_setObj_map _ hw2, Result.andThen, setB]
    · simp [Instr.mapUpdate, run_underlying ht, MapKept.run_getObj_map hb, K.check w false k, h1, MapKept.run_setObj_map _ hb, Result.andThen, setB]
  · have hg : gfind l k = some u := (gfind_some hn).2 (List.mem_of_getElem? h2)
    have hsame : es.modify j (fun e => { e with key := enc k }) = es := by
      apply Array.ext_getElem?
      intro i
      rw [Array.getElem?_modify]
      by_cases hi : j = i
      · subst hi
        rw [if_pos rfl, hj, ← hk]
        rfl
      · rw [if_neg hi]
    rw [hg]
    have hsame2 : es.modify j (fun e => { e with key := enc k, val := u }) = es := by
      apply Array.ext_getElem?
      intro i
      rw [Array.getElem?_modify]
      by_cases hi : j = i
      · subst hi
        rw [if_pos rfl, hj, ← hk, ← hv]
        rfl
      · rw [if_neg hi]
    refine ⟨e.born, .map es clock, ?_, fin u _ w hlt (by simp [Instr.mapUpdate, run_underlying ht, MapKept.run_getObj_map hb, K.check w false k, h1, hj, hk, K.stays w k, hsame2, MapKept.run_setObj_map _ hb, Result.andThen, setB]), fun w2 val hw2 => ⟨.map (es.modify j (fun e' => { e' with key := enc k, val := val })) clock, ?_, fin val _ w2 (lt_block hw2) ?_⟩⟩
    · simp [Instr.mapEntry, run_underlying ht, MapKept.run_getObj_map hb, K.check w false k, h1, hj, hk, K.stays w k, hsame, MapKept.run_setObj_map _ hb, Result.andThen, setB]
    · have hidx : es.findIdx? (fun e' => ((e'.born : Nat) : Int) == ((e.born : Nat) : Int)) = some j := by
        rw [findIdx_arr']
        exact findIdx_born hbn (by simpa using hj)
      have hmod : es.modify j (fun e => { e with val := val }) = es.modify j (fun e' => { e' with key := enc k, val := val }) := by
        apply Array.ext_getElem?
        intro i
        rw [Array.getElem?_modify, Array.getElem?_modify]
        by_cases hi : j = i
        · subst hi
          rw [if_pos rfl, if_pos rfl, hj, ← hk]
          rfl
        · rw [if_neg hi, if_neg hi]
      simp [Instr.entryStore, MapKept.run_getObj_map hw2, asInt, asIntOf, goInt, hidx, hmod, MapKept.run_setObj_map _ hw2, Result.andThen, setB]
    · simp [Instr.mapUpdate, run_underlying ht, MapKept.run_getObj_map hb, K.check w false k, h1, hj, hk, K.stays w k, MapKept.run_setObj_map _ hb, Result.andThen, setB]
variable {f : α → List Value} {c : Nat} {E : TypeId} {F : Nat → Prop} {l : List (κ × (Value × List α))}
/-- m[k] = append(m[k], x). -/
theorem SlMap.pushE {tm : TypeId} {bytes : Nat} (h : SlMap w M enc f c E F l) (H : Elem P t E f c bytes) (K : KeyOK P kt κ enc) (ht : P.underlying tm = some (.map kt et)) (hz : (zeroValue et).run P w = .ok (.slice none 0 0) w) (k : κ) (x : α) {B : Nat} (ty : TypeId)
    (hB : w.heap[B]? = some (.cells (f x).toArray E (0, 0))) (hb : ((aget (smc l) k).length + 1) * bytes ≤ 140737488355328) (h63 : (aget (smc l) k).length + 1 ≤ maxLen) :
    ∃ (st : Nat) (w1 : World), (Instr.mapEntry tm (.map (some M)) (enc k)).run P w = .ok (.tuple #[slv l k, goInt st]) w1 ∧ Mod (fun b => b = M) w w1 ∧
    ∃ v' w5 w6, (Builtin.append_ #[t, t] ty #[slv l k, .slice (some ⟨B, 0, none⟩) 1 1]).run P w1 = .ok v' w5 ∧ Mod (fun b => some b = (slv l k).ownBlock) w1 w5 ∧
      (Instr.entryStore tm (.map (some M)) (goInt st) v').run P w5 = .ok () w6 ∧ Mod (fun b => b = M) w5 w6 ∧
      SlMap w6 M enc f c E (fun b => F b ∨ (w.heap.size ≤ b ∧ b < w5.heap.size)) (gput l k (v', aget (smc l) k ++ [x])) := by
  obtain ⟨h1, h2, h3⟩ := h.at k
  obtain ⟨st, o1, hr1, _, hst⟩ := h.map.entry K ht k hz
  have hg : (gfind (smv l) k).getD (.slice none 0 0) = slv l k := by
    unfold slv smv
    rw [gfind_map (fun p : Value × List α => p.1)]
  rw [hg] at hr1
  have hmlt := h.map.lt
  have m1 := setB_mod w M o1
  have hs1 : (setB w M o1).heap.size = w.heap.size := by simp [setB]
  have hBM : B ≠ M := fun e => by
    obtain ⟨es, ck, hm, _⟩ := h.map
    rw [← e, hB] at hm
    cases hm
  have hown1 := h1.mod m1 (fun b hb e => h1.ne_map h.map b hb e)
  obtain ⟨v', w5, hr, ho, hm, hk⟩ := run_push H ty hown1 (m1.old hB hBM) hb h63
  have h5M : w5.heap[M]? = some o1 := hm.old (setB_at w o1 hmlt) (fun e => h1.ne_map h.map M e.symm rfl)
  obtain ⟨o, hr6, hmap⟩ := hst w5 v' h5M
  have m6 := setB_mod w5 M o
  have hv : ∀ b, v'.ownBlock = some b → some b = (slv l k).ownBlock ∨ w.heap.size ≤ b := fun b hb => by
    rcases hk b hb with h4 | h4
    · exact .inl h4.symm
    · exact .inr (by rw [← hs1]; exact h4)
  have hvM : ∀ b, v'.ownBlock = some b → b ≠ M := fun b hb e => by
    rcases hv b hb with h4 | h4
    · exact h1.ne_map h.map b h4.symm e
    · omega
  have others : ∀ e ∈ l, e.1 ≠ k → OwnS f c (setB w5 M o) E e.2.1 e.2.2 := fun e he hne => by
    have a1 := (h.own e he)
    have nM := fun b hb => a1.ne_map h.map b hb
    exact ((a1.mod m1 nM).mod hm (fun b hb e' => h3 e he hne b hb e'.symm)).mod m6 nM
  have disn : ∀ e ∈ l, e.1 ≠ k → ∀ b, e.2.1.ownBlock = some b → v'.ownBlock ≠ some b := fun e he hne b hb hb' => by
    rcases hv b hb' with h4 | h4
    · exact h3 e he hne b hb h4.symm
    · have := (h.own e he).own_lt b hb
      omega
  refine ⟨st, _, hr1, m1, v', w5, _, hr, hm, hr6, m6, ⟨?_, fun e he => ?_, fun e he e' he' hne b hb => ?_, fun e he b hb => ?_⟩⟩
  · rw [mput_gput] at hmap
    unfold smv at hmap ⊢
    rw [gput_map (fun p : Value × List α => p.1)]
    exact hmap
  · rcases mem_gput.1 he with rfl | ⟨h4, h5⟩
    · exact ho.mod m6 (fun b hb e => hvM b hb e)
    · exact others e h5 h4
  · rcases mem_gput.1 he with rfl | ⟨h4, h5⟩
    · rcases mem_gput.1 he' with rfl | ⟨h6, h7⟩
      · exact absurd rfl hne
      · exact fun hb' => disn e' h7 h6 b hb' hb
    · rcases mem_gput.1 he' with rfl | ⟨h6, h7⟩
      · exact disn e h5 h4 b hb
      · exact h.dis e h5 e' h7 hne b hb
  · rcases mem_gput.1 he with rfl | ⟨h4, h5⟩
    · rcases hv b hb with h6 | h6
      · exact .inl (h2 b h6.symm)
      · exact .inr ⟨h6, ho.own_lt b hb⟩
    · exact .inl (h.foot e h5 b hb)
end
end Go.Por
end
section
set_option linter.unusedVariables false
set_option linter.unusedSimpArgs false
namespace Go.Por
open Go.RowKit
section
variable {κ α : Type} {w : World} {M : Nat} {enc : κ → Value} {f : α → List Value} {c : Nat} {E : TypeId} {F : Nat → Prop} {l : List (κ × (Value × List α))}
/-- The blocks of the lists. -/
def blk (l : List (κ × (Value × List α))) (b : Nat) : Prop := ∃ e ∈ l, e.2.1.ownBlock = some b
theorem SlMap.tight (h : SlMap w M enc f c E F l) : SlMap w M enc f c E (blk l) l := ⟨h.map, h.own, h.dis, fun e he b hb => ⟨e, he, hb⟩⟩
theorem SlMap.blk_lt (h : SlMap w M enc f c E F l) : ∀ b, blk l b → b < w.heap.size := fun b ⟨e, he, hb⟩ => (h.own e he).own_lt b hb
theorem SlMap.blk_F (h : SlMap w M enc f c E F l) : ∀ b, blk l b → F b := fun b ⟨e, he, hb⟩ => h.foot e he b hb
theorem SlMap.blk_ne (h : SlMap w M enc f c E F l) {b : Nat} {cs : Array Value} {t : TypeId} {fr : Nat × Nat} (hb : w.heap[b]? = some (.cells cs t fr)) (hne : t ≠ E) : ¬ blk l b := fun ⟨e, he, h1⟩ => by
  have ho := h.own e he
  rcases ho.form with ⟨h2, _⟩ | ⟨g, cap, h2, _, _⟩
  · rw [h2] at h1; simp [Value.ownBlock] at h1
  · rw [h2] at h1 ho
    obtain ⟨cur, h3, _⟩ := ho.block
    simp only [Value.ownBlock, Option.some.injEq] at h1
    rw [h1, hb] at h3
    injection h3 with h3
    injection h3 with _ h4 _
    exact hne h4
theorem SlMap.blk_map (h : SlMap w M enc f c E F l) {κ' : Type} {enc' : κ' → Value} {M' : Nat} {l' : List (κ' × Value)} (hm : MapIs w M' enc' l') : ¬ blk l M' := fun ⟨e, he, h1⟩ => (h.own e he).ne_map hm M' h1 rfl
theorem SlMap.blk_two {κ' α' : Type} {enc' : κ' → Value} {f' : α' → List Value} {c' : Nat} {E' : TypeId} {F' : Nat → Prop} {M' : Nat} {l' : List (κ' × (Value × List α'))} (h : SlMap w M enc f c E F l) (h' : SlMap w M' enc' f' c' E' F' l') (hne : E ≠ E') : ∀ b, blk l b → ¬ blk l' b := fun b ⟨e, he, h1⟩ => by
  have ho := h.own e he
  rcases ho.form with ⟨h2, _⟩ | ⟨g, cap, h2, _, _⟩
  · rw [h2] at h1; simp [Value.ownBlock] at h1
  · rw [h2] at h1 ho
    obtain ⟨cur, h3, _⟩ := ho.block
    simp only [Value.ownBlock, Option.some.injEq] at h1
    rw [h1] at h3
    exact h'.blk_ne h3 hne
theorem slv_blk [DecidableEq κ] {k : κ} {b : Nat} (h : some b = (slv l k).ownBlock) : blk l b := by
  unfold slv at h
  cases hg : gfind l k with
  | none => rw [hg] at h; simp [Value.ownBlock] at h
  | some p =>
    rw [hg] at h
    exact ⟨_, gfind_mem hg, h.symm⟩
end
end Go.Por
namespace Go.Proofs.YtojjnfhgldjgbaaGreatDoor.Store
open Go.RowKit Go.Por Go.Sort Go.Proofs.YtojjnfhgldjgbaaGreatDoor.Watch
section
variable {w w' : World} {s O U M MO MU : Nat} {F : Nat → Prop} {lm lm' : List (Tup × (Value × List Span))} {lo lo' : List (PairT × (Value × List Tup))} {lu lu' : List (ByteArray × (Value × List Tup))} {wm : Int}
/-- The blocks of the store, later. -/
def grew (F : Nat → Prop) (w w' : World) (b : Nat) : Prop := F b ∨ (w.heap.size ≤ b ∧ b < w'.heap.size)
theorem StMem.weaken {F' : Nat → Prop} (h : StMem w s O U M MO MU F lm lo lu wm) (hF : ∀ b, F b → F' b) (hl : ∀ b, F' b → b < w.heap.size) : StMem w s O U M MO MU F' lm lo lu wm :=
  ⟨h.hs, h.hO, h.hU, h.m.weaken hF, h.o.weaken hF, h.u.weaken hF, h.dis, h.ne1, h.ne2, h.ne3, hF _ h.fs, hF _ h.fO, hF _ h.fU, hF _ h.fM, hF _ h.fMO, hF _ h.fMU, hl⟩
theorem StMem.nm (h : StMem w s O U M MO MU F lm lo lu wm) {b : Nat} {cs : Array Value} {t : TypeId} {fr : Nat × Nat} (hb : w.heap[b]? = some (.cells cs t fr)) : b ≠ M ∧ b ≠ MO ∧ b ≠ MU := by
  refine ⟨fun e => ?_, fun e => ?_, fun e => ?_⟩
  · obtain ⟨es, ck, hm, _⟩ := h.m.map; rw [← e, hb] at hm; cases hm
  · obtain ⟨es, ck, hm, _⟩ := h.o.map; rw [← e, hb] at hm; cases hm
  · obtain ⟨es, ck, hm, _⟩ := h.u.map; rw [← e, hb] at hm; cases hm
theorem StMem.setM (h : StMem w s O U M MO MU F lm lo lu wm) (hm : Mod (fun b => b = M ∨ blk lm b) w w') (hs : SlMap w' M encT spanC 2 119 (fun b => blk lm b ∨ (w.heap.size ≤ b ∧ b < w'.heap.size)) lm') : StMem w' s O U M MO MU (grew F w w') lm' lo lu wm := by
  have nS : ∀ (b : Nat) (cs : Array Value) (t : TypeId), t ≠ 119 → w.heap[b]? = some (.cells cs t (0, 0)) → ¬ (b = M ∨ blk lm b) := fun b cs t ht hb hh => by
    rcases hh with e | hh
    · exact (h.nm hb).1 e
    · exact h.m.blk_ne hb ht hh
  have nO : ∀ b, blk lo b → ¬ (b = M ∨ blk lm b) := fun b hb hh => by
    rcases hh with e | hh
    · rw [e] at hb; exact h.o.blk_map h.m.map hb
    · exact h.m.blk_two h.o (by decide) b hh hb
  have nU : ∀ b, blk lu b → ¬ (b = M ∨ blk lm b) := fun b hb hh => by
    rcases hh with e | hh
    · rw [e] at hb; exact h.u.blk_map h.m.map hb
    · exact h.m.blk_two h.u (by decide) b hh hb
  have nMO : ¬ (MO = M ∨ blk lm MO) := fun hh => by
    rcases hh with e | hh
    · exact h.ne1 e.symm
    · exact h.m.blk_map h.o.map hh
  have nMU : ¬ (MU = M ∨ blk lm MU) := fun hh => by
    rcases hh with e | hh
    · exact h.ne2 e.symm
    · exact h.m.blk_map h.u.map hh
  refine ⟨hm.old h.hs (nS _ _ _ (by decide) h.hs), hm.old h.hO (nS _ _ _ (by decide) h.hO), hm.old h.hU (nS _ _ _ (by decide) h.hU), hs.weaken (fun b hb => ?_), (h.o.mod hm nMO (fun e he b hb => nO b ⟨e, he, hb⟩)).weaken (fun b hb => .inl hb), (h.u.mod hm nMU (fun e he b hb => nU b ⟨e, he, hb⟩)).weaken (fun b hb => .inl hb), h.dis, h.ne1, h.ne2, h.ne3, .inl h.fs, .inl h.fO, .inl h.fU, .inl h.fM, .inl h.fMO, .inl h.fMU, fun b hb => ?_⟩
  · rcases hb with hb | hb
    · exact .inl (h.m.blk_F b hb)
    · exact .inr hb
  · rcases hb with hb | hb
    · exact Nat.lt_of_lt_of_le (h.lt b hb) hm.size
    · exact hb.2
theorem StMem.setO (h : StMem w s O U M MO MU F lm lo lu wm) (hm : Mod (fun b => b = MO ∨ blk lo b) w w') (hs : SlMap w' MO encP tupC 3 41 (fun b => blk lo b ∨ (w.heap.size ≤ b ∧ b < w'.heap.size)) lo') : StMem w' s O U M MO MU (grew F w w') lm lo' lu wm := by
  have nS : ∀ (b : Nat) (cs : Array Value) (t : TypeId), t ≠ 41 → w.heap[b]? = some (.cells cs t (0, 0)) → ¬ (b = MO ∨ blk lo b) := fun b cs t ht hb hh => by
    rcases hh with e | hh
    · exact (h.nm hb).2.1 e
    · exact h.o.blk_ne hb ht hh
  have nM : ∀ b, blk lm b → ¬ (b = MO ∨ blk lo b) := fun b hb hh => by
    rcases hh with e | hh
    · rw [e] at hb; exact h.m.blk_map h.o.map hb
    · exact h.o.blk_two h.m (by decide) b hh hb
  have nU : ∀ b, blk lu b → ¬ (b = MO ∨ blk lo b) := fun b hb hh => by
    rcases hh with e | ⟨e1, he1, hh⟩
    · rw [e] at hb; exact h.u.blk_map h.o.map hb
    · obtain ⟨e2, he2, hb⟩ := hb
      exact h.dis e1 he1 e2 he2 b hh hb
  have nMM : ¬ (M = MO ∨ blk lo M) := fun hh => by
    rcases hh with e | hh
    · exact h.ne1 e
    · exact h.o.blk_map h.m.map hh
  have nMU : ¬ (MU = MO ∨ blk lo MU) := fun hh => by
    rcases hh with e | hh
    · exact h.ne3 e.symm
    · exact h.o.blk_map h.u.map hh
  refine ⟨hm.old h.hs (nS _ _ _ (by decide) h.hs), hm.old h.hO (nS _ _ _ (by decide) h.hO), hm.old h.hU (nS _ _ _ (by decide) h.hU), (h.m.mod hm nMM (fun e he b hb => nM b ⟨e, he, hb⟩)).weaken (fun b hb => .inl hb), hs.weaken (fun b hb => ?_), (h.u.mod hm nMU (fun e he b hb => nU b ⟨e, he, hb⟩)).weaken (fun b hb => .inl hb), fun e he e' he' b hb hb' => ?_, h.ne1, h.ne2, h.ne3, .inl h.fs, .inl h.fO, .inl h.fU, .inl h.fM, .inl h.fMO, .inl h.fMU, fun b hb => ?_⟩
  · rcases hb with hb | hb
    · exact .inl (h.o.blk_F b hb)
    · exact .inr hb
  · have hlu := h.u.blk_lt b ⟨e', he', hb'⟩
    rcases hs.foot e he b hb with ⟨e2, he2, h2⟩ | h2
    · exact h.dis e2 he2 e' he' b h2 hb'
    · omega
  · rcases hb with hb | hb
    · exact Nat.lt_of_lt_of_le (h.lt b hb) hm.size
    · exact hb.2
theorem StMem.setU (h : StMem w s O U M MO MU F lm lo lu wm) (hm : Mod (fun b => b = MU ∨ blk lu b) w w') (hs : SlMap w' MU (fun s => .string s) tupC 3 41 (fun b => blk lu b ∨ (w.heap.size ≤ b ∧ b < w'.heap.size)) lu') : StMem w' s O U M MO MU (grew F w w') lm lo lu' wm := by
  have nS : ∀ (b : Nat) (cs : Array Value) (t : TypeId), t ≠ 41 → w.heap[b]? = some (.cells cs t (0, 0)) → ¬ (b = MU ∨ blk lu b) := fun b cs t ht hb hh => by
    rcases hh with e | hh
    · exact (h.nm hb).2.2 e
    · exact h.u.blk_ne hb ht hh
  have nM : ∀ b, blk lm b → ¬ (b = MU ∨ blk lu b) := fun b hb hh => by
    rcases hh with e | hh
    · rw [e] at hb; exact h.m.blk_map h.u.map hb
    · exact h.u.blk_two h.m (by decide) b hh hb
  have nO : ∀ b, blk lo b → ¬ (b = MU ∨ blk lu b) := fun b hb hh => by
    rcases hh with e | ⟨e1, he1, hh⟩
    · rw [e] at hb; exact h.o.blk_map h.u.map hb
    · obtain ⟨e2, he2, hb⟩ := hb
      exact h.dis e2 he2 e1 he1 b hb hh
  have nMM : ¬ (M = MU ∨ blk lu M) := fun hh => by
    rcases hh with e | hh
    · exact h.ne2 e
    · exact h.u.blk_map h.m.map hh
  have nMO : ¬ (MO = MU ∨ blk lu MO) := fun hh => by
    rcases hh with e | hh
    · exact h.ne3 e
    · exact h.u.blk_map h.o.map hh
  refine ⟨hm.old h.hs (nS _ _ _ (by decide) h.hs), hm.old h.hO (nS _ _ _ (by decide) h.hO), hm.old h.hU (nS _ _ _ (by decide) h.hU), (h.m.mod hm nMM (fun e he b hb => nM b ⟨e, he, hb⟩)).weaken (fun b hb => .inl hb), (h.o.mod hm nMO (fun e he b hb => nO b ⟨e, he, hb⟩)).weaken (fun b hb => .inl hb), hs.weaken (fun b hb => ?_), fun e he e' he' b hb hb' => ?_, h.ne1, h.ne2, h.ne3, .inl h.fs, .inl h.fO, .inl h.fU, .inl h.fM, .inl h.fMO, .inl h.fMU, fun b hb => ?_⟩
  · rcases hb with hb | hb
    · exact .inl (h.u.blk_F b hb)
    · exact .inr hb
  · have hlo := h.o.blk_lt b ⟨e, he, hb⟩
    rcases hs.foot e' he' b hb' with ⟨e2, he2, h2⟩ | h2
    · exact h.dis e he e2 he2 b hb h2
    · omega
  · rcases hb with hb | hb
    · exact Nat.lt_of_lt_of_le (h.lt b hb) hm.size
    · exact hb.2
end
end Go.Proofs.YtojjnfhgldjgbaaGreatDoor.Store
end
