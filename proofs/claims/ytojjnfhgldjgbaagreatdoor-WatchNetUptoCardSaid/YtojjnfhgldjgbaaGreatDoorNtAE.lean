/- WatchNet, where what came in is of bulk at most 1048576: what leads from some tuples to others does so in a store, and n: part 31 of 32: what it leans on. -/
import Derived.Test.YtojjnfhgldjgbaaGreatDoorNtA
import Derived.Test.YtojjnfhgldjgbaaGreatDoorNtB
import Derived.Test.YtojjnfhgldjgbaaGreatDoorNtC
import Derived.Test.YtojjnfhgldjgbaaGreatDoorNtD
import Derived.Test.YtojjnfhgldjgbaaGreatDoorNtE
import Derived.Test.YtojjnfhgldjgbaaGreatDoorNtF
import Derived.Test.YtojjnfhgldjgbaaGreatDoorNtG
import Derived.Test.YtojjnfhgldjgbaaGreatDoorNtH
import Derived.Test.YtojjnfhgldjgbaaGreatDoorNtI
import Derived.Test.YtojjnfhgldjgbaaGreatDoorNtJ
import Derived.Test.YtojjnfhgldjgbaaGreatDoorNtK
import Derived.Test.YtojjnfhgldjgbaaGreatDoorNtL
import Derived.Test.YtojjnfhgldjgbaaGreatDoorNtM
import Derived.Test.YtojjnfhgldjgbaaGreatDoorNtN
import Derived.Test.YtojjnfhgldjgbaaGreatDoorNtO
import Derived.Test.YtojjnfhgldjgbaaGreatDoorNtP
import Derived.Test.YtojjnfhgldjgbaaGreatDoorNtQ
import Derived.Test.YtojjnfhgldjgbaaGreatDoorNtR
import Derived.Test.YtojjnfhgldjgbaaGreatDoorNtS
import Derived.Test.YtojjnfhgldjgbaaGreatDoorNtT
import Derived.Test.YtojjnfhgldjgbaaGreatDoorNtU
import Derived.Test.YtojjnfhgldjgbaaGreatDoorNtV
import Derived.Test.YtojjnfhgldjgbaaGreatDoorNtW
import Derived.Test.YtojjnfhgldjgbaaGreatDoorNtX
import Derived.Test.YtojjnfhgldjgbaaGreatDoorNtY
import Derived.Test.YtojjnfhgldjgbaaGreatDoorNtZ
import Derived.Test.YtojjnfhgldjgbaaGreatDoorNtAA
import Derived.Test.YtojjnfhgldjgbaaGreatDoorNtAB
import Derived.Test.YtojjnfhgldjgbaaGreatDoorNtAC
import Derived.Test.YtojjnfhgldjgbaaGreatDoorNtAD
section
set_option linter.unusedVariables false
set_option linter.unusedSimpArgs false
namespace Go.Proofs.YtojjnfhgldjgbaaGreatDoor.Store
open Go.RowKit Go.Por Go.Sort Go.Por.Tupl Go.Proofs.YtojjnfhgldjgbaaGreatDoorW.PrintWords Go.Proofs.YtojjnfhgldjgbaaGreatDoor.PStoreIdles

theorem bt_at5 {s : ByteArray} {i : Nat} {c : UInt8} (h : s.data.toList[i]? = some c) : bt s (i : Int) = (c.toNat : Int) := by
  obtain ⟨hi, hc⟩ := List.getElem?_eq_some_iff.1 h
  have hi' : i < s.size := by simpa using hi
  unfold bt
  rw [dif_pos (by simpa using hi')]
  simp only [Int.toNat_natCast]
  rw [← hc]
  rfl
theorem wrap_i5 {i : Nat} (h : i ≤ 9223372036854775806) : wrap64 ((i : Int) + 1) = ((i + 1 : Nat) : Int) := by unfold wrap64; omega
theorem okByte_iff (c : UInt8) : okByte c = true ↔ c.toNat = 95 ∨ (48 ≤ c.toNat ∧ c.toNat ≤ 57) ∨ (97 ≤ c.toNat ∧ c.toNat ≤ 122) := by
  have h : ∀ n : Nat, n < 256 → (okByte (UInt8.ofNat n) = true ↔ n = 95 ∨ (48 ≤ n ∧ n ≤ 57) ∨ (97 ≤ n ∧ n ≤ 122)) := by decide +kernel
  have h2 := h c.toNat c.toNat_lt
  rwa [UInt8.ofNat_toNat] at h2
theorem drop_at {s : ByteArray} {i : Nat} (hi : i < s.size) : ∃ c, s.data.toList[i]? = some c ∧ s.data.toList.drop i = c :: s.data.toList.drop (i + 1) := by
  have hl : i < s.data.toList.length := by simpa using hi
  exact ⟨_, List.getElem?_eq_getElem hl, List.drop_eq_getElem_cons hl⟩
theorem name_l (s : ByteArray) (hs : s.size ≤ 9223372036854775807) : ∀ (d k i : Nat), i + d = s.size → d < k → porterref05_Name.l0 k s (i : Int) = some ((s.data.toList.drop i).all okByte)
  | 0, k + 1, i, hi, _ => by
    simp only [porterref05_Name.l0]
    rw [if_neg (by omega), List.drop_eq_nil_of_le (by simp; omega)]
    rfl
  | d + 1, k + 1, i, hi, hk => by
    obtain ⟨c, hc, hd⟩ := drop_at (s := s) (i := i) (by omega)
    have ih := name_l s hs d k (i + 1) (by omega) (by omega)
    have hcl : c.toNat < 256 := c.toNat_lt
    have hok := okByte_iff c
    simp only [porterref05_Name.l0]
    rw [if_pos (by omega), if_pos (by omega), bt_at5 hc, wrap_i5 (by omega), ih, hd, List.all_cons]
    generalize (s.data.toList.drop (i + 1)).all okByte = X
    cases hb : okByte c with
    | true =>
      rw [hb] at hok
      have := hok.1 rfl
      rw [Bool.true_and]
      repeat' split
      all_goals first | rfl | (exfalso; omega)
    | false =>
      rw [hb] at hok
      have hn : ¬ (c.toNat = 95 ∨ (48 ≤ c.toNat ∧ c.toNat ≤ 57) ∨ (97 ≤ c.toNat ∧ c.toNat ≤ 122)) := fun h => by have := hok.2 h; cases this
      rw [Bool.false_and]
      repeat' split
      all_goals first | rfl | (exfalso; omega)
theorem name_f (s : ByteArray) (hs : s.size ≤ 9223372036854775807) (k : Nat) (hk : s.size + 2 ≤ k) : porterref05_Name.f k s = some (nameL s.data.toList) := by
  obtain ⟨k, rfl⟩ : ∃ m, k = m + 1 := ⟨k - 1, by omega⟩
  have hz : s.data.toList.length = s.size := by simp
  have he : s.data.toList.isEmpty = decide (s.size = 0) := by
    rw [← hz]
    cases s.data.toList with
    | nil => rfl
    | cons a l => simp
  unfold porterref05_Name.f nameL
  rw [he, hz]
  by_cases h1 : s.size = 0
  · rw [if_pos (by omega), decide_eq_true h1]
    simp only [porterref05_Name.j0]
    rfl
  · rw [if_neg (by omega), decide_eq_false h1]
    simp only [porterref05_Name.j0]
    by_cases h2 : s.size ≤ 32
    · rw [if_neg (by simp; omega), decide_eq_true h2]
      have := name_l s hs s.size k 0 (by omega) (by omega)
      rw [List.drop_zero] at this
      rw [show (0 : Int) = ((0 : Nat) : Int) from rfl, this]
      rfl
    · rw [if_pos (by simp; omega), decide_eq_false h2]
      rfl
theorem find_l (s : ByteArray) (c : UInt8) (hs : s.size ≤ 9223372036854775807) : ∀ (d k i : Nat), i + d = s.size → d < k →
    porterref05_Find.l0 k s (c.toNat : Int) (i : Int) = some (if Lib.indexByte (s.data.toList.drop i) c < 0 then -1 else (i : Int) + Lib.indexByte (s.data.toList.drop i) c)
  | 0, k + 1, i, hi, _ => by
    simp only [porterref05_Find.l0]
    rw [if_neg (by omega), List.drop_eq_nil_of_le (by simp; omega)]
    rfl
  | d + 1, k + 1, i, hi, hk => by
    obtain ⟨b, hc, hd⟩ := drop_at (s := s) (i := i) (by omega)
    have ih := find_l s c hs d k (i + 1) (by omega) (by omega)
    have hlo := indexByte_lo (s.data.toList.drop (i + 1)) c
    simp only [porterref05_Find.l0]
    rw [if_pos (by omega), if_pos (by omega), bt_at5 hc, wrap_i5 (by omega), ih, hd]
    generalize s.data.toList.drop (i + 1) = X at hlo ⊢
    by_cases hbc : b = c
    · rw [if_pos (by rw [hbc]), hbc]
      simp [Lib.indexByte]
    · have hne : ¬ ((b.toNat : Int) = (c.toNat : Int)) := fun e => hbc (UInt8.toNat_inj.1 (by omega))
      rw [if_neg hne]
      congr 1
      conv => rhs; unfold Lib.indexByte
      rw [if_neg (show ¬ (b == c) = true by simpa using hbc)]
      generalize Lib.indexByte X c = z at hlo ⊢
      by_cases hz : z = -1
      · rw [hz]; rfl
      · rw [if_neg (show ¬ (z == -1) = true by simpa using hz), if_neg (by omega), if_neg (by omega)]
        omega
theorem find_f (s : ByteArray) (c : UInt8) (hs : s.size ≤ 9223372036854775807) (k : Nat) (hk : s.size + 1 ≤ k) : porterref05_Find.f k s (c.toNat : Int) = some (Lib.indexByte s.data.toList c) := by
  have := find_l s c hs s.size k 0 (by omega) (by omega)
  rw [List.drop_zero] at this
  unfold porterref05_Find.f
  rw [show (0 : Int) = ((0 : Nat) : Int) from rfl, this]
  have hlo := indexByte_lo s.data.toList c
  congr 1
  split <;> omega
theorem ex_take (s : ByteArray) (k : Nat) : (s.extract 0 k).data.toList = s.data.toList.take k := by rw [extract_take]
theorem ex_drop (s : ByteArray) (k : Nat) : (s.extract k s.size).data.toList = s.data.toList.drop k := by rw [extract_drop]
theorem ex_take_le (s : ByteArray) (k : Nat) : (s.extract 0 k).size ≤ s.size := by
  have h := congrArg List.length (ex_take s k)
  have e1 : (s.extract 0 k).data.toList.length = (s.extract 0 k).size := by simp
  have e2 : s.data.toList.length = s.size := by simp
  rw [e1, List.length_take, e2] at h
  omega
theorem ex_drop_le (s : ByteArray) (k : Nat) : (s.extract k s.size).size ≤ s.size := by
  have h := congrArg List.length (ex_drop s k)
  have e1 : (s.extract k s.size).data.toList.length = (s.extract k s.size).size := by simp
  have e2 : s.data.toList.length = s.size := by simp
  rw [e1, List.length_drop, e2] at h
  omega
theorem idx_lt (s : ByteArray) (c : UInt8) (h : 0 ≤ Lib.indexByte s.data.toList c) : (Lib.indexByte s.data.toList c).toNat < s.size := by
  have := indexByte_lt h
  simpa using this
theorem object_f (s : ByteArray) (hs : s.size ≤ 9223372036854775807) (k : Nat) (hk : s.size + 2 ≤ k) : ∃ a b, porterref05_Object.f k s = some (a, b, objE s.data.toList) := by
  unfold porterref05_Object.f objE
  rw [show (58 : Int) = ((58 : UInt8).toNat : Int) from rfl, find_f s 58 hs k (by omega), Option.bind_some]
  have hlo := indexByte_lo s.data.toList 58
  have hlt := idx_lt s 58
  generalize hz : Lib.indexByte s.data.toList 58 = z at hlo hlt ⊢
  by_cases h0 : z < 0
  · rw [if_pos h0, if_pos h0]
    exact ⟨_, _, rfl⟩
  · have hlt' := hlt (by omega)
    obtain ⟨n, rfl⟩ := Int.eq_ofNat_of_zero_le (show 0 ≤ z by omega)
    rw [Int.toNat_natCast] at hlt' ⊢
    have hw : wrap64 ((n : Int) + 1) = ((n + 1 : Nat) : Int) := wrap_i5 (by omega)
    rw [if_neg h0, if_neg h0, if_pos (by omega), if_pos (by omega), name_f _ (Nat.le_trans (ex_take_le s n) hs) k (by have := ex_take_le s n; omega), Option.bind_some, hw, Int.toNat_natCast,
      name_f _ (Nat.le_trans (ex_drop_le s (n + 1)) hs) k (by have := ex_drop_le s (n + 1); omega), Option.bind_some, ex_take, ex_drop]
    cases nameL (s.data.toList.take n) with
    | true =>
      cases nameL (s.data.toList.drop (n + 1)) with
      | true => exact ⟨_, _, by rw [if_pos rfl, if_pos (by omega), if_pos (by omega)]; rfl⟩
      | false => exact ⟨_, _, by rw [if_pos rfl, if_pos (by omega), if_pos (by omega)]; rfl⟩
    | false => exact ⟨_, _, rfl⟩
theorem user_f (s : ByteArray) (hs : s.size ≤ 9223372036854775807) (k : Nat) (hk : s.size + 3 ≤ k) : ∃ a b, porterref05_User.f k s = some (a, b, usrE s.data.toList) := by
  obtain ⟨k', rfl⟩ : ∃ m, k = m + 1 := ⟨k - 1, by omega⟩
  unfold porterref05_User.f usrE
  rw [show (35 : Int) = ((35 : UInt8).toNat : Int) from rfl, find_f s 35 hs (k' + 1) (by omega), Option.bind_some]
  have hlo := indexByte_lo s.data.toList 35
  have hlt := idx_lt s 35
  generalize hz : Lib.indexByte s.data.toList 35 = z at hlo hlt ⊢
  by_cases h0 : z < 0
  · rw [if_neg (by omega), if_pos h0]
    simp only [porterref05_User.j0]
    obtain ⟨a, b, e⟩ := object_f s hs k' (by omega)
    rw [e, Option.bind_some]
    by_cases he : objE s.data.toList = 0
    · exact ⟨_, _, by rw [if_pos he, if_pos h0, he]⟩
    · exact ⟨_, _, by rw [if_neg he]⟩
  · have hlt' := hlt (by omega)
    obtain ⟨n, rfl⟩ := Int.eq_ofNat_of_zero_le (show 0 ≤ z by omega)
    rw [Int.toNat_natCast] at hlt' ⊢
    have hw : wrap64 ((n : Int) + 1) = ((n + 1 : Nat) : Int) := wrap_i5 (by omega)
    rw [if_pos (by omega), if_pos (by omega), if_pos (by omega), if_neg h0]
    simp only [porterref05_User.j0]
    obtain ⟨a, b, e⟩ := object_f (s.extract 0 n) (Nat.le_trans (ex_take_le s n) hs) k' (by have := ex_take_le s n; omega)
    rw [e, Option.bind_some, ex_take]
    by_cases he : objE (s.data.toList.take n) = 0
    · rw [if_pos he, if_pos he, if_neg h0, hw, if_pos (by omega), if_pos (by omega), Int.toNat_natCast, name_f _ (Nat.le_trans (ex_drop_le s (n + 1)) hs) k' (by have := ex_drop_le s (n + 1); omega), Option.bind_some, ex_drop]
      cases nameL (s.data.toList.drop (n + 1)) with
      | true => exact ⟨_, _, by rw [if_pos rfl, if_pos rfl]⟩
      | false => exact ⟨_, _, by rw [if_neg (by decide), if_neg (by decide)]⟩
    · exact ⟨_, _, by rw [if_neg he, if_neg he]⟩
theorem drawn_below {w w2 : World} (hd : Drawn0 w w2) : Below w.heap.size w w2 := by
  obtain ⟨nd, rfl⟩ := hd
  exact pw_below_drewN (Below.refl _ _) nd
set_option maxRecDepth 100000 in
set_option maxHeartbeats 800000 in
/-- The document's check of a tuple, called. -/
theorem ref_check (t : ByteArray × ByteArray × ByteArray) (h0 : t.1.size ≤ 9223372036854775807) (h1 : t.2.1.size ≤ 9223372036854775807) (h2 : t.2.2.size ≤ 9223372036854775807) (w : World) :
    Calls Tryz.prog 23 #[.agg #[.string t.1, .string t.2.1, .string t.2.2]] w fun e w' => e = .returned (.int .i64 (tchk t)) ∧ Below w.heap.size w w' := by
  obtain ⟨t0, t1, t2⟩ := t
  have ho : ∃ a b, ∀ W : World, Calls Tryz.prog 49 #[.string t0] W fun e w' => e = .returned (.tuple #[.string a, .string b, .int .i64 (objE t0.data.toList)]) ∧ Drawn0 W w' := by
    obtain ⟨a, b, e⟩ := object_f t0 h0 _ (Nat.le_refl _)
    exact ⟨a, b, fun W => porterref05_Object.calls _ _ _ _ _ W e⟩
  have hu : ∃ a b, ∀ W : World, Calls Tryz.prog 51 #[.string t2] W fun e w' => e = .returned (.tuple #[.string a, .string b, .int .i64 (usrE t2.data.toList)]) ∧ Drawn0 W w' := by
    obtain ⟨a, b, e⟩ := user_f t2 h2 _ (Nat.le_refl _)
    exact ⟨a, b, fun W => porterref05_User.calls _ _ _ _ _ W e⟩
  have hn : ∀ W : World, Calls Tryz.prog 50 #[.string t1] W fun e w' => e = .returned (.bool (nameL t1.data.toList)) ∧ Drawn0 W w' := fun W => porterref05_Name.calls _ _ _ W (name_f t1 h1 _ (Nat.le_refl _))
  obtain ⟨oa, ob, ho⟩ := ho
  obtain ⟨ua, ub, hu⟩ := hu
  have htc : tchk (t0, t1, t2) = if objE t0.data.toList = 0 then (if nameL t1.data.toList then usrE t2.data.toList else 50) else objE t0.data.toList := rfl
  rw [htc]
  clear htc h0 h1 h2
  generalize objE t0.data.toList = x at *
  generalize usrE t2.data.toList = y at *
  generalize nameL t1.data.toList = b at *
  obtain ⟨X, hX⟩ : ∃ X, (if x = 0 then (if b = true then y else 50) else x) = X := ⟨_, rfl⟩
  rw [hX]
  have HX := Lib.hid hX
  have HH := Lib.hid (And.intro ho (And.intro hn hu))
  clear ho hn hu hX
  obtain ⟨B, hB⟩ : ∃ B, w.heap.size = B := ⟨_, rfl⟩
  rw [hB]
  go_enter Tryz.func23, Tryz.ntmps23
  go_wp2_with fail
  refine (HH.out.1 _).mono ?_
  rintro e w1 ⟨rfl, hd1⟩
  have b1 := drawn_below hd1
  have hb0 := block_new w (.cells #[.string t0, .string t1, .string t2] 41)
  have hb1 := (Mod.of_below b1 (fun _ => False)).old hb0 id
  have bw1 : Below w.heap.size w w1 := ((Below.refl _ w).alloc (Nat.le_refl _) _).trans (b1.mono (by rw [World.size_alloc]; omega))
  rw [hB] at hb1 bw1
  have hs1 : B ≤ w1.heap.size := by have := bw1.size; omega
  have c1 : w1.cell? ⟨B, 1, none⟩ = some (.string t1) := cell_of hb1 rfl
  have c2 : w1.cell? ⟨B, 2, none⟩ = some (.string t2) := cell_of hb1 rfl
  have H1 := Lib.hid (And.intro hb1 (And.intro bw1 hs1))
  clear hd1 b1 hb0 hb1 bw1 hs1 hB
  by_cases hx : x = 0
  · subst hx
    go_wp2_with fail
    refine (HH.out.2.1 _).mono ?_
    rintro e w2 ⟨rfl, hd2⟩
    have b2 := drawn_below hd2
    have hb2 := (Mod.of_below b2 (fun _ => False)).old H1.out.1 id
    have bw2 := H1.out.2.1.trans (b2.mono H1.out.2.2)
    have hs2 : B ≤ w2.heap.size := by have h1 := b2.size; have h2 := H1.out.2.2; omega
    have c2' : w2.cell? ⟨B, 2, none⟩ = some (.string t2) := cell_of hb2 rfl
    have H2 := Lib.hid (And.intro bw2 hs2)
    clear hd2 b2 hb2 bw2 hs2 c1 c2
    cases b with
    | true =>
      go_wp2_with fail
      refine (HH.out.2.2 _).mono ?_
      rintro e w3 ⟨rfl, hd3⟩
      have bw3 := H2.out.1.trans ((drawn_below hd3).mono H2.out.2)
      have H3 := Lib.hid bw3
      clear hd3 bw3 c2'
      go_wp2
      go_ret
      have e := HX.out
      simp at e
      subst e
      exact ⟨rfl, H3.out⟩
    | false =>
      go_wp2
      go_ret
      have e := HX.out
      simp at e
      subst e
      exact ⟨rfl, H2.out.1⟩
  · have hx1 : (x == 0) = false := by simpa using hx
    go_wp2
    go_ret
    have e := HX.out
    rw [if_neg hx] at e
    subst e
    exact ⟨rfl, H1.out.2.1⟩
end Go.Proofs.YtojjnfhgldjgbaaGreatDoor.Store
end
section
set_option linter.unusedVariables false
set_option linter.unusedSimpArgs false
namespace Go.Proofs.YtojjnfhgldjgbaaGreatDoor.Store
open Go.RowKit Go.Por Go.Sort Go.Proofs.YtojjnfhgldjgbaaGreatDoor.Watch Go.Proofs.YtojjnfhgldjgbaaGreatDoor.Back Go.Por.Tupl
theorem own_lit0 {α : Type} (f : α → List Value) (c : Nat) (w : World) (E : TypeId) : OwnS f c (w.alloc (.cells #[] E)) E (.slice (some ⟨w.heap.size, 0, none⟩) 0 0) [] :=
  World.ownsRow_lit (base := 0) w #[] 0 (Nat.zero_le _) (Nat.zero_le _) (by simp)
theorem readNilC (w : World) : ReadS chgC 5 w (.slice none 0 0) [] := ⟨none, 0, rfl, Nat.zero_le _, by simp⟩
theorem own_shape {α : Type} {f : α → List Value} {c : Nat} {w : World} {E : TypeId} {v : Value} {l : List α} (h : OwnS f c w E v l) : ∃ ao n cap, v = .slice ao n cap ∧ l.length = n ∧ (0 < n → ∃ g, ao = some ⟨g, 0, none⟩) := by
  rcases h.form with ⟨rfl, rfl⟩ | ⟨g, cap, rfl, h1, _⟩
  · exact ⟨none, 0, 0, rfl, rfl, fun h => absurd h (Nat.lt_irrefl _)⟩
  · exact ⟨_, _, cap, rfl, rfl, fun _ => ⟨g, rfl⟩⟩
theorem netU_len (a b : List Tup) : (netU a b).length ≤ a.length + b.length := by
  unfold netU outOf
  rw [List.length_append, List.length_map, List.length_map]
  have h1 := List.length_filter_le (fun x => !tin x b) a
  have h2 := List.length_filter_le (fun x => !tin x a) b
  omega
/-- Tuples that came in. -/
structure TupsIs (w : World) (v : Value) (l : List Tup) : Prop where
  rd : ReadS tupC 3 w v l
  nil : NilOk v
  ok : ∀ t ∈ l, TupOk t
  len : l.length ≤ 1048576
theorem TupsIs.below {w w' : World} {v : Value} {l : List Tup} (h : TupsIs w v l) (hb : Below w.heap.size w w') : TupsIs w' v l := ⟨read_below h.rd (by decide) tupC_len hb, h.nil, h.ok, h.len⟩
theorem puts_len (ts : List Tup) : (putsL ts).length = ts.length := by unfold putsL; rw [List.length_map]
theorem mut_tup {W : World} {Q : Nat} {d : Bool} {t0 t1 t2 : ByteArray} {t : TypeId} (h : W.heap[Q]? = some (.cells #[.bool d, .string t0, .string t1, .string t2] t (0, 0))) : W.rangeAt Q 1 [.string t0, .string t1, .string t2] := fun j u hu => by
  exact cell_of h (show #[Value.bool d, .string t0, .string t1, .string t2][1 + j]? = some u by
    match j with
    | 0 => simpa using hu
    | 1 => simpa using hu
    | 2 => simpa using hu
    | j + 3 => simp at hu)
set_option maxRecDepth 100000 in
set_option maxHeartbeats 3200000 in
theorem net_law {w : World} {va vb : Value} {a b : List Tup} (ha : TupsIs w va a) (hb : TupsIs w vb b) :
    Calls Tryz.prog 5 #[va, vb] w fun e w' => e = .returned (.bool true) ∧ Below w.heap.size w w' := by
  obtain ⟨B, hB⟩ : ∃ B, w.heap.size = B := ⟨_, rfl⟩
  rw [hB]
  have HH := Lib.hid (And.intro ha (And.intro hb hB))
  clear ha hb hB
  go_enter Tryz.func5, Tryz.ntmps5
  go_wp2_with fail
  refine (Watch.awake_any w).mono ?_
  rintro e w1 ⟨rfl, b1⟩
  have z1 := b1.size
  have H1 := Lib.hid (And.intro (HH.out.1.below b1) (And.intro (HH.out.2.1.below b1) (And.intro (show Below B w w1 by rw [← HH.out.2.2]; exact b1) (show B ≤ w1.heap.size by have := HH.out.2.2; omega))))
  clear b1 z1
  go_wp2_with (first
    | (at_builtin; refine wpList_pushAll elemTup rfl _ _ rfl rfl (own_lit0 tupC 3 w1 41) rfl (H1.out.1.rd.mod (S := fun _ => False) (by decide) tupC_len ((Mod.refl _ w1).alloc _) (fun _ _ h => h)) H1.out.1.nil ?c1 ?c2 ?_))
  case c1 => have h1 := H1.out.1.len; simp only [List.length_nil]; omega
  case c2 => have h1 := H1.out.1.len; unfold maxLen; simp only [List.length_nil]; omega
  intro v2 w2 ho2 hk2 hb2
  have b2 : Below w1.heap.size w1 w2 := ((Below.refl _ w1).alloc (Nat.le_refl _) _).trans (hk2.to_below (by simp) (fun k hk => by simp only [Value.ownBlock, Option.some.injEq] at hk; omega))
  have o2 : ∀ k, v2.ownBlock = some k → w1.heap.size ≤ k := fun k hk => by
    rcases hb2 k hk with h | h
    · simp only [Value.ownBlock, Option.some.injEq] at h; omega
    · omega
  have z2 := b2.size
  have H2 := Lib.hid (And.intro (show OwnS tupC 3 w2 41 v2 a from ho2) (And.intro o2 (And.intro b2 (And.intro (H1.out.2.1.below b2) z2))))
  clear ho2 hk2 hb2 b2 o2 z2
  go_wp2_with (first
    | (at_builtin; refine wpList_pushAll elemTup rfl _ _ rfl rfl H2.out.1 rfl H2.out.2.2.2.1.rd H1.out.2.1.nil ?c1 ?c2 ?_))
  case c1 => have h1 := H1.out.1.len; have h2 := H1.out.2.1.len; omega
  case c2 => have h1 := H1.out.1.len; have h2 := H1.out.2.1.len; unfold maxLen; omega
  intro v3 w3 ho3 hk3 hb3
  have b3 : Below w1.heap.size w1 w3 := H2.out.2.2.1.trans (hk3.to_below H2.out.2.2.2.2 (fun k hk => H2.out.2.1 k hk.symm))
  have z3 := b3.size
  have b3' : Below B w w3 := H1.out.2.2.1.trans (b3.mono H1.out.2.2.2)
  obtain ⟨ao3, n, cap3, rfl, hn, hg3⟩ := own_shape ho3
  have hnl : n ≤ 2097152 := by rw [← hn, List.length_append]; have h1 := H1.out.1.len; have h2 := H1.out.2.1.len; omega
  have H3 := Lib.hid (And.intro ho3 (And.intro hn (And.intro hg3 (And.intro b3' (And.intro (show B ≤ w3.heap.size by have := H1.out.2.2.2; omega) hnl)))))
  have hn1 : (n : Int) ≤ 2097152 := by omega
  clear ho3 hk3 hb3 b3 z3 b3' hn hg3 hnl
  go_wp2
  go_loopg [6, 26] n (fun gg v6 vi wx => ∃ t : Nat, t + gg = n ∧ vi = .int .i64 (t : Int) ∧ (∀ x ∈ (a ++ b).take t, tchk x = 0) ∧ Below w3.heap.size w3 wx)
  case atStart => exact ⟨0, by omega, rfl, by simp, Below.refl _ _⟩
  case round =>
    obtain ⟨t, htg, rfl, hck, hbel⟩ := hrel
    by_cases hc : t < n
    · have hci : (t : Int) < (n : Int) := by omega
      have ht0 : (0 : Int) ≤ (t : Int) := by omega
      have htb : (t : Int) < 9223372036854775807 := by omega
      obtain ⟨⟨t0, t1, t2⟩, hx⟩ : ∃ x, (a ++ b)[t]? = some x := ⟨_, List.getElem?_eq_getElem (by rw [H3.out.2.1]; exact hc)⟩
      have hxm := List.mem_of_getElem? hx
      have hok : TupOk (t0, t1, t2) := by
        rcases List.mem_append.1 hxm with k | k
        · exact HH.out.1.ok _ k
        · exact HH.out.2.1.ok _ k
      obtain ⟨g3, rfl⟩ := H3.out.2.2.1 (by omega)
      have hrange := OwnS.range tupC_len (own_below H3.out.1 hbel) hx
      have htk : ∀ q, tchk (t0, t1, t2) = 0 → q ∈ (a ++ b).take (t + 1) → tchk q = 0 := fun q h0 hq => by
        rw [List.take_add_one, hx, List.mem_append] at hq
        rcases hq with hq | hq
        · exact hck q hq
        · simp at hq; rw [hq]; exact h0
      have HE := Lib.hid (And.intro htg (And.intro hck (And.intro hbel (And.intro hc (And.intro hok (And.intro hrange htk))))))
      clear htg hck hbel hc hok hrange htk hx hxm
      go_upto_region 6 with (first
        | (refine wpList_load_mid rfl 41 (.tmp 28) rfl g3 (t * 3) rfl (tupC (t0, t1, t2)) _ HE.out.2.2.2.2.2.1 Tryz.underlying41 rfl infoTup0 ?_; unfold tupC))
      obtain ⟨Q, hQ⟩ : ∃ Q, wr.heap.size = Q := ⟨_, rfl⟩
      have hQb := block_new wr (.cells #[.string t0, .string t1, .string t2] 41)
      have m6 : Below w3.heap.size wr (wr.alloc (.cells #[.string t0, .string t1, .string t2] 41)) := (Below.refl _ wr).alloc HE.out.2.2.1.size _
      rw [hQ] at hQb ⊢
      generalize hW6 : wr.alloc (.cells #[.string t0, .string t1, .string t2] 41) = W6 at *
      have HJ := Lib.hid (And.intro hQb (HE.out.2.2.1.trans m6))
      clear hQb m6 hQ hW6
      obtain ⟨q, hq⟩ : ∃ q, tchk (t0, t1, t2) = q := ⟨_, rfl⟩
      go_wp2_with (first
        | (refine wpList_load_mid rfl 41 (.tmp 6) rfl Q 0 rfl [.string t0, .string t1, .string t2] _ (row_range HJ.out.1) Tryz.underlying41 rfl infoTup0 ?_))
      refine (ref_check (t0, t1, t2) HE.out.2.2.2.2.1.1 HE.out.2.2.2.2.1.2.1 HE.out.2.2.2.2.1.2.2 _).mono ?_
      rintro e w7 ⟨rfl, b7⟩
      rw [hq]
      have HK := Lib.hid (And.intro (HJ.out.2.trans (b7.mono HJ.out.2.size)) hq)
      clear b7 hq
      by_cases hq0 : q = 0
      · subst hq0
        go_wp2
        go_roundg (gk - 1)
        case measure => have h1 := HE.out.1; have h2 := HE.out.2.2.2.1; omega
        case rel => exact ⟨t + 1, by have h1 := HE.out.1; have h2 := HE.out.2.2.2.1; omega, by go_num, fun x hx => HE.out.2.2.2.2.2.2 x HK.out.2 hx, HK.out.1⟩
      · have hqb : (q != 0) = true := by simp [bne, hq0]
        go_wp2
        go_ret
        exact ⟨rfl, H3.out.2.2.2.1.trans (HK.out.1.mono H3.out.2.2.2.2.1)⟩
    · have hci : ¬ (t : Int) < (n : Int) := by omega
      rw [List.take_of_length_le (by rw [H3.out.2.1]; omega)] at hck
      have hca : ∀ x ∈ a, tchk x = 0 := fun x hx => hck x (List.mem_append_left _ hx)
      have hcb : ∀ x ∈ b, tchk x = 0 := fun x hx => hck x (List.mem_append_right _ hx)
      have bw : Below B w wr := H3.out.2.2.2.1.trans (hbel.mono H3.out.2.2.2.2.1)
      have hsz : B ≤ wr.heap.size := by have h1 := hbel.size; have h2 := H3.out.2.2.2.2.1; omega
      have H4 := Lib.hid (And.intro hca (And.intro hcb (And.intro bw (And.intro (HH.out.1.below (by rw [HH.out.2.2]; exact bw)) (And.intro (HH.out.2.1.below (by rw [HH.out.2.2]; exact bw)) hsz)))))
      clear hca hcb hck hbel htg hc bw hsz
      go_wp2_with fail
      refine (new_any _).mono ?_
      rintro e w5 ⟨s, rfl, ⟨O, U, M, MO, MU, lm, lo, lu, h5, e1, e2, e3⟩, b5⟩
      have hsh : Short 0 lm lo lu := ⟨fun k => by rw [e1]; exact Nat.le_refl _, fun k => by rw [e2]; exact Nat.le_refl _, fun k => by rw [e3]; exact Nat.le_refl _⟩
      have z5 := b5.size
      obtain ⟨F, hF⟩ : ∃ F : Nat → Prop, (fun k => wr.heap.size ≤ k ∧ k < w5.heap.size) = F := ⟨_, rfl⟩
      have hFlo : ∀ k, F k → B ≤ k := fun k hk => by rw [← hF] at hk; have := H4.out.2.2.2.2.2; omega
      rw [hF] at h5
      have H5 := Lib.hid (And.intro h5 (And.intro (And.intro e1 (And.intro e2 e3)) (And.intro hsh (And.intro (H4.out.2.2.1.trans (b5.mono H4.out.2.2.2.2.2)) (And.intro (H4.out.2.2.2.1.below b5) (And.intro (H4.out.2.2.2.2.1.below b5) (And.intro (show B ≤ w5.heap.size by have := H4.out.2.2.2.2.2; omega) hFlo)))))))
      clear h5 e1 e2 e3 hsh b5 z5 hF hFlo
      go_wp2_with fail
      refine (play_any H5.out.2.2.2.2.1.rd (readNilC _) (by have := H5.out.2.2.2.2.1.len; simp only [List.length_nil]; omega)).mono ?_
      rintro e w6 ⟨v6, rfl, o6, b6, _⟩
      obtain ⟨pl, hpl⟩ : ∃ pl, playL a [] = pl := ⟨_, rfl⟩
      have hmem : ∀ t, t ∈ pl ↔ t ∈ a := fun t => by rw [← hpl, mem_playL, List.foldl_nil, mem_kputs]; simp
      have hnd : pl.Nodup := by
        rw [← hpl]
        exact List.Pairwise.imp (R := tlt) (S := fun x y => x ≠ y) (fun {x y} h e => by rw [e] at h; exact tlt_irrefl _ h) (playL_rise a [])
      rw [hpl] at o6
      obtain ⟨ao6, n6, cap6, rfl, hn6, hg6⟩ := own_shape o6
      have hnl6 : n6 ≤ 1048576 := by
        rw [← hn6]
        classical
        exact Nat.le_trans (nodup_length hnd (fun x hx => (hmem x).1 hx)) HH.out.1.len
      have z6 := b6.size
      have H6 := Lib.hid (And.intro o6 (And.intro hmem (And.intro hnd (And.intro (H5.out.1.below b6) (And.intro (H5.out.2.2.2.1.trans (b6.mono H5.out.2.2.2.2.2.2.1)) (And.intro (H5.out.2.2.2.2.1.below b6) (And.intro (H5.out.2.2.2.2.2.1.below b6) (And.intro (show B ≤ w6.heap.size ∧ w5.heap.size ≤ w6.heap.size by have := H5.out.2.2.2.2.2.2.1; omega) (And.intro hn6 (And.intro hg6 hnl6))))))))))
      have hn61 : (n6 : Int) ≤ 1048576 := by omega
      clear o6 hmem hnd b6 hpl hn6 hg6 hnl6 z6 hci
      go_wp2
      go_loopg [8, 10, 40] n6 (fun gg sv v10 vi wx => ∃ t : Nat, t + gg = n6 ∧ vi = .int .i64 (t : Int) ∧ OwnS mutC 4 wx 47 sv (putsL (pl.take t)) ∧ Below w6.heap.size w6 wx ∧ ∀ k, sv.ownBlock = some k → w6.heap.size ≤ k)
      case atStart => exact ⟨0, by omega, rfl, OwnS.nil _ _ _ _, Below.refl _ _, fun k h => by simp [Value.ownBlock] at h⟩
      case round =>
        obtain ⟨t, htg, rfl, iown, ibel, iwh⟩ := hrel
        by_cases hc : t < n6
        · have hci : (t : Int) < (n6 : Int) := by omega
          have ht0 : (0 : Int) ≤ (t : Int) := by omega
          have htb : (t : Int) < 9223372036854775807 := by omega
          obtain ⟨⟨t0, t1, t2⟩, hx⟩ : ∃ x, pl[t]? = some x := ⟨_, List.getElem?_eq_getElem (by rw [H6.out.2.2.2.2.2.2.2.2.1]; exact hc)⟩
          obtain ⟨g6, rfl⟩ := H6.out.2.2.2.2.2.2.2.2.2.1 (by omega)
          have hrange := OwnS.range tupC_len (own_below H6.out.1 ibel) hx
          have htake := puts_take hx
          have hle : (putsL (pl.take t)).length = t := by unfold putsL; rw [List.length_map, List.length_take, H6.out.2.2.2.2.2.2.2.2.1]; omega
          obtain ⟨lt, hlt'⟩ : ∃ q, putsL (pl.take t) = q := ⟨_, rfl⟩
          rw [hlt'] at iown htake hle
          have hroom : (lt.length + 1) * 56 ≤ 140737488355328 ∧ lt.length + 1 ≤ maxLen := by
            have h3 := H6.out.2.2.2.2.2.2.2.2.2.2
            unfold maxLen
            omega
          have HI := Lib.hid (And.intro iown (And.intro ibel (And.intro iwh (And.intro hrange (And.intro htake (And.intro hroom (And.intro htg hc)))))))
          clear iown ibel iwh hrange htake hle htg hc hx hlt' hroom
          go_upto_region 16 with (first
            | (refine wpList_load_mid rfl 41 (.tmp 42) rfl g6 (t * 3) rfl (tupC (t0, t1, t2)) _ HI.out.2.2.2.1 Tryz.underlying41 rfl infoTup0 ?_; unfold tupC))
          obtain ⟨Q, hQ⟩ : ∃ Q, wr.heap.size = Q := ⟨_, rfl⟩
          have hQb := block_new wr (.cells #[.string t0, .string t1, .string t2] 41)
          have m7 : Mod (fun _ => False) wr (wr.alloc (.cells #[.string t0, .string t1, .string t2] 41)) := (Mod.refl _ wr).alloc _
          have b7 : Below w6.heap.size w6 (wr.alloc (.cells #[.string t0, .string t1, .string t2] 41)) := HI.out.2.1.trans ((Below.refl _ wr).alloc HI.out.2.1.size _)
          rw [hQ] at hQb ⊢
          generalize hW7 : wr.alloc (.cells #[.string t0, .string t1, .string t2] 41) = W7 at *
          have HJ := Lib.hid (And.intro hQb (And.intro b7 (And.intro (HI.out.1.mod m7 (fun _ _ h => h)) b7.size)))
          clear hQb m7 b7 hQ hW7
          go_wp2_with (first
            | (refine wpList_load_mid rfl 41 (.tmp 10) rfl Q 0 rfl [.string t0, .string t1, .string t2] _ (row_range HJ.out.1) Tryz.underlying41 rfl infoTup0 ?_)
            | (at_builtin; refine wpList_push (f := mutC) (c := 4) (bytes := 56) (v := u8) (l := lt) elemMut rfl (.tmp 44) (.tmp 47) rfl rfl (HJ.out.2.2.1.mod ((Mod.refl (fun _ => False) W7).alloc (.cells #[.bool false, .string t0, .string t1, .string t2] 47)) (fun _ _ h => h)) W7.heap.size (false, t0, t1, t2) rfl (block_new W7 (.cells #[.bool false, .string t0, .string t1, .string t2] 47)) HI.out.2.2.2.2.2.1.1 HI.out.2.2.2.2.2.1.2 ?_))
          intro v8 w8 hown8 hm8 hb8
          have HM := Lib.hid (And.intro hown8 (And.intro hm8 hb8))
          clear hown8 hm8 hb8
          go_wp2
          go_roundg (gk - 1)
          case measure => have h1 := HI.out.2.2.2.2.2.2.1; have h2 := HI.out.2.2.2.2.2.2.2; omega
          case rel =>
            obtain ⟨i1, i2, i3, i4, i5, i6, i7, i8⟩ := HI.out
            obtain ⟨j1, j2, j3, j4⟩ := HJ.out
            obtain ⟨n1, n2, n3⟩ := HM.out
            refine ⟨t + 1, by omega, by go_num, by rw [i5]; exact n1, ?_, fun k hk => ?_⟩
            · exact (j2.alloc j4 _).trans (n2.to_below (by rw [World.size_alloc]; omega) (fun k hk => i3 k hk.symm))
            · rcases n3 k hk with h | h
              · exact i3 k h
              · first
                  | omega
                  | (rw [World.size_alloc] at h; omega)
        · have hci : ¬ (t : Int) < (n6 : Int) := by omega
          rw [List.take_of_length_le (by rw [H6.out.2.2.2.2.2.2.2.2.1]; omega)] at iown
          obtain ⟨h61, h62, h63, h64, h65, h66, h67, h68, h69, h6a, h6b⟩ := H6.out
          have hFs : ∀ k, F k → k < w5.heap.size := fun k hk => H5.out.1.lt k hk
          have H7 := Lib.hid (And.intro iown (And.intro iwh (And.intro (h64.below ibel) (And.intro (h65.trans (ibel.mono h68.1)) (And.intro (h66.below ibel) (And.intro (h67.below ibel) (And.intro (show B ≤ wr.heap.size ∧ w6.heap.size ≤ wr.heap.size by have := ibel.size; omega) (And.intro hFs (And.intro h68 (And.intro h62 h63))))))))))
          clear htg iown ibel iwh hc h61 h62 h63 h64 h65 h66 h67 h68 h69 h6a h6b hFs
          go_wp2_with fail
          refine (net_any H7.out.2.2.2.2.1.rd H7.out.2.2.2.2.2.1.rd (by have h1 := netU_len a b; have h2 := HH.out.1.len; have h3 := HH.out.2.1.len; omega)).mono ?_
          rintro e w8 ⟨v8, l8, rfl, p8, s8, o8, b8, n8⟩
          obtain ⟨nl, hnl⟩ : ∃ nl, compactL l8 = nl := ⟨_, rfl⟩
          have hnm := net_mem p8 s8
          have hnlen : nl.length ≤ 2097152 := by
            have h0 := compactL_le l8
            rw [hnl, p8.length_eq] at h0
            have h1 := netU_len a b
            have h2 := HH.out.1.len
            have h3 := HH.out.2.1.len
            omega
          rw [hnl] at o8 hnm
          have z8 := b8.size
          have H8 := Lib.hid (And.intro o8 (And.intro hnm (And.intro (own_below H7.out.1 b8) (And.intro (H7.out.2.2.1.below b8) (And.intro (H7.out.2.2.2.1.trans (b8.mono H7.out.2.2.2.2.2.2.1.1)) (And.intro (H7.out.2.2.2.2.1.below b8) (And.intro (H7.out.2.2.2.2.2.1.below b8) (And.intro (show B ≤ w8.heap.size ∧ wr.heap.size ≤ w8.heap.size by have := H7.out.2.2.2.2.2.2.1; omega) (And.intro n8 hnlen)))))))))
          clear p8 s8 o8 b8 n8 hnl hnm z8 hnlen
          go_wp2_with fail
          refine (apply_mem H8.out.2.2.2.1 H5.out.2.2.1 (H8.out.2.2.1.read mutC_len) (fun _ k hk hF => by
            have h1 := H7.out.2.1 k hk
            have h2 := H7.out.2.2.2.2.2.2.2.1 k hF
            have h3 := H7.out.2.2.2.2.2.2.2.2.1
            omega) (fun m hm => by
            obtain ⟨x, hx, e⟩ := List.mem_map.1 (show m ∈ pl.map (fun t => (false, t)) from hm)
            rw [← e]
            exact HH.out.1.ok x ((H7.out.2.2.2.2.2.2.2.2.2.1 x).1 hx)) (by have h1 := puts_len pl; have h2 := H6.out.2.2.2.2.2.2.2.2.1; have h3 := H6.out.2.2.2.2.2.2.2.2.2.2; omega) 1).mono ?_
          rintro e w9 ⟨rfl, lm9, lo9, lu9, h9, p9, s9, m9⟩
          have hone := net_one H4.out.1 H7.out.2.2.2.2.2.2.2.2.2.2 H7.out.2.2.2.2.2.2.2.2.2.1
          rw [H5.out.2.1.1, H5.out.2.1.2.1, H5.out.2.1.2.2, hone, if_pos rfl] at p9
          rw [H5.out.2.1.1, hone]
          have e9 : smc lm9 = applyA 1 [] (putsL pl) := by rw [show smc lm9 = (apply3 1 ([], [], []) (putsL pl)).1 from congrArg (fun x : St3 => x.1) p9, apply3_fst]
          have z9 := m9.size
          have hdis : ∀ k, F k → k < wr.heap.size := fun k hk => by have h2 := H7.out.2.2.2.2.2.2.2.1 k hk; have h3 := H7.out.2.2.2.2.2.2.2.2.1; have h4 := H7.out.2.2.2.2.2.2.1; omega
          have o9 : OwnS mutC 4 w9 47 v8 nl := H8.out.1.mod m9 (fun k hk hF => by have h1 := H8.out.2.2.2.2.2.2.2.2.1 k hk; have h2 := hdis k hF; omega)
          have bw9 : Below B w w9 := H8.out.2.2.2.2.1.trans (m9.to_below H8.out.2.2.2.2.2.2.2.1.1 (fun k hk => H5.out.2.2.2.2.2.2.2 k hk))
          have hB9 : B ≤ w9.heap.size := by have := H8.out.2.2.2.2.2.2.2.1; omega
          have H9 := Lib.hid (And.intro h9 (And.intro e9 (And.intro s9 (And.intro o9 (And.intro bw9 (And.intro hB9 (And.intro hdis z9)))))))
          clear h9 p9 s9 m9 hone e9 o9 bw9 hB9 z9 hdis
          go_wp2_with fail
          refine (apply_mem H9.out.1 H9.out.2.2.1 (H9.out.2.2.2.1.read mutC_len) (fun _ k hk hF => by
            have h1 := H8.out.2.2.2.2.2.2.2.2.1 k hk
            have h2 := own_blk_lt H8.out.1 hk
            rcases hF with hF | hF
            · have h3 := H9.out.2.2.2.2.2.2.1 k hF; omega
            · omega) (fun m hm => by
            rcases (H8.out.2.1.2 m).1 hm with k | k
            · exact HH.out.1.ok _ k.1
            · exact HH.out.2.1.ok _ k.1) (by have h1 := puts_len pl; have h2 := H6.out.2.2.2.2.2.2.2.2.1; have h3 := H6.out.2.2.2.2.2.2.2.2.2.2; have h4 := H8.out.2.2.2.2.2.2.2.2.2; omega) 2).mono ?_
          rintro e w10 ⟨rfl, lm10, lo10, lu10, h10, p10, s10, m10⟩
          have htwo := net_two H4.out.1 H4.out.2.1 H7.out.2.2.2.2.2.2.2.2.2.2 H7.out.2.2.2.2.2.2.2.2.2.1 H8.out.2.1.1 H8.out.2.1.2
          rw [H9.out.2.1, htwo, if_pos rfl] at p10
          rw [H9.out.2.1, htwo]
          have e10 : smc lm10 = applyA 2 (applyA 1 [] (putsL pl)) nl := by rw [show smc lm10 = (apply3 2 (applyA 1 [] (putsL pl), smc lo9, smc lu9) nl).1 from congrArg (fun x : St3 => x.1) p10, apply3_fst]
          have z10 := m10.size
          have o10 : OwnS mutC 4 w10 47 v8 nl := H9.out.2.2.2.1.mod m10 (fun k hk hF => by
            have h1 := H8.out.2.2.2.2.2.2.2.2.1 k hk
            have h2 := own_blk_lt H8.out.1 hk
            rcases hF with hF | hF
            · have h3 := H9.out.2.2.2.2.2.2.1 k hF; omega
            · omega)
          have bw10 : Below B w w10 := H9.out.2.2.2.2.1.trans (m10.to_below H9.out.2.2.2.2.2.1 (fun k hk => by
            rcases hk with hk | hk
            · exact H5.out.2.2.2.2.2.2.2 k hk
            · have h1 := H8.out.2.2.2.2.2.2.2.1; omega))
          have hB10 : B ≤ w10.heap.size := by have := H9.out.2.2.2.2.2.1; omega
          obtain ⟨ao8, n8, cap8, rfl, hn8, hg8⟩ := own_shape o10
          have hn8' : n8 ≤ 2097152 := by rw [← hn8]; exact H8.out.2.2.2.2.2.2.2.2.2
          have H10 := Lib.hid (And.intro h10 (And.intro e10 (And.intro s10 (And.intro o10 (And.intro bw10 (And.intro hB10 (And.intro hn8 hg8)))))))
          have hn81 : (n8 : Int) ≤ 2097152 := by omega
          clear h10 p10 s10 m10 htwo e10 o10 bw10 hB10 z10 hn8 hg8 hci
          go_wp2
          go_loopg [13, 14, 15, 16, 17, 65] n8 (fun gg v13 v14 v15 v16 v17 vi wx => ∃ t : Nat, t + gg = n8 ∧ vi = .int .i64 (t : Int) ∧ Below w10.heap.size w10 wx)
          case atStart => exact ⟨0, by omega, rfl, Below.refl _ _⟩
          case round =>
            obtain ⟨t, htg, rfl, hbel⟩ := hrel
            by_cases hc : t < n8
            · have hci : (t : Int) < (n8 : Int) := by omega
              have ht0 : (0 : Int) ≤ (t : Int) := by omega
              have htb : (t : Int) < 9223372036854775807 := by omega
              obtain ⟨⟨d, t0, t1, t2⟩, hx⟩ : ∃ x, nl[t]? = some x := ⟨_, List.getElem?_eq_getElem (by rw [H10.out.2.2.2.2.2.2.1]; exact hc)⟩
              obtain ⟨g8, rfl⟩ := H10.out.2.2.2.2.2.2.2 (by omega)
              have hrange := OwnS.range mutC_len (own_below H10.out.2.2.2.1 hbel) hx
              have hxm := List.mem_of_getElem? hx
              have hwas := net_was H4.out.1 H4.out.2.1 H7.out.2.2.2.2.2.2.2.2.2.2 H7.out.2.2.2.2.2.2.2.2.2.1 H8.out.2.1.1 H8.out.2.1.2 hxm
              have hnow := net_now H4.out.1 H4.out.2.1 H7.out.2.2.2.2.2.2.2.2.2.2 H7.out.2.2.2.2.2.2.2.2.2.1 H8.out.2.1.1 H8.out.2.1.2 hxm
              rw [← H10.out.2.1] at hwas hnow
              have HI := Lib.hid (And.intro hbel (And.intro hrange (And.intro hwas (And.intro hnow (And.intro htg hc)))))
              clear hbel hrange hwas hnow htg hc hx hxm
              go_upto_region 24 with (first
                | (refine wpList_load_mid rfl 47 (.tmp 67) rfl g8 (t * 4) rfl (mutC (d, t0, t1, t2)) _ HI.out.2.1 Tryz.underlying47 rfl infoMut0 ?_; unfold mutC))
              obtain ⟨Q, hQ⟩ : ∃ Q, wr.heap.size = Q := ⟨_, rfl⟩
              have hQb := block_new wr (.cells #[.bool d, .string t0, .string t1, .string t2] 47)
              have b7 : Below w10.heap.size w10 (wr.alloc (.cells #[.bool d, .string t0, .string t1, .string t2] 47)) := HI.out.1.trans ((Below.refl _ wr).alloc HI.out.1.size _)
              rw [hQ] at hQb ⊢
              generalize hW7 : wr.alloc (.cells #[.bool d, .string t0, .string t1, .string t2] 47) = W7 at *
              have HJ := Lib.hid (And.intro hQb (And.intro b7 (H10.out.1.below b7)))
              clear hQb b7 hQ hW7
              go_wp2_with (first
                | (refine wpList_load_mid rfl 41 (.tmp 71) rfl Q 1 rfl [.string t0, .string t1, .string t2] _ (mut_tup HJ.out.1) Tryz.underlying41 rfl infoTup0 ?_))
              refine (has_mem HJ.out.2.2 (t0, t1, t2) 1 (Nat.le_trans (H10.out.2.2.1.m _) (by have h1 := puts_len pl; have h2 := H6.out.2.2.2.2.2.2.2.2.1; have h3 := H6.out.2.2.2.2.2.2.2.2.2.2; have h4 := H8.out.2.2.2.2.2.2.2.2.2; omega))).mono ?_
              rintro e w11 ⟨rfl, b11⟩
              rw [HI.out.2.2.1]
              have hQ11 := (Mod.of_below b11 (fun _ => False)).old HJ.out.1 id
              have H11 := Lib.hid (And.intro hQ11 (And.intro (HJ.out.2.1.trans (b11.mono HJ.out.2.1.size)) (HJ.out.2.2.below b11)))
              clear b11 hQ11
              go_wp2_with (first
                | (refine wpList_load_mid rfl 41 (.tmp 78) rfl Q 1 rfl [.string t0, .string t1, .string t2] _ (mut_tup H11.out.1) Tryz.underlying41 rfl infoTup0 ?_))
              refine (has_mem H11.out.2.2 (t0, t1, t2) 2 (Nat.le_trans (H10.out.2.2.1.m _) (by have h1 := puts_len pl; have h2 := H6.out.2.2.2.2.2.2.2.2.1; have h3 := H6.out.2.2.2.2.2.2.2.2.2.2; have h4 := H8.out.2.2.2.2.2.2.2.2.2; omega))).mono ?_
              rintro e w12 ⟨rfl, b12⟩
              rw [HI.out.2.2.2.1]
              have hQ12 := (Mod.of_below b12 (fun _ => False)).old H11.out.1 id
              have y0 : w12.cell? ⟨Q, 0, none⟩ = some (.bool d) := cell_of hQ12 rfl
              have H12 := Lib.hid (H11.out.2.1.trans (b12.mono H11.out.2.1.size))
              clear b12 hQ12
              cases d
              all_goals
                simp only [Bool.not_true, Bool.not_false]
                go_wp2
                go_roundg (gk - 1)
                case measure => have h1 := HI.out.2.2.2.2.1; have h2 := HI.out.2.2.2.2.2; omega
                case rel => exact ⟨t + 1, by have h1 := HI.out.2.2.2.2.1; have h2 := HI.out.2.2.2.2.2; omega, by go_num, H12.out⟩
            · have hci : ¬ (t : Int) < (n8 : Int) := by omega
              have hgood := net_good2 H4.out.1 H4.out.2.1 H7.out.2.2.2.2.2.2.2.2.2.2 H7.out.2.2.2.2.2.2.2.2.2.1 H8.out.2.1.1 H8.out.2.1.2
              have hflat : (flatA (smc lm10)).length ≤ 4194304 := by
                rw [H10.out.2.1]
                have h1 := flat_applyA (rev := 2) nl (sp := applyA 1 [] (putsL pl)) (applyA_nodup _ (by simp))
                have h2 := flat_applyA (rev := 1) (putsL pl) (sp := []) (by simp)
                have h3 : (putsL pl).length = pl.length := by unfold putsL; rw [List.length_map]
                have h4 := H6.out.2.2.2.2.2.2.2.2.1
                have h5 := H6.out.2.2.2.2.2.2.2.2.2.2
                have h6 := H10.out.2.2.2.2.2.2.1
                have h7 : (flatA ([] : Sp)).length = 0 := rfl
                omega
              have hat : ∀ rows : List RowT, rows.Perm (flatA (smc lm10)) → atL rows 2 = playL b [] := fun rows p => by
                rw [H10.out.2.1] at p
                exact net_at H4.out.1 H4.out.2.1 H7.out.2.2.2.2.2.2.2.2.2.2 H7.out.2.2.2.2.2.2.2.2.2.1 H8.out.2.1.1 H8.out.2.1.2 p
              rw [← H10.out.2.1] at hgood
              have bww : Below B w wr := H10.out.2.2.2.2.1.trans (hbel.mono H10.out.2.2.2.2.2.1)
              have HL := Lib.hid (And.intro (H10.out.1.below hbel) (And.intro hgood (And.intro hflat (And.intro hat (And.intro bww (And.intro (HH.out.2.1.below (by rw [HH.out.2.2]; exact bww)) (Nat.le_trans H10.out.2.2.2.2.2.1 hbel.size)))))))
              clear htg hbel hc hgood hflat hat bww
              go_wp2_with fail
              refine (rows_mem HL.out.1 (by have := HL.out.2.2.1; omega) (fun r hr => by have := flat_bounds HL.out.2.1 r hr; omega)).mono ?_
              rintro e w13 ⟨v13, rfl, l13, p13, s13, o13, b13, _⟩
              have hl13 : l13.length ≤ 4194304 := by rw [p13.length_eq]; exact HL.out.2.2.1
              have z13 := b13.size
              have H13 := Lib.hid (And.intro (HL.out.2.2.2.1 _ p13) (And.intro o13 (And.intro hl13 (And.intro (HL.out.2.2.2.2.1.trans (b13.mono HL.out.2.2.2.2.2.2)) (And.intro (HL.out.2.2.2.2.2.1.below b13) (show B ≤ w13.heap.size by have := HL.out.2.2.2.2.2.2; omega))))))
              clear p13 s13 o13 b13 hl13 z13
              go_wp2_with fail
              refine (Watch.at_any (H13.out.2.1.read rowC_len') 2 (by have := H13.out.2.2.1; omega)).mono ?_
              rintro e w14 ⟨v14, rfl, o14, b14, _⟩
              rw [H13.out.1] at o14
              have z14 := b14.size
              have H14 := Lib.hid (And.intro o14 (And.intro (H13.out.2.2.2.1.trans (b14.mono H13.out.2.2.2.2.2)) (And.intro (H13.out.2.2.2.2.1.below b14) (show B ≤ w14.heap.size by have := H13.out.2.2.2.2.2; omega))))
              clear o14 b14 z14
              go_wp2_with fail
              refine (play_any H14.out.2.2.1.rd (readNilC _) (by have := H14.out.2.2.1.len; simp only [List.length_nil]; omega)).mono ?_
              rintro e w15 ⟨v15, rfl, o15, b15, _⟩
              have z15 := b15.size
              have H15 := Lib.hid (And.intro o15 (And.intro (own_below H14.out.1 b15) (And.intro (H14.out.2.1.trans (b15.mono H14.out.2.2.2)) (And.intro (H14.out.2.2.1.below b15) (show B ≤ w15.heap.size by have := H14.out.2.2.2; omega)))))
              clear o15 b15 z15
              go_wp2_with fail
              refine (tuples_any (H15.out.2.1.read tupC_len) (H15.out.1.read tupC_len)).mono ?_
              rintro e w16 ⟨rfl, m16⟩
              rw [decide_eq_true rfl]
              have b16 : Below w15.heap.size w15 w16 := m16.to_below (Nat.le_refl _) (fun _ h => h.elim)
              have z16 := b16.size
              have H16 := Lib.hid (And.intro (H15.out.2.2.1.trans (b16.mono H15.out.2.2.2.2)) (And.intro (H15.out.2.2.2.1.below b16) (show B ≤ w16.heap.size by have := H15.out.2.2.2.2; omega)))
              clear m16 b16 z16
              go_wp2_with fail
              refine (net_any H16.out.2.1.rd H16.out.2.1.rd (by have h1 := netU_len b b; have h3 := HH.out.2.1.len; omega)).mono ?_
              rintro e w17 ⟨v17, l17, rfl, p17, s17, o17, b17, _⟩
              have hl17 : l17 = [] := by rw [netU_same] at p17; exact List.Perm.eq_nil p17
              subst hl17
              have b17' : Below B w w17 := H16.out.1.trans (b17.mono H16.out.2.2)
              have H17 := Lib.hid b17'
              obtain ⟨ao17, n17, cap17, rfl, hn17, _⟩ := own_shape o17
              have hn170 : n17 = 0 := by rw [← hn17]; rfl
              subst hn170
              clear p17 s17 o17 b17 b17' hn17
              go_wp2
              go_ret
              exact ⟨rfl, H17.out⟩
end Go.Proofs.YtojjnfhgldjgbaaGreatDoor.Store
end
section
set_option linter.unusedVariables false
set_option linter.unusedSimpArgs false
namespace Go.Proofs.YtojjnfhgldjgbaaGreatDoor.Store
open Go.RowKit Go.Por Go.ChangeShapes Go.WideShapes Go.Proofs.YtojjnfhgldjgbaaGreatDoor.Watch
theorem nil_ok {H : Type} {enc : TypeId × Value → H} {w : World} {spare : Nat → Bool} {held : Bool} {t e : TypeId} (hu : Tryz.prog.underlying t = some (.slice e)) {v : Value} {d : DataW H} {p : List MemPlace} {ao : Option Addr} {n cap : Nat} (hv : v = .slice ao n cap)
    (h : DataW.Trod enc Tryz.prog w 0 spare held t v d p) : NilOk v := by
  subst hv
  obtain ⟨fuel, hf⟩ := h
  rcases Go.Deep.open_slice hu (show DataW.trod enc Tryz.prog w 0 spare held fuel t [.slice ao n cap] = some (d, p) from hf) with ⟨h, _⟩ | ⟨a, len, cap', m, n', D, Pl, h, _⟩
  · simp only [List.cons.injEq, and_true] at h
    exact .inl h
  · simp only [List.cons.injEq, and_true] at h
    exact .inr ⟨a, len, cap', h⟩
section
variable {H : Type} {enc : TypeId × Value → H} {w : World} {spare : Nat → Bool} {held : Bool}
set_option maxRecDepth 100000 in
theorem tups_arg {ds : List (DataW H)} (hk : Rows.uptoSmall H ds = true) {ao : Option Addr} {n cap : Nat} {d : DataW H} {p : List MemPlace} (hd : d ∈ ds)
    (h : DataW.Trod enc Tryz.prog w 0 spare held 34 (.slice ao n cap) d p) : ∃ l, TupsIs w (.slice ao n cap) l := by
  have hnil := nil_ok Tryz.underlying34 rfl h
  obtain ⟨fuel, hf⟩ := h
  obtain ⟨v, l, h1, h2, _, h4⟩ := open_SliceB (α := Tup) (c := 3) (R := fun _ cs x => cs = tupC x ∧ TupOk x) (wt := fun _ => 0) Tryz.underlying34 cellsTup (by omega)
    (fun fuel cs y h => by obtain ⟨x, hx⟩ := open_tup _ _ _ h; exact ⟨x, hx, Nat.zero_le _⟩) (show DataW.trod enc Tryz.prog w 0 spare held fuel 34 [.slice ao n cap] = some (d, p) from hf)
  simp only [List.cons.injEq, and_true] at h1
  subst h1
  have hb : Rows.uptoBulkAll ds ≤ 1048576 := of_decide_eq_true hk
  have hp := bulk_part hd
  exact ⟨l, (read_of h2).1, hnil, (read_of h2).2, by simp only at h4; omega⟩
end
theorem WatchNet.row {w : World} {va vb : Value} {a b : List Tup} (ha : TupsIs w va a) (hb : TupsIs w vb b) :
    Calls Tryz.prog 5 #[va, vb] w fun e w' => e = .returned (.bool true) ∧ Below w.heap.size w w' := net_law ha hb
end Go.Proofs.YtojjnfhgldjgbaaGreatDoor.Store
end
