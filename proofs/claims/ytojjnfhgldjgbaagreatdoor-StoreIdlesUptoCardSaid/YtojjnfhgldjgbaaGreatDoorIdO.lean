/- StoreIdles, where what came in is of bulk at most 1048576: putting what is there, and taking away what isn't, changes no: part 15 of 16: what it leans on. -/
import Derived.Test.YtojjnfhgldjgbaaGreatDoorIdA
import Derived.Test.YtojjnfhgldjgbaaGreatDoorIdB
import Derived.Test.YtojjnfhgldjgbaaGreatDoorIdC
import Derived.Test.YtojjnfhgldjgbaaGreatDoorIdD
import Derived.Test.YtojjnfhgldjgbaaGreatDoorIdE
import Derived.Test.YtojjnfhgldjgbaaGreatDoorIdF
import Derived.Test.YtojjnfhgldjgbaaGreatDoorIdG
import Derived.Test.YtojjnfhgldjgbaaGreatDoorIdH
import Derived.Test.YtojjnfhgldjgbaaGreatDoorIdI
import Derived.Test.YtojjnfhgldjgbaaGreatDoorIdJ
import Derived.Test.YtojjnfhgldjgbaaGreatDoorIdK
import Derived.Test.YtojjnfhgldjgbaaGreatDoorIdL
import Derived.Test.YtojjnfhgldjgbaaGreatDoorIdM
import Derived.Test.YtojjnfhgldjgbaaGreatDoorIdN
section
set_option linter.unusedVariables false
set_option linter.unusedSimpArgs false
namespace Go.Proofs.YtojjnfhgldjgbaaGreatDoor.Store
open Go.RowKit Go.Por Go.Sort Go.Por.Tupl Go.Proofs.YtojjnfhgldjgbaaGreatDoorW.PrintWords Go.Proofs.YtojjnfhgldjgbaaGreatDoor.PStoreIdles

theorem bt_at5 {s : ByteArray} {i : Nat} {c : UInt8} (h : s.data.toList[i]? = some c) : bt s (i : Int) = (c.toNat : Int) := by
  obtain ⟨hi, hc⟩ := List.getElem?_eq_some_iff.1 h
  have hi' : i < s.size := by simpa using hi
  unfold bt
  rw [dif_pos (by simpa using hi')]
  simp only [Int.toNat_natCast]
  rw [← hc]
  rfl
theorem wrap_i5 {i : Nat} (h : i ≤ 9223372036854775806) : wrap64 ((i : Int) + 1) = ((i + 1 : Nat) : Int) := by unfold wrap64; omega
theorem okByte_iff (c : UInt8) : okByte c = true ↔ c.toNat = 95 ∨ (48 ≤ c.toNat ∧ c.toNat ≤ 57) ∨ (97 ≤ c.toNat ∧ c.toNat ≤ 122) := by
  have h : ∀ n : Nat, n < 256 → (okByte (UInt8.ofNat n) = true ↔ n = 95 ∨ (48 ≤ n ∧ n ≤ 57) ∨ (97 ≤ n ∧ n ≤ 122)) := by decide +kernel
  have h2 := h c.toNat c.toNat_lt
  rwa [UInt8.ofNat_toNat] at h2
theorem drop_at {s : ByteArray} {i : Nat} (hi : i < s.size) : ∃ c, s.data.toList[i]? = some c ∧ s.data.toList.drop i = c :: s.data.toList.drop (i + 1) := by
  have hl : i < s.data.toList.length := by simpa using hi
  exact ⟨_, List.getElem?_eq_getElem hl, List.drop_eq_getElem_cons hl⟩
theorem name_l (s : ByteArray) (hs : s.size ≤ 9223372036854775807) : ∀ (d k i : Nat), i + d = s.size → d < k → porterref05_Name.l0 k s (i : Int) = some ((s.data.toList.drop i).all okByte)
  | 0, k + 1, i, hi, _ => by
    simp only [porterref05_Name.l0]
    rw [if_neg (by omega), List.drop_eq_nil_of_le (by simp; omega)]
    rfl
  | d + 1, k + 1, i, hi, hk => by
    obtain ⟨c, hc, hd⟩ := drop_at (s := s) (i := i) (by omega)
    have ih := name_l s hs d k (i + 1) (by omega) (by omega)
    have hcl : c.toNat < 256 := c.toNat_lt
    have hok := okByte_iff c
    simp only [porterref05_Name.l0]
    rw [if_pos (by omega), if_pos (by omega), bt_at5 hc, wrap_i5 (by omega), ih, hd, List.all_cons]
    generalize (s.data.toList.drop (i + 1)).all okByte = X
    cases hb : okByte c with
    | true =>
      rw [hb] at hok
      have := hok.1 rfl
      rw [Bool.true_and]
      repeat' split
      all_goals first | rfl | (exfalso; omega)
    | false =>
      rw [hb] at hok
      have hn : ¬ (c.toNat = 95 ∨ (48 ≤ c.toNat ∧ c.toNat ≤ 57) ∨ (97 ≤ c.toNat ∧ c.toNat ≤ 122)) := fun h => by have := hok.2 h; cases this
      rw [Bool.false_and]
      repeat' split
      all_goals first | rfl | (exfalso; omega)
theorem name_f (s : ByteArray) (hs : s.size ≤ 9223372036854775807) (k : Nat) (hk : s.size + 2 ≤ k) : porterref05_Name.f k s = some (nameL s.data.toList) := by
  obtain ⟨k, rfl⟩ : ∃ m, k = m + 1 := ⟨k - 1, by omega⟩
  have hz : s.data.toList.length = s.size := by simp
  have he : s.data.toList.isEmpty = decide (s.size = 0) := by
    rw [← hz]
    cases s.data.toList with
    | nil => rfl
    | cons a l => simp
  unfold porterref05_Name.f nameL
  rw [he, hz]
  by_cases h1 : s.size = 0
  · rw [if_pos (by omega), decide_eq_true h1]
    simp only [porterref05_Name.j0]
    rfl
  · rw [if_neg (by omega), decide_eq_false h1]
    simp only [porterref05_Name.j0]
    by_cases h2 : s.size ≤ 32
    · rw [if_neg (by simp; omega), decide_eq_true h2]
      have := name_l s hs s.size k 0 (by omega) (by omega)
      rw [List.drop_zero] at this
      rw [show (0 : Int) = ((0 : Nat) : Int) from rfl, this]
      rfl
    · rw [if_pos (by simp; omega), decide_eq_false h2]
      rfl
theorem find_l (s : ByteArray) (c : UInt8) (hs : s.size ≤ 9223372036854775807) : ∀ (d k i : Nat), i + d = s.size → d < k →
    porterref05_Find.l0 k s (c.toNat : Int) (i : Int) = some (if Lib.indexByte (s.data.toList.drop i) c < 0 then -1 else (i : Int) + Lib.indexByte (s.data.toList.drop i) c)
  | 0, k + 1, i, hi, _ => by
    simp only [porterref05_Find.l0]
    rw [if_neg (by omega), List.drop_eq_nil_of_le (by simp; omega)]
    rfl
  | d + 1, k + 1, i, hi, hk => by
    obtain ⟨b, hc, hd⟩ := drop_at (s := s) (i := i) (by omega)
    have ih := find_l s c hs d k (i + 1) (by omega) (by omega)
    have hlo := indexByte_lo (s.data.toList.drop (i + 1)) c
    simp only [porterref05_Find.l0]
    rw [if_pos (by omega), if_pos (by omega), bt_at5 hc, wrap_i5 (by omega), ih, hd]
    generalize s.data.toList.drop (i + 1) = X at hlo ⊢
    by_cases hbc : b = c
    · rw [if_pos (by rw [hbc]), hbc]
      simp [Lib.indexByte]
    · have hne : ¬ ((b.toNat : Int) = (c.toNat : Int)) := fun e => hbc (UInt8.toNat_inj.1 (by omega))
      rw [if_neg hne]
      congr 1
      conv => rhs; unfold Lib.indexByte
      rw [if_neg (show ¬ (b == c) = true by simpa using hbc)]
      generalize Lib.indexByte X c = z at hlo ⊢
      by_cases hz : z = -1
      · rw [hz]; rfl
      · rw [if_neg (show ¬ (z == -1) = true by simpa using hz), if_neg (by omega), if_neg (by omega)]
        omega
theorem find_f (s : ByteArray) (c : UInt8) (hs : s.size ≤ 9223372036854775807) (k : Nat) (hk : s.size + 1 ≤ k) : porterref05_Find.f k s (c.toNat : Int) = some (Lib.indexByte s.data.toList c) := by
  have := find_l s c hs s.size k 0 (by omega) (by omega)
  rw [List.drop_zero] at this
  unfold porterref05_Find.f
  rw [show (0 : Int) = ((0 : Nat) : Int) from rfl, this]
  have hlo := indexByte_lo s.data.toList c
  congr 1
  split <;> omega
theorem ex_take (s : ByteArray) (k : Nat) : (s.extract 0 k).data.toList = s.data.toList.take k := by rw [extract_take]
theorem ex_drop (s : ByteArray) (k : Nat) : (s.extract k s.size).data.toList = s.data.toList.drop k := by rw [extract_drop]
theorem ex_take_le (s : ByteArray) (k : Nat) : (s.extract 0 k).size ≤ s.size := by
  have h := congrArg List.length (ex_take s k)
  have e1 : (s.extract 0 k).data.toList.length = (s.extract 0 k).size := by simp
  have e2 : s.data.toList.length = s.size := by simp
  rw [e1, List.length_take, e2] at h
  omega
theorem ex_drop_le (s : ByteArray) (k : Nat) : (s.extract k s.size).size ≤ s.size := by
  have h := congrArg List.length (ex_drop s k)
  have e1 : (s.extract k s.size).data.toList.length = (s.extract k s.size).size := by simp
  have e2 : s.data.toList.length = s.size := by simp
  rw [e1, List.length_drop, e2] at h
  omega
theorem idx_lt (s : ByteArray) (c : UInt8) (h : 0 ≤ Lib.indexByte s.data.toList c) : (Lib.indexByte s.data.toList c).toNat < s.size := by
  have := indexByte_lt h
  simpa using this
theorem object_f (s : ByteArray) (hs : s.size ≤ 9223372036854775807) (k : Nat) (hk : s.size + 2 ≤ k) : ∃ a b, porterref05_Object.f k s = some (a, b, objE s.data.toList) := by
  unfold porterref05_Object.f objE
  rw [show (58 : Int) = ((58 : UInt8).toNat : Int) from rfl, find_f s 58 hs k (by omega), Option.bind_some]
  have hlo := indexByte_lo s.data.toList 58
  have hlt := idx_lt s 58
  generalize hz : Lib.indexByte s.data.toList 58 = z at hlo hlt ⊢
  by_cases h0 : z < 0
  · rw [if_pos h0, if_pos h0]
    exact ⟨_, _, rfl⟩
  · have hlt' := hlt (by omega)
    obtain ⟨n, rfl⟩ := Int.eq_ofNat_of_zero_le (show 0 ≤ z by omega)
    rw [Int.toNat_natCast] at hlt' ⊢
    have hw : wrap64 ((n : Int) + 1) = ((n + 1 : Nat) : Int) := wrap_i5 (by omega)
    rw [if_neg h0, if_neg h0, if_pos (by omega), if_pos (by omega), name_f _ (Nat.le_trans (ex_take_le s n) hs) k (by have := ex_take_le s n; omega), Option.bind_some, hw, Int.toNat_natCast,
      name_f _ (Nat.le_trans (ex_drop_le s (n + 1)) hs) k (by have := ex_drop_le s (n + 1); omega), Option.bind_some, ex_take, ex_drop]
    cases nameL (s.data.toList.take n) with
    | true =>
      cases nameL (s.data.toList.drop (n + 1)) with
      | true => exact ⟨_, _, by rw [if_pos rfl, if_pos (by omega), if_pos (by omega)]; rfl⟩
      | false => exact ⟨_, _, by rw [if_pos rfl, if_pos (by omega), if_pos (by omega)]; rfl⟩
    | false => exact ⟨_, _, rfl⟩
theorem user_f (s : ByteArray) (hs : s.size ≤ 9223372036854775807) (k : Nat) (hk : s.size + 3 ≤ k) : ∃ a b, porterref05_User.f k s = some (a, b, usrE s.data.toList) := by
  obtain ⟨k', rfl⟩ : ∃ m, k = m + 1 := ⟨k - 1, by omega⟩
  unfold porterref05_User.f usrE
  rw [show (35 : Int) = ((35 : UInt8).toNat : Int) from rfl, find_f s 35 hs (k' + 1) (by omega), Option.bind_some]
  have hlo := indexByte_lo s.data.toList 35
  have hlt := idx_lt s 35
  generalize hz : Lib.indexByte s.data.toList 35 = z at hlo hlt ⊢
  by_cases h0 : z < 0
  · rw [if_neg (by omega), if_pos h0]
    simp only [porterref05_User.j0]
    obtain ⟨a, b, e⟩ := object_f s hs k' (by omega)
    rw [e, Option.bind_some]
    by_cases he : objE s.data.toList = 0
    · exact ⟨_, _, by rw [if_pos he, if_pos h0, he]⟩
    · exact ⟨_, _, by rw [if_neg he]⟩
  · have hlt' := hlt (by omega)
    obtain ⟨n, rfl⟩ := Int.eq_ofNat_of_zero_le (show 0 ≤ z by omega)
    rw [Int.toNat_natCast] at hlt' ⊢
    have hw : wrap64 ((n : Int) + 1) = ((n + 1 : Nat) : Int) := wrap_i5 (by omega)
    rw [if_pos (by omega), if_pos (by omega), if_pos (by omega), if_neg h0]
    simp only [porterref05_User.j0]
    obtain ⟨a, b, e⟩ := object_f (s.extract 0 n) (Nat.le_trans (ex_take_le s n) hs) k' (by have := ex_take_le s n; omega)
    rw [e, Option.bind_some, ex_take]
    by_cases he : objE (s.data.toList.take n) = 0
    · rw [if_pos he, if_pos he, if_neg h0, hw, if_pos (by omega), if_pos (by omega), Int.toNat_natCast, name_f _ (Nat.le_trans (ex_drop_le s (n + 1)) hs) k' (by have := ex_drop_le s (n + 1); omega), Option.bind_some, ex_drop]
      cases nameL (s.data.toList.drop (n + 1)) with
      | true => exact ⟨_, _, by rw [if_pos rfl, if_pos rfl]⟩
      | false => exact ⟨_, _, by rw [if_neg (by decide), if_neg (by decide)]⟩
    · exact ⟨_, _, by rw [if_neg he, if_neg he]⟩
theorem drawn_below {w w2 : World} (hd : Drawn0 w w2) : Below w.heap.size w w2 := by
  obtain ⟨nd, rfl⟩ := hd
  exact pw_below_drewN (Below.refl _ _) nd
set_option maxRecDepth 100000 in
set_option maxHeartbeats 800000 in
/-- The document's check of a tuple, called. -/
theorem ref_check (t : ByteArray × ByteArray × ByteArray) (h0 : t.1.size ≤ 9223372036854775807) (h1 : t.2.1.size ≤ 9223372036854775807) (h2 : t.2.2.size ≤ 9223372036854775807) (w : World) :
    Calls Tryz.prog 23 #[.agg #[.string t.1, .string t.2.1, .string t.2.2]] w fun e w' => e = .returned (.int .i64 (tchk t)) ∧ Below w.heap.size w w' := by
  obtain ⟨t0, t1, t2⟩ := t
  have ho : ∃ a b, ∀ W : World, Calls Tryz.prog 49 #[.string t0] W fun e w' => e = .returned (.tuple #[.string a, .string b, .int .i64 (objE t0.data.toList)]) ∧ Drawn0 W w' := by
    obtain ⟨a, b, e⟩ := object_f t0 h0 _ (Nat.le_refl _)
    exact ⟨a, b, fun W => porterref05_Object.calls _ _ _ _ _ W e⟩
  have hu : ∃ a b, ∀ W : World, Calls Tryz.prog 51 #[.string t2] W fun e w' => e = .returned (.tuple #[.string a, .string b, .int .i64 (usrE t2.data.toList)]) ∧ Drawn0 W w' := by
    obtain ⟨a, b, e⟩ := user_f t2 h2 _ (Nat.le_refl _)
    exact ⟨a, b, fun W => porterref05_User.calls _ _ _ _ _ W e⟩
  have hn : ∀ W : World, Calls Tryz.prog 50 #[.string t1] W fun e w' => e = .returned (.bool (nameL t1.data.toList)) ∧ Drawn0 W w' := fun W => porterref05_Name.calls _ _ _ W (name_f t1 h1 _ (Nat.le_refl _))
  obtain ⟨oa, ob, ho⟩ := ho
  obtain ⟨ua, ub, hu⟩ := hu
  have htc : tchk (t0, t1, t2) = if objE t0.data.toList = 0 then (if nameL t1.data.toList then usrE t2.data.toList else 50) else objE t0.data.toList := rfl
  rw [htc]
  clear htc h0 h1 h2
  generalize objE t0.data.toList = x at *
  generalize usrE t2.data.toList = y at *
  generalize nameL t1.data.toList = b at *
  obtain ⟨X, hX⟩ : ∃ X, (if x = 0 then (if b = true then y else 50) else x) = X := ⟨_, rfl⟩
  rw [hX]
  have HX := Lib.hid hX
  have HH := Lib.hid (And.intro ho (And.intro hn hu))
  clear ho hn hu hX
  obtain ⟨B, hB⟩ : ∃ B, w.heap.size = B := ⟨_, rfl⟩
  rw [hB]
  go_enter Tryz.func23, Tryz.ntmps23
  go_wp2_with fail
  refine (HH.out.1 _).mono ?_
  rintro e w1 ⟨rfl, hd1⟩
  have b1 := drawn_below hd1
  have hb0 := block_new w (.cells #[.string t0, .string t1, .string t2] 41)
  have hb1 := (Mod.of_below b1 (fun _ => False)).old hb0 id
  have bw1 : Below w.heap.size w w1 := ((Below.refl _ w).alloc (Nat.le_refl _) _).trans (b1.mono (by rw [World.size_alloc]; omega))
  rw [hB] at hb1 bw1
  have hs1 : B ≤ w1.heap.size := by have := bw1.size; omega
  have c1 : w1.cell? ⟨B, 1, none⟩ = some (.string t1) := cell_of hb1 rfl
  have c2 : w1.cell? ⟨B, 2, none⟩ = some (.string t2) := cell_of hb1 rfl
  have H1 := Lib.hid (And.intro hb1 (And.intro bw1 hs1))
  clear hd1 b1 hb0 hb1 bw1 hs1 hB
  by_cases hx : x = 0
  · subst hx
    go_wp2_with fail
    refine (HH.out.2.1 _).mono ?_
    rintro e w2 ⟨rfl, hd2⟩
    have b2 := drawn_below hd2
    have hb2 := (Mod.of_below b2 (fun _ => False)).old H1.out.1 id
    have bw2 := H1.out.2.1.trans (b2.mono H1.out.2.2)
    have hs2 : B ≤ w2.heap.size := by have h1 := b2.size; have h2 := H1.out.2.2; omega
    have c2' : w2.cell? ⟨B, 2, none⟩ = some (.string t2) := cell_of hb2 rfl
    have H2 := Lib.hid (And.intro bw2 hs2)
    clear hd2 b2 hb2 bw2 hs2 c1 c2
    cases b with
    | true =>
      go_wp2_with fail
      refine (HH.out.2.2 _).mono ?_
      rintro e w3 ⟨rfl, hd3⟩
      have bw3 := H2.out.1.trans ((drawn_below hd3).mono H2.out.2)
      have H3 := Lib.hid bw3
      clear hd3 bw3 c2'
      go_wp2
      go_ret
      have e := HX.out
      simp at e
      subst e
      exact ⟨rfl, H3.out⟩
    | false =>
      go_wp2
      go_ret
      have e := HX.out
      simp at e
      subst e
      exact ⟨rfl, H2.out.1⟩
  · have hx1 : (x == 0) = false := by simpa using hx
    go_wp2
    go_ret
    have e := HX.out
    rw [if_neg hx] at e
    subst e
    exact ⟨rfl, H1.out.2.1⟩
end Go.Proofs.YtojjnfhgldjgbaaGreatDoor.Store
end
section
set_option linter.unusedVariables false
set_option linter.unusedSimpArgs false
namespace Go.Proofs.YtojjnfhgldjgbaaGreatDoor.Store
open Go.RowKit Go.Por Go.Sort Go.Proofs.YtojjnfhgldjgbaaGreatDoor.Watch Go.Por.Tupl
theorem own_len {α : Type} {f : α → List Value} {c : Nat} {w : World} {E : TypeId} {v : Value} {l : List α} (h : OwnS f c w E v l) : ∃ ao cap, v = .slice ao l.length cap := by
  rcases h.form with ⟨rfl, rfl⟩ | ⟨g, cap, rfl, _, _⟩
  · exact ⟨none, 0, rfl⟩
  · exact ⟨_, cap, rfl⟩
/-- What is known of a store of one tuple behind so many turns. -/
structure IdleIs (t : Tup) (n : Nat) (th : Bool) (z : Int) (sp : Sp) : Prop where
  good : Good sp
  only : ∀ q, q ≠ t → aget sp q = []
  last : lastOf (aget sp t) ≤ (n : Int)
  there : thereOf (aget sp t) = th
  len : z = ((aget sp t).length : Int)
  small : (aget sp t).length ≤ n
  right : 0 < n → tchk t = 0
theorem IdleIs.nil (t : Tup) : IdleIs t 0 false 0 [] := ⟨Good.nil, fun _ _ => rfl, Int.le_refl 0, rfl, rfl, Nat.le_refl _, fun h => absurd h (Nat.lt_irrefl _)⟩
theorem IdleIs.check {t : Tup} {n : Nat} {th : Bool} {z : Int} {sp : Sp} (h : IdleIs t n th z sp) (hn : n ≤ 1048576) (d : Bool) : checkA sp 0 ((n : Int) + 1) [(d, t)] = tchk t := by
  have hl := h.last
  rw [check_one_of, if_neg (by unfold maxRev; omega)]
  by_cases ht : tchk t = 0
  · rw [if_neg (by simpa using ht), if_neg (by simp only; omega), ht]
  · rw [if_pos ht]
theorem IdleIs.next {t : Tup} {n : Nat} {th : Bool} {z : Int} {sp : Sp} (h : IdleIs t n th z sp) (hn : n ≤ 1048576) (ht : tchk t = 0) (d : Bool) : IdleIs t (n + 1) (!d) (z + (if (!d && !th) = true then 1 else 0)) (applyA ((n : Int) + 1) sp [(d, t)]) := by
  have e : ∀ q, aget (applyA ((n : Int) + 1) sp [(d, t)]) q = if q = t then stepL ((n : Int) + 1) d (aget sp t) else aget sp q := fun q => aget_stepA h.good.nodup (d, t) q
  have hl := h.last
  have ht' : aget (applyA ((n : Int) + 1) sp [(d, t)]) t = stepL ((n : Int) + 1) d (aget sp t) := by rw [e, if_pos rfl]
  refine ⟨good_step h.good (by simp only; omega) (by omega) (by unfold maxRev; omega), fun q hq => by rw [e, if_neg hq]; exact h.only q hq, ?_, ?_, ?_, ?_, fun _ => ht⟩
  · rw [ht']
    have := lastOf_step (aget sp t) (rev := (n : Int) + 1) (by omega) (by omega) d
    omega
  · rw [ht']; exact there_step (by omega) d _
  · rw [ht', len_step, h.there, h.len]
    split <;> omega
  · rw [ht', len_step]
    have := h.small
    split <;> omega
theorem IdleIs.at {t : Tup} {n : Nat} {th : Bool} {z : Int} {sp : Sp} (h : IdleIs t n th z sp) : (decide (readA 0 (n : Int) = 0) && atA sp t (n : Int)) = th := by
  have e : readA 0 (n : Int) = 0 := by unfold readA; rw [if_neg (by omega), if_neg (by omega)]
  rw [decide_eq_true e, Bool.true_and]
  unfold atA
  rw [any_there (h.good.chain t) h.last, h.there]
theorem IdleIs.flat {t : Tup} {n : Nat} {th : Bool} {z : Int} {sp : Sp} (h : IdleIs t n th z sp) : ((flatA sp).length : Int) = z ∧ (flatA sp).length ≤ n := by
  rw [flat_single h.good h.only, h.len]
  exact ⟨rfl, h.small⟩
theorem IdleIs.room {t : Tup} {n : Nat} {th : Bool} {z : Int} {sp : Sp} (h : IdleIs t n th z sp) (hk : n ≤ 1048577) : ((flatA sp).length + 1) * 64 ≤ 140737488355328 ∧ ∀ r ∈ flatA sp, 0 ≤ r.2.1 ∧ r.2.1 ≤ maxRev := by
  have h1 := h.flat
  exact ⟨by omega, fun r hr => by have h2 := flat_bounds h.good r hr; omega⟩
set_option maxRecDepth 100000 in
set_option maxHeartbeats 1600000 in
theorem idles_any {w : World} (t0 t1 t2 : ByteArray) (hok : TupOk (t0, t1, t2)) {v : Value} {turns : List Bool} (hr : ReadS (fun b : Bool => [Value.bool b]) 1 w v turns) (hlen : turns.length ≤ 1048576) :
    Calls Tryz.prog 6 #[.agg #[.string t0, .string t1, .string t2], v] w fun e w' => e = .returned (.bool true) ∧ Below w.heap.size w w' := by
  obtain ⟨ao, ca, rfl, _⟩ := hr.form
  obtain ⟨n, hn⟩ : ∃ n, turns.length = n := ⟨_, rfl⟩
  obtain ⟨B, hB⟩ : ∃ B, w.heap.size = B := ⟨_, rfl⟩
  rw [hn] at hr hlen ⊢
  rw [hB]
  have HH := Lib.hid (And.intro hr (And.intro hok (And.intro hlen (And.intro hn hB))))
  have hn1 : (n : Int) ≤ 1048576 := by omega
  have hn2 : (0 : Int) ≤ (n : Int) := by omega
  clear hr hok hlen hn
  have hb0 := block_new w (.cells #[.string t0, .string t1, .string t2] 41)
  have bw0 : Below w.heap.size w (w.alloc (.cells #[.string t0, .string t1, .string t2] 41)) := (Below.refl _ w).alloc (Nat.le_refl _) _
  rw [hB] at hb0 bw0
  have H0 := Lib.hid (And.intro hb0 bw0)
  clear hb0 bw0
  go_enter Tryz.func6, Tryz.ntmps6
  go_wp2_with fail
  refine (awake_any _).mono ?_
  rintro e w1 ⟨rfl, b1⟩
  have hb1 := (Mod.of_below b1 (fun _ => False)).old H0.out.1 id
  have hs0 : (w.alloc (.cells #[.string t0, .string t1, .string t2] 41)).heap.size = B + 1 := by rw [World.size_alloc, hB]
  have bw1 := H0.out.2.trans (b1.mono (by omega))
  have hs1 : B + 1 ≤ w1.heap.size := by have := b1.size; omega
  have H1 := Lib.hid (And.intro hb1 (And.intro bw1 hs1))
  clear b1 hb1 bw1 hs1 hs0
  go_wp2_with fail
  refine (new_any _).mono ?_
  rintro e w2 ⟨s, rfl, ⟨O, U, M, MO, MU, lm, lo, lu, h2, e1, e2, e3⟩, b2⟩
  have hsh : Short 0 lm lo lu := ⟨fun k => by rw [e1]; exact Nat.le_refl _, fun k => by rw [e2]; exact Nat.le_refl _, fun k => by rw [e3]; exact Nat.le_refl _⟩
  have hb2 := (Mod.of_below b2 (fun _ => False)).old H1.out.1 id
  have z2 := b2.size
  have bw2 := H1.out.2.1.trans (b2.mono (by have := H1.out.2.2; omega))
  have rd2 : ReadS (fun b : Bool => [Value.bool b]) 1 w2 (.slice ao n ca) turns := HH.out.1.mod (by decide) (fun _ => rfl) (Mod.of_below (show Below w.heap.size w w2 by rw [hB]; exact bw2) (fun _ => False)) (fun _ _ h => h)
  have hid0 : IdleIs (t0, t1, t2) 0 false 0 (smc lm) := by rw [e1]; exact IdleIs.nil _
  have H2 := Lib.hid (And.intro h2 (And.intro hid0 (And.intro hsh (And.intro hb2 (And.intro z2 (And.intro bw2 rd2))))))
  clear h2 e1 e2 e3 hsh hb2 z2 bw2 rd2 hid0 b2
  go_wp2
  go_loopg [6, 7, 8, 9, 10, 11, 12, 18] n (fun gg v6 v7 v8 v9 v10 v11 v12 vi wx => ∃ (t : Nat) (th : Bool) (z : Int) (lmx : List (Tup × (Value × List Span))) (lox : List (PairT × (Value × List Tup))) (lux : List (ByteArray × (Value × List Tup))), t + gg = n ∧ vi = .int .i64 (t : Int) ∧ v6 = .bool th ∧ v7 = .int .i64 z ∧
    StMem wx s O U M MO MU (grew (fun b => w1.heap.size ≤ b ∧ b < w2.heap.size) w2 wx) lmx lox lux 0 ∧ IdleIs (t0, t1, t2) t th z (smc lmx) ∧ Short t lmx lox lux ∧ Mod (fun b => w1.heap.size ≤ b ∧ b < w2.heap.size) w2 wx)
  case atStart =>
    refine ⟨0, false, 0, lm, lo, lu, by omega, rfl, rfl, rfl, H2.out.1.weaken (fun b hb => .inl hb) (fun b hb => ?_), H2.out.2.1, H2.out.2.2.1, Mod.refl _ _⟩
    rcases hb with hb | hb <;> omega
  case round =>
    obtain ⟨t, th, z, lmx, lox, lux, htg, rfl, rfl, rfl, hSx, hid, hsh, hmod⟩ := hrel
    by_cases hc : t < n
    · have hci : (t : Int) < (n : Int) := by omega
      have ht0 : (0 : Int) ≤ (t : Int) := by omega
      have htb : (t : Int) ≤ 1048576 := by omega
      have htn : t ≤ 1048576 := by omega
      obtain ⟨d, hx⟩ : ∃ x, turns[t]? = some x := ⟨_, List.getElem?_eq_getElem (by rw [HH.out.2.2.2.1]; exact hc)⟩
      have hne : turns ≠ [] := List.ne_nil_of_mem (List.mem_of_getElem? hx)
      have hrd := H2.out.2.2.2.2.2.2.mod (by decide) (fun _ => rfl) hmod (fun k hk e => by
        obtain ⟨b, o, e2, _, hlt⟩ := HH.out.1.lt (by decide) (fun _ => rfl) hx
        rw [e2] at hk
        simp only [Value.ownBlock, Option.some.injEq] at hk
        have h1 := H1.out.2.2
        omega)
      obtain ⟨b2, o2, rfl, r2, lt2⟩ := hrd.lt (by decide) (fun _ => rfl) hx
      have c2 : wr.cell? ⟨b2, o2 + t, none⟩ = some (.bool d) := by have := r2 0 _ rfl; rwa [Nat.mul_one, Nat.add_zero] at this
      have hT := hmod.old H2.out.2.2.2.1 (fun e => by have h1 := H1.out.2.2; omega)
      have hz0 : 0 ≤ z := by rw [hid.len]; omega
      have hz1 : z ≤ 1048576 := by rw [hid.len]; have := hid.small; omega
      have hck := hid.check htn d
      have HE := Lib.hid (And.intro htg (And.intro hSx (And.intro hid (And.intro hsh (And.intro hmod (And.intro hc (And.intro hT (And.intro hck htn))))))))
      clear htg hSx hid hsh hmod hc hx hne hrd r2 lt2 hT hck htn
      go_wp2_with (first
        | (refine wpList_load_mid rfl 41 (.tmp 2) rfl B 0 rfl [.string t0, .string t1, .string t2] _ (row_range HE.out.2.2.2.2.2.2.1) Tryz.underlying41 rfl infoTup0 ?_))
      clear c2
      refine (apply_one HE.out.2.1 HE.out.2.2.2.1 (by have := HE.out.2.2.2.2.2.2.2.2; omega) (d, t0, t1, t2) HH.out.2.1 _).mono ?_
      rintro e w5 ⟨rfl, lm5, lo5, lu5, h5, p5, s5, m5⟩
      rw [HE.out.2.2.2.2.2.2.2.1] at p5 ⊢
      have hT5 := m5.old HE.out.2.2.2.2.2.2.1 (fun hF => by
        have h1 := H1.out.2.2
        have h2 := H2.out.2.2.2.2.1
        rcases hF with hF | hF <;> omega)
      have HF := Lib.hid (And.intro h5 (And.intro p5 (And.intro s5 (And.intro m5 hT5))))
      clear h5 p5 s5 m5 hT5
      obtain ⟨q, hq⟩ : ∃ q, tchk (t0, t1, t2) = q := ⟨_, rfl⟩
      rw [hq]
      go_wp2_with (first
        | (refine wpList_load_mid rfl 41 (.tmp 2) rfl B 0 rfl [.string t0, .string t1, .string t2] _ (row_range HF.out.2.2.2.2) Tryz.underlying41 rfl infoTup0 ?_))
      refine (ref_check (t0, t1, t2) HH.out.2.1.1 HH.out.2.1.2.1 HH.out.2.1.2.2 _).mono ?_
      rintro e w6 ⟨rfl, b6⟩
      rw [hq]
      have hS6 := HF.out.1.below b6
      have hT6 := (Mod.of_below b6 (fun _ => False)).old HF.out.2.2.2.2 id
      have H6 := Lib.hid (And.intro hS6 (And.intro hT6 (And.intro b6 hq)))
      clear hS6 hT6 b6 hq
      by_cases hq0 : q = 0
      · subst hq0
        have ht : tchk (t0, t1, t2) = 0 := H6.out.2.2.2
        have p5 := HF.out.2.1
        rw [if_pos ht] at p5
        have e5 : smc lm5 = applyA ((t : Int) + 1) (smc lmx) [(d, t0, t1, t2)] := by rw [show smc lm5 = (apply3 ((t : Int) + 1) (smc lmx, smc lox, smc lux) [(d, t0, t1, t2)]).1 from congrArg (fun x : St3 => x.1) p5, apply3_fst]
        have hid5 := HE.out.2.2.1.next HE.out.2.2.2.2.2.2.2.2 ht d
        rw [← e5] at hid5
        obtain ⟨z', hz'⟩ : ∃ z', z + (if (!d && !th) = true then 1 else 0) = z' := ⟨_, rfl⟩
        rw [hz'] at hid5
        have hat := hid5.at
        rw [show ((t + 1 : Nat) : Int) = (t : Int) + 1 by omega] at hat
        have hfl := hid5.flat
        have H7 := Lib.hid (And.intro hid5 (And.intro hz' (And.intro hat (And.intro hfl (hid5.room (by have := HE.out.2.2.2.2.2.2.2.2; omega))))))
        clear ht p5 e5 hid5 hz' hat hfl
        cases d <;> cases th
        all_goals
          go_wp2_with (first
            | (refine wpList_load_mid rfl 41 (.tmp 2) rfl B 0 rfl [.string t0, .string t1, .string t2] _ (row_range H6.out.2.1) Tryz.underlying41 rfl infoTup0 ?_))
          refine (has_mem H6.out.1 (t0, t1, t2) ((t : Int) + 1) (by have h1 := H7.out.1.small; have h2 := HE.out.2.2.2.2.2.2.2.2; omega)).mono ?_
          rintro e w7 ⟨rfl, b7⟩
          rw [H7.out.2.2.1]
          have HS7 := Lib.hid (And.intro (H6.out.1.below b7) b7)
          clear b7
          go_wp2_with fail
          refine (rows_mem HS7.out.1 H7.out.2.2.2.2.1 H7.out.2.2.2.2.2).mono ?_
          rintro e w8 ⟨v8, rfl, l8, p8, s8, o8, b8, n8⟩
          obtain ⟨ao8, cap8, rfl⟩ := own_len o8
          have hl8 : (l8.length : Int) = z' := by rw [p8.length_eq]; exact H7.out.2.2.2.1.1
          have hzz := H7.out.2.1
          simp only [Bool.not_true, Bool.not_false, Bool.and_self, Bool.and_true, Bool.and_false, Bool.true_and, Bool.false_and, if_true, if_false, Bool.false_eq_true, Int.add_zero] at hzz
          have hb1 : ((l8.length : Int) != z + 1) = decide (z' ≠ z + 1) := by rw [hl8, Bool.eq_iff_iff, bne_iff_ne, decide_eq_true_iff]
          have hb2 : ((l8.length : Int) != z) = decide (z' ≠ z) := by rw [hl8, Bool.eq_iff_iff, bne_iff_ne, decide_eq_true_iff]
          first
            | (rw [decide_eq_false (by omega)] at hb1; clear hb2)
            | (rw [decide_eq_false (by omega)] at hb2; clear hb1)
          have HS8 := Lib.hid (And.intro (HS7.out.1.below b8) (And.intro b8 hzz))
          clear p8 s8 o8 b8 n8 hl8 hzz
          go_wp2
          go_roundg (gk - 1)
          case measure => have h1 := HE.out.1; have h2 := HE.out.2.2.2.2.2.1; omega
          case rel =>
            obtain ⟨e1, e2, e3, e4, e5, e6, e7, e8, e9⟩ := HE.out
            obtain ⟨f1, f2, f3, f4, f5⟩ := HF.out
            obtain ⟨g1, g2, g3, g4⟩ := H6.out
            have k1 := e5.size
            have k2 := f4.size
            have k3 := g3.size
            have k4 := HS7.out.2.size
            have k5 := HS8.out.2.1.size
            have hid6 := H7.out.1
            rw [← HS8.out.2.2] at hid6
            refine ⟨t + 1, _, _, lm5, lo5, lu5, by omega, by go_num, rfl, rfl, HS8.out.1.weaken (fun b hb => ?_) (fun b hb => ?_), hid6, f3, ?_⟩
            · rcases hb with (hb | hb) | hb
              · exact .inl hb
              · exact .inr ⟨hb.1, by omega⟩
              · exact .inr ⟨by omega, by omega⟩
            · have h2 := H2.out.2.2.2.2.1
              rcases hb with hb | hb <;> omega
            · refine (((e5.trans f4 (fun b hb => ?_)).trans' (Mod.of_below g3 _)).trans' (Mod.of_below HS7.out.2 _)).trans' (Mod.of_below HS8.out.2.1 _)
              rcases hb with hb | hb
              · exact .inl hb
              · exact .inr hb.1
      · have ht0 : t = 0 := by
          apply Classical.byContradiction
          intro k
          exact hq0 (by rw [← H6.out.2.2.2]; exact HE.out.2.2.1.right (by omega))
        have p5 := HF.out.2.1
        rw [if_neg (by rw [H6.out.2.2.2]; exact hq0)] at p5
        have e5 : smc lm5 = smc lmx := congrArg (fun x : St3 => x.1) p5
        have hid5 := HE.out.2.2.1
        rw [← e5] at hid5
        have hfl := hid5.flat
        have hqb : (q != 0) = true := by simp [bne, hq0]
        have hqc : (q == 0) = false := by simp [hq0]
        have H7 := Lib.hid (And.intro hfl (And.intro (hid5.room (by omega)) ht0))
        clear p5 e5 hid5 hfl
        go_wp2_with fail
        refine (rows_mem H6.out.1 H7.out.2.1.1 H7.out.2.1.2).mono ?_
        rintro e w8 ⟨v8, rfl, l8, p8, s8, o8, b8, n8⟩
        obtain ⟨ao8, cap8, rfl⟩ := own_len o8
        have hl8 : l8.length = 0 := by rw [p8.length_eq]; have h1 := H7.out.1.2; have h2 := H7.out.2.2; omega
        rw [hl8]
        have HS8 := Lib.hid b8
        clear p8 s8 o8 b8 n8 hl8
        go_wp2
        go_ret
        obtain ⟨e1, e2, e3, e4, e5, e6, e7, e8, e9⟩ := HE.out
        obtain ⟨f1, f2, f3, f4, f5⟩ := HF.out
        obtain ⟨g1, g2, g3, g4⟩ := H6.out
        have k0 := H1.out.2.2
        have k1 := e5.size
        have k2 := f4.size
        have k3 := g3.size
        have k4 := H2.out.2.2.2.2.1
        refine ⟨rfl, ?_⟩
        have d1 := H2.out.2.2.2.2.2.1.trans (e5.to_below (by omega) (fun b hb => by omega))
        have d2 := d1.trans (f4.to_below (by omega) (fun b hb => by rcases hb with hb | hb <;> omega))
        exact (d2.trans (g3.mono (by omega))).trans (HS8.out.mono (by omega))
    · have hci : ¬ (t : Int) < (n : Int) := by omega
      have HE := Lib.hid hmod
      clear htg hSx hid hsh hmod hc
      go_wp2
      go_ret
      have k0 := H1.out.2.2
      have k4 := H2.out.2.2.2.2.1
      exact ⟨rfl, H2.out.2.2.2.2.2.1.trans (HE.out.to_below (by omega) (fun b hb => by omega))⟩
end Go.Proofs.YtojjnfhgldjgbaaGreatDoor.Store
end
section
set_option linter.unusedVariables false
set_option linter.unusedSimpArgs false
namespace Go.Proofs.YtojjnfhgldjgbaaGreatDoor.Store
open Go.RowKit Go.Por Go.ChangeShapes Go.WideShapes Go.Proofs.YtojjnfhgldjgbaaGreatDoor.Watch
section
variable {H : Type} {enc : TypeId × Value → H} {w : World} {spare : Nat → Bool} {held : Bool}
set_option maxRecDepth 100000 in
theorem open_tupA {b0 : Nat} {r : Reach} {v : Value} {d : DataW H} {p : List MemPlace} (hv : Value.okWide Tryz.prog w r b0 41 v) (h : DataW.Trod enc Tryz.prog w 0 spare held 41 v d p) :
    ∃ x : Tup, v = .agg #[.string x.1, .string x.2.1, .string x.2.2] ∧ TupOk x := by
  obtain ⟨cs, rfl, _⟩ := okWide_struct Tryz.underlying41 hv
  obtain ⟨fuel, hf⟩ := h
  obtain ⟨x, hx, hl⟩ := open_tup _ _ _ (show DataW.trod enc Tryz.prog w 0 spare held fuel 41 cs.toList = some (d, p) from hf)
  exact ⟨x, by rw [show cs = (tupC x).toArray from Array.toList_inj.1 hx]; rfl, hl⟩
set_option maxRecDepth 100000 in
theorem bools_arg {ds : List (DataW H)} (hk : Rows.uptoSmall H ds = true) {ao : Option Addr} {n cap : Nat} {d : DataW H} {p : List MemPlace} (hd : d ∈ ds)
    (h : DataW.Trod enc Tryz.prog w 0 spare held 54 (.slice ao n cap) d p) : ∃ l, ReadS (fun b : Bool => [Value.bool b]) 1 w (.slice ao n cap) l ∧ l.length ≤ 1048576 := by
  obtain ⟨fuel, hf⟩ := h
  obtain ⟨v, l, h1, h2, _, h4⟩ := open_SliceB (α := Bool) (c := 1) (R := fun _ cs x => cs = [.bool x] ∧ True) (wt := fun _ => 0) Tryz.underlying54 cellsBool (by omega)
    (fun fuel cs y h => by obtain ⟨x, hx, _⟩ := DataW.trod_bool Tryz.underlying4 h; exact ⟨x, ⟨hx, trivial⟩, Nat.zero_le _⟩) (show DataW.trod enc Tryz.prog w 0 spare held fuel 54 [.slice ao n cap] = some (d, p) from hf)
  simp only [List.cons.injEq, and_true] at h1
  subst h1
  have hb : Rows.uptoBulkAll ds ≤ 1048576 := of_decide_eq_true hk
  have hp := bulk_part hd
  exact ⟨l, (read_of h2).1, by simp only at h4; omega⟩
end
theorem StoreIdles.row (t : Tup) (hok : TupOk t) {w : World} {v : Value} {turns : List Bool} (h : ReadS (fun b : Bool => [Value.bool b]) 1 w v turns ∧ turns.length ≤ 1048576) :
    Calls Tryz.prog 6 #[.agg #[.string t.1, .string t.2.1, .string t.2.2], v] w fun e w' => e = .returned (.bool true) ∧ Below w.heap.size w w' := by
  obtain ⟨t0, t1, t2⟩ := t
  exact idles_any t0 t1 t2 hok h.1 h.2
end Go.Proofs.YtojjnfhgldjgbaaGreatDoor.Store
end
