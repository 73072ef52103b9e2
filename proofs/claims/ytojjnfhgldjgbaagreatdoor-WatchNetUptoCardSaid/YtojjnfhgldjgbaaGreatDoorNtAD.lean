/- WatchNet, where what came in is of bulk at most 1048576: what leads from some tuples to others does so in a store, and n: part 30 of 32: what it leans on. -/
import Derived.Test.YtojjnfhgldjgbaaGreatDoorNtAB
import Derived.Test.YtojjnfhgldjgbaaGreatDoorNtAC
section
namespace Go.Proofs.YtojjnfhgldjgbaaGreatDoor.PStoreIdles
open Go.RowKit Go.Proofs.YtojjnfhgldjgbaaGreatDoorW.PrintWords Go.Proofs.YtojjnfhgldjgbaaGreatDoorW.PrintLast Go.Proofs.YtojjnfhgldjgbaaGreatDoorW.PrintMore
attribute [local go_sem] max2_int min2_int max_two min_two max_three min_three max_four min_four   -- for this text's walks alone
set_option linter.unusedVariables false
set_option linter.unusedSimpArgs false

/-! ### porterref05_User: function 51 -/
def porterref05_User.j0 : Nat → ByteArray → Int → ByteArray → Option (ByteArray × ByteArray × Int)
  | 0, _, _, _ => none
  | k + 1, x0, x5, x6 => (porterref05_Object.f k x6).bind fun bt105 => (if bt105.2.2 = 0 then (if x5 < 0 then (some (x6, (⟨#[]⟩ : ByteArray), 0)) else (if 0 ≤ (wrap64 (x5 + 1)) then (if (wrap64 (x5 + 1)) ≤ (x0.size : Int) then ((porterref05_Name.f k (x0.extract ((wrap64 (x5 + 1)) : Int).toNat x0.size)).bind fun t108 => (if t108 = true then (some (x6, x0.extract ((wrap64 (x5 + 1)) : Int).toNat x0.size, 0)) else (some ((⟨#[]⟩ : ByteArray), (⟨#[]⟩ : ByteArray), 50)))) else (none)) else (none))) else (some ((⟨#[]⟩ : ByteArray), (⟨#[]⟩ : ByteArray), bt105.2.2)))
def porterref05_User.f (k : Nat) (a0 : ByteArray) : Option (ByteArray × ByteArray × Int) := (porterref05_Find.f k a0 35).bind fun t104 => (if t104 ≥ 0 then (if 0 ≤ t104 then (if t104 ≤ (a0.size : Int) then (porterref05_User.j0 k a0 t104 (a0.extract 0 (t104 : Int).toNat)) else (none)) else (none)) else (porterref05_User.j0 k a0 t104 a0))
theorem porterref05_User.mono_l : ∀ k, (∀ y0 y1 y2, LeO (porterref05_User.j0 k y0 y1 y2) (porterref05_User.j0 (k + 1) y0 y1 y2))
  | 0 => fun _ _ _ r h => by simp [porterref05_User.j0] at h
  | k + 1 => by
    have ih0 := porterref05_User.mono_l k
    · intro y0 y1 y2
      unfold porterref05_User.j0
      repeat' first
      | (with_reducible exact ih0 _ _ _)
      | (with_reducible exact porterref05_Find.mono _ _ _)
      | (with_reducible exact porterref05_Name.mono _ _)
      | (with_reducible exact porterref05_Object.mono _ _)
      | (with_reducible exact LeO.refl _)
      | (with_reducible exact LeO.none _)
      | (with_reducible refine LeO.ite ?_ ?_)
      | (with_reducible refine LeO.bind ?_ (fun _ => ?_))
      | exact ih0 _ _ _
      | exact porterref05_Find.mono _ _ _
      | exact porterref05_Name.mono _ _
      | exact porterref05_Object.mono _ _
      | exact LeO.none _
      | refine LeO.ite ?_ ?_
      | refine LeO.bind ?_ (fun _ => ?_)
theorem porterref05_User.mono : ∀ a0 k, LeO (porterref05_User.f k a0) (porterref05_User.f (k + 1) a0) := by
  intro a0 k
  have ih0 := porterref05_User.mono_l k
  unfold porterref05_User.f
  repeat' first
      | (with_reducible exact ih0 _ _ _)
      | (with_reducible exact porterref05_Find.mono _ _ _)
      | (with_reducible exact porterref05_Name.mono _ _)
      | (with_reducible exact porterref05_Object.mono _ _)
      | (with_reducible exact LeO.refl _)
      | (with_reducible exact LeO.none _)
      | (with_reducible refine LeO.ite ?_ ?_)
      | (with_reducible refine LeO.bind ?_ (fun _ => ?_))
      | exact ih0 _ _ _
      | exact porterref05_Find.mono _ _ _
      | exact porterref05_Name.mono _ _
      | exact porterref05_Object.mono _ _
      | exact LeO.none _
      | refine LeO.ite ?_ ?_
      | refine LeO.bind ?_ (fun _ => ?_)
set_option maxHeartbeats 8000000 in
set_option maxRecDepth 100000 in
theorem porterref05_User.calls (k : Nat) (a0 : ByteArray) (r1 : ByteArray) (r2 : ByteArray) (r3 : Int) (w : World) (h : porterref05_User.f k a0 = some (r1, r2, r3)) :
    Calls Tryz.prog 51 #[.string a0] w fun e w' => e = .returned (.tuple #[.string r1, .string r2, .int .i64 r3]) ∧ Drawn0 w w' := by
  have H : ((porterref05_Find.f k a0 35).bind fun t104 => (if t104 ≥ 0 then (if 0 ≤ t104 then (if t104 ≤ (a0.size : Int) then (porterref05_User.j0 k a0 t104 (a0.extract 0 (t104 : Int).toNat)) else (none)) else (none)) else (porterref05_User.j0 k a0 t104 a0))) = some (r1, r2, r3) := h
  clear h
  replace H := Option.bind_eq_some_iff.mp H
  obtain ⟨t104, A20, H⟩ := H
  replace H : (if t104 ≥ 0 then (if 0 ≤ t104 then (if t104 ≤ (a0.size : Int) then (porterref05_User.j0 k a0 t104 (a0.extract 0 (t104 : Int).toNat)) else (none)) else (none)) else (porterref05_User.j0 k a0 t104 a0)) = some (r1, r2, r3) := H
  have A2 := Aside0.mk A20
  clear A20
  have HC3 := Aside0.mk H
  clear H
  go_enter Tryz.func51, Tryz.ntmps51
  go_upto_if 14 with (first | (go_at_call 84; (with_reducible refine (porterref05_Find.calls k a0 35 t104 _ A2.out).mono ?_); rintro e w' ⟨rfl, ⟨nd, rfl⟩⟩; (try first | exact ⟨rfl, _, World.drewN_drewN _ _ _⟩ | exact ⟨rfl, _, Eq.trans (World.drewN_drewN _ _ _) (congrArg (World.drewN _) (Nat.add_assoc _ _ _))⟩)))
  repeat (go_quiet (first | (go_at_call 84; (with_reducible refine (porterref05_Find.calls k a0 35 t104 _ A2.out).mono ?_); rintro e w' ⟨rfl, ⟨nd, rfl⟩⟩; (try first | exact ⟨rfl, _, World.drewN_drewN _ _ _⟩ | exact ⟨rfl, _, Eq.trans (World.drewN_drewN _ _ _) (congrArg (World.drewN _) (Nat.add_assoc _ _ _))⟩))); go_upto_if 14 with (first | (go_at_call 84; (with_reducible refine (porterref05_Find.calls k a0 35 t104 _ A2.out).mono ?_); rintro e w' ⟨rfl, ⟨nd, rfl⟩⟩; (try first | exact ⟨rfl, _, World.drewN_drewN _ _ _⟩ | exact ⟨rfl, _, Eq.trans (World.drewN_drewN _ _ _) (congrArg (World.drewN _) (Nat.add_assoc _ _ _))⟩))))
  (try simp only [Act.put, List.setIfInBounds_toArray, List.set_cons_zero, List.set_cons_succ])
  go_cut [6] (fun v6 wc => ∃ (kq : Nat) (x6_2 : ByteArray), v6 = .string x6_2 ∧ Aside0 (porterref05_User.j0 kq a0 t104 x6_2 = some (r1, r2, r3)) ∧ Aside0 (kq ≤ k) ∧ Drawn0 w wc)
  case first =>
    have H := HC3.out
    clear HC3
    by_cases c4 : t104 ≥ 0
    · rw [if_pos c4] at H
      have c4b0 : decide (0 ≤ t104) = true := decide_eq_true c4
      clear c4
      (first | rw [c4b0] | (simp only [i64_w, i32_w]; rw [c4b0]) | skip)
      by_cases c5 : 0 ≤ t104
      · rw [if_pos c5] at H
        have c5b0 := eq_true c5
        have c5b1 : decide (0 ≤ t104) = true := decide_eq_true c5
        clear c5
        by_cases c6 : t104 ≤ (a0.size : Int)
        · rw [if_pos c6] at H
          have c6b0 := eq_true c6
          have c6b1 : decide (t104 ≤ (a0.size : Int)) = true := decide_eq_true c6
          clear c6
          have H' := Aside0.mk H
          clear H
          go_wp2
          repeat (go_quiet (fail); try go_wp2)
          go_meet
          case rel => exact ⟨_, (a0.extract 0 (t104 : Int).toNat), (by first | rfl | (simp; done) | (simp [*]; done)), H', ⟨by first | omega | exact Nat.le_refl _⟩, by repeat (first | exact Drawn0.refl _ | apply Drawn0.step)⟩
        · rw [if_neg c6] at H
          exact absurd H (by simp)
      · rw [if_neg c5] at H
        exact absurd H (by simp)
    · rw [if_neg c4] at H
      have c4b0 : decide (0 ≤ t104) = false := decide_eq_false c4
      clear c4
      (first | rw [c4b0] | (simp only [i64_w, i32_w]; rw [c4b0]) | skip)
      have H' := Aside0.mk H
      clear H
      go_wp2
      repeat (go_quiet (fail); try go_wp2)
      go_meet
      case rel => exact ⟨_, (a0), (by first | rfl | (simp; done) | (simp [*]; done)), H', ⟨by first | omega | exact Nat.le_refl _⟩, by repeat (first | exact Drawn0.refl _ | apply Drawn0.step)⟩
  case rest =>
    clear HC3
    try clear p2
    try clear c4
    try clear c4b0
    try clear c5
    try clear c5b0
    try clear c5b1
    try clear c6
    try clear c6b0
    try clear c6b1
    obtain ⟨kq, x6_2, rfl, HA, HJ2, ⟨mc2, rfl⟩⟩ := hcut
    cases kq with
    | zero => exact absurd HA.out (by simp [porterref05_User.j0])
    | succ kj2 =>
      have H := HA.out
      clear HA
      simp only [porterref05_User.j0] at H
      replace H := Option.bind_eq_some_iff.mp H
      obtain ⟨⟨t105, t106, t107⟩, A70, H⟩ := H
      replace H : (if t107 = 0 then (if t104 < 0 then (some (x6_2, (⟨#[]⟩ : ByteArray), 0)) else (if 0 ≤ (wrap64 (t104 + 1)) then (if (wrap64 (t104 + 1)) ≤ (a0.size : Int) then ((porterref05_Name.f kj2 (a0.extract ((wrap64 (t104 + 1)) : Int).toNat a0.size)).bind fun t108 => (if t108 = true then (some (x6_2, a0.extract ((wrap64 (t104 + 1)) : Int).toNat a0.size, 0)) else (some ((⟨#[]⟩ : ByteArray), (⟨#[]⟩ : ByteArray), 50)))) else (none)) else (none))) else (some ((⟨#[]⟩ : ByteArray), (⟨#[]⟩ : ByteArray), t107))) = some (r1, r2, r3) := H
      have A7 := Aside0.mk A70
      clear A70
      by_cases c8 : t107 = 0
      · rw [if_pos c8] at H
        have c8b0 : (t107 == 0) = true := beq_iff_eq.mpr c8
        have c8b1 : (t107 != 0) = false := bne_eq_false_iff_eq.mpr c8
        clear c8
        by_cases c9 : t104 < 0
        · rw [if_pos c9] at H
          have c9b0 : decide (t104 < 0) = true := decide_eq_true c9
          clear c9
          simp only [Option.some.injEq, Prod.mk.injEq] at H
          obtain ⟨rfl, rfl, rfl⟩ := H
          go_wp2_with (first | (go_at_call 49; (with_reducible refine (porterref05_Object.calls kj2 x6_2 t105 t106 t107 _ A7.out).mono ?_); rintro e w' ⟨rfl, ⟨nd, rfl⟩⟩; (try first | exact ⟨rfl, _, World.drewN_drewN _ _ _⟩ | exact ⟨rfl, _, Eq.trans (World.drewN_drewN _ _ _) (congrArg (World.drewN _) (Nat.add_assoc _ _ _))⟩)))
          repeat (go_quiet (first | (go_at_call 49; (with_reducible refine (porterref05_Object.calls kj2 x6_2 t105 t106 t107 _ A7.out).mono ?_); rintro e w' ⟨rfl, ⟨nd, rfl⟩⟩; (try first | exact ⟨rfl, _, World.drewN_drewN _ _ _⟩ | exact ⟨rfl, _, Eq.trans (World.drewN_drewN _ _ _) (congrArg (World.drewN _) (Nat.add_assoc _ _ _))⟩))); try go_wp2_with (first | (go_at_call 49; (with_reducible refine (porterref05_Object.calls kj2 x6_2 t105 t106 t107 _ A7.out).mono ?_); rintro e w' ⟨rfl, ⟨nd, rfl⟩⟩; (try first | exact ⟨rfl, _, World.drewN_drewN _ _ _⟩ | exact ⟨rfl, _, Eq.trans (World.drewN_drewN _ _ _) (congrArg (World.drewN _) (Nat.add_assoc _ _ _))⟩))))
          go_ret3
          exact ⟨by first | rfl | (simp; done) | (simp [*]; done), by repeat (first | exact Drawn0.refl _ | apply Drawn0.step)⟩
        · rw [if_neg c9] at H
          have c9b0 : decide (t104 < 0) = false := decide_eq_false c9
          clear c9
          obtain ⟨ji10, hji10⟩ : ∃ j_ : Int, (wrap64 (t104 + 1)) = j_ := ⟨_, rfl⟩
          replace H : (if 0 ≤ (ji10) then (if (ji10) ≤ (a0.size : Int) then ((porterref05_Name.f kj2 (a0.extract ((ji10) : Int).toNat a0.size)).bind fun t108 => (if t108 = true then (some (x6_2, a0.extract ((ji10) : Int).toNat a0.size, 0)) else (some ((⟨#[]⟩ : ByteArray), (⟨#[]⟩ : ByteArray), 50)))) else (none)) else (none)) = some (r1, r2, r3) := by first | (rw [hji10] at H; exact H) | (simp only [hji10] at H ⊢; exact H)
          (try rw [hji10] at A7)
          have hji10w : (IntKind.i64.wrap (t104 + 1)) = ji10 := (i64_w _).trans hji10
          by_cases c11 : 0 ≤ (ji10)
          · rw [if_pos c11] at H
            have c11b0 := eq_true c11
            have c11b1 : decide (0 ≤ (ji10)) = true := decide_eq_true c11
            clear c11
            by_cases c12 : (ji10) ≤ (a0.size : Int)
            · rw [if_pos c12] at H
              have c12b0 := eq_true c12
              have c12b1 : decide ((ji10) ≤ (a0.size : Int)) = true := decide_eq_true c12
              clear c12
              replace H := Option.bind_eq_some_iff.mp H
              obtain ⟨t108, A130, H⟩ := H
              replace H : (if t108 = true then (some (x6_2, a0.extract ((ji10) : Int).toNat a0.size, 0)) else (some ((⟨#[]⟩ : ByteArray), (⟨#[]⟩ : ByteArray), 50))) = some (r1, r2, r3) := H
              have A13 := Aside0.mk A130
              clear A130
              by_cases c14 : t108 = true
              · subst c14
                have H1 : (some (x6_2, a0.extract ((ji10) : Int).toNat a0.size, 0)) = some (r1, r2, r3) := by rw [if_pos rfl] at H; exact H
                clear H
                have H := H1
                clear H1
                have c15b0 := eq_true (of_decide_eq_true (by first | (with_reducible assumption) | assumption) : 0 ≤ (ji10))
                have c16b0 := eq_true (of_decide_eq_true (by first | (with_reducible assumption) | assumption) : (ji10) ≤ (a0.size : Int))
                simp only [Option.some.injEq, Prod.mk.injEq] at H
                obtain ⟨rfl, rfl, rfl⟩ := H
                go_wp2_with (first | (go_at_call 49; (with_reducible refine (porterref05_Object.calls kj2 x6_2 t105 t106 t107 _ A7.out).mono ?_); rintro e w' ⟨rfl, ⟨nd, rfl⟩⟩; (try first | exact ⟨rfl, _, World.drewN_drewN _ _ _⟩ | exact ⟨rfl, _, Eq.trans (World.drewN_drewN _ _ _) (congrArg (World.drewN _) (Nat.add_assoc _ _ _))⟩)) | (go_at_call 50; (with_reducible refine (porterref05_Name.calls kj2 (a0.extract ((ji10) : Int).toNat a0.size) true _ A13.out).mono ?_); rintro e w' ⟨rfl, ⟨nd, rfl⟩⟩; (try first | exact ⟨rfl, _, World.drewN_drewN _ _ _⟩ | exact ⟨rfl, _, Eq.trans (World.drewN_drewN _ _ _) (congrArg (World.drewN _) (Nat.add_assoc _ _ _))⟩)))
                repeat (go_quiet (first | (go_at_call 49; (with_reducible refine (porterref05_Object.calls kj2 x6_2 t105 t106 t107 _ A7.out).mono ?_); rintro e w' ⟨rfl, ⟨nd, rfl⟩⟩; (try first | exact ⟨rfl, _, World.drewN_drewN _ _ _⟩ | exact ⟨rfl, _, Eq.trans (World.drewN_drewN _ _ _) (congrArg (World.drewN _) (Nat.add_assoc _ _ _))⟩)) | (go_at_call 50; (with_reducible refine (porterref05_Name.calls kj2 (a0.extract ((ji10) : Int).toNat a0.size) true _ A13.out).mono ?_); rintro e w' ⟨rfl, ⟨nd, rfl⟩⟩; (try first | exact ⟨rfl, _, World.drewN_drewN _ _ _⟩ | exact ⟨rfl, _, Eq.trans (World.drewN_drewN _ _ _) (congrArg (World.drewN _) (Nat.add_assoc _ _ _))⟩))); try go_wp2_with (first | (go_at_call 49; (with_reducible refine (porterref05_Object.calls kj2 x6_2 t105 t106 t107 _ A7.out).mono ?_); rintro e w' ⟨rfl, ⟨nd, rfl⟩⟩; (try first | exact ⟨rfl, _, World.drewN_drewN _ _ _⟩ | exact ⟨rfl, _, Eq.trans (World.drewN_drewN _ _ _) (congrArg (World.drewN _) (Nat.add_assoc _ _ _))⟩)) | (go_at_call 50; (with_reducible refine (porterref05_Name.calls kj2 (a0.extract ((ji10) : Int).toNat a0.size) true _ A13.out).mono ?_); rintro e w' ⟨rfl, ⟨nd, rfl⟩⟩; (try first | exact ⟨rfl, _, World.drewN_drewN _ _ _⟩ | exact ⟨rfl, _, Eq.trans (World.drewN_drewN _ _ _) (congrArg (World.drewN _) (Nat.add_assoc _ _ _))⟩))))
                go_ret3
                exact ⟨by first | rfl | (simp; done) | (simp only [← hji10] <;> (first | rfl | simp)) | (simp [*]; done), by repeat (first | exact Drawn0.refl _ | apply Drawn0.step)⟩
              · replace c14 := Bool.eq_false_iff.mpr c14
                subst c14
                have H1 : (some ((⟨#[]⟩ : ByteArray), (⟨#[]⟩ : ByteArray), 50)) = some (r1, r2, r3) := by rw [if_neg (show ¬ (false = true) by decide)] at H; exact H
                clear H
                have H := H1
                clear H1
                simp only [Option.some.injEq, Prod.mk.injEq] at H
                obtain ⟨rfl, rfl, rfl⟩ := H
                go_wp2_with (first | (go_at_call 49; (with_reducible refine (porterref05_Object.calls kj2 x6_2 t105 t106 t107 _ A7.out).mono ?_); rintro e w' ⟨rfl, ⟨nd, rfl⟩⟩; (try first | exact ⟨rfl, _, World.drewN_drewN _ _ _⟩ | exact ⟨rfl, _, Eq.trans (World.drewN_drewN _ _ _) (congrArg (World.drewN _) (Nat.add_assoc _ _ _))⟩)) | (go_at_call 50; (with_reducible refine (porterref05_Name.calls kj2 (a0.extract ((ji10) : Int).toNat a0.size) false _ A13.out).mono ?_); rintro e w' ⟨rfl, ⟨nd, rfl⟩⟩; (try first | exact ⟨rfl, _, World.drewN_drewN _ _ _⟩ | exact ⟨rfl, _, Eq.trans (World.drewN_drewN _ _ _) (congrArg (World.drewN _) (Nat.add_assoc _ _ _))⟩)))
                repeat (go_quiet (first | (go_at_call 49; (with_reducible refine (porterref05_Object.calls kj2 x6_2 t105 t106 t107 _ A7.out).mono ?_); rintro e w' ⟨rfl, ⟨nd, rfl⟩⟩; (try first | exact ⟨rfl, _, World.drewN_drewN _ _ _⟩ | exact ⟨rfl, _, Eq.trans (World.drewN_drewN _ _ _) (congrArg (World.drewN _) (Nat.add_assoc _ _ _))⟩)) | (go_at_call 50; (with_reducible refine (porterref05_Name.calls kj2 (a0.extract ((ji10) : Int).toNat a0.size) false _ A13.out).mono ?_); rintro e w' ⟨rfl, ⟨nd, rfl⟩⟩; (try first | exact ⟨rfl, _, World.drewN_drewN _ _ _⟩ | exact ⟨rfl, _, Eq.trans (World.drewN_drewN _ _ _) (congrArg (World.drewN _) (Nat.add_assoc _ _ _))⟩))); try go_wp2_with (first | (go_at_call 49; (with_reducible refine (porterref05_Object.calls kj2 x6_2 t105 t106 t107 _ A7.out).mono ?_); rintro e w' ⟨rfl, ⟨nd, rfl⟩⟩; (try first | exact ⟨rfl, _, World.drewN_drewN _ _ _⟩ | exact ⟨rfl, _, Eq.trans (World.drewN_drewN _ _ _) (congrArg (World.drewN _) (Nat.add_assoc _ _ _))⟩)) | (go_at_call 50; (with_reducible refine (porterref05_Name.calls kj2 (a0.extract ((ji10) : Int).toNat a0.size) false _ A13.out).mono ?_); rintro e w' ⟨rfl, ⟨nd, rfl⟩⟩; (try first | exact ⟨rfl, _, World.drewN_drewN _ _ _⟩ | exact ⟨rfl, _, Eq.trans (World.drewN_drewN _ _ _) (congrArg (World.drewN _) (Nat.add_assoc _ _ _))⟩))))
                go_ret3
                exact ⟨by first | rfl | (simp; done) | (simp only [← hji10] <;> (first | rfl | simp)) | (simp [*]; done), by repeat (first | exact Drawn0.refl _ | apply Drawn0.step)⟩
            · rw [if_neg c12] at H
              exact absurd H (by simp)
          · rw [if_neg c11] at H
            exact absurd H (by simp)
      · rw [if_neg c8] at H
        have c8b0 : (t107 == 0) = false := beq_eq_false_iff_ne.mpr c8
        have c8b1 : (t107 != 0) = true := bne_iff_ne.mpr c8
        simp only [Option.some.injEq, Prod.mk.injEq] at H
        obtain ⟨rfl, rfl, rfl⟩ := H
        go_wp2_with (first | (go_at_call 49; (with_reducible refine (porterref05_Object.calls kj2 x6_2 t105 t106 t107 _ A7.out).mono ?_); rintro e w' ⟨rfl, ⟨nd, rfl⟩⟩; (try first | exact ⟨rfl, _, World.drewN_drewN _ _ _⟩ | exact ⟨rfl, _, Eq.trans (World.drewN_drewN _ _ _) (congrArg (World.drewN _) (Nat.add_assoc _ _ _))⟩)))
        repeat (go_quiet (first | (go_at_call 49; (with_reducible refine (porterref05_Object.calls kj2 x6_2 t105 t106 t107 _ A7.out).mono ?_); rintro e w' ⟨rfl, ⟨nd, rfl⟩⟩; (try first | exact ⟨rfl, _, World.drewN_drewN _ _ _⟩ | exact ⟨rfl, _, Eq.trans (World.drewN_drewN _ _ _) (congrArg (World.drewN _) (Nat.add_assoc _ _ _))⟩))); try go_wp2_with (first | (go_at_call 49; (with_reducible refine (porterref05_Object.calls kj2 x6_2 t105 t106 t107 _ A7.out).mono ?_); rintro e w' ⟨rfl, ⟨nd, rfl⟩⟩; (try first | exact ⟨rfl, _, World.drewN_drewN _ _ _⟩ | exact ⟨rfl, _, Eq.trans (World.drewN_drewN _ _ _) (congrArg (World.drewN _) (Nat.add_assoc _ _ _))⟩))))
        go_ret3
        exact ⟨by first | rfl | (simp; done) | (simp [*]; done), by repeat (first | exact Drawn0.refl _ | apply Drawn0.step)⟩

end Go.Proofs.YtojjnfhgldjgbaaGreatDoor.PStoreIdles
end
