/- Users. -/
import Derived.Test.YtojjnfhgldjgbaaDoorSortStr
import Derived.Test.YtojjnfhgldjgbaaDoorHasP
import Derived.Test.YtojjnfhgldjgbaaDoorAddP
set_option linter.unusedVariables false
set_option linter.unusedSimpArgs false
namespace Go.Proofs.YtojjnfhgldjgbaaDoor.Store
open Go.RowKit Go.Por Go.Sort Go.Proofs.YtojjnfhgldjgbaaDoor.Watch
theorem elemStr : Elem Tryd.prog 42 9 strC 1 16 :=
  Elem.mk' (z := .string ⟨#[]⟩) Tryd.underlying42 (by kernel_rfl) rfl strC_len strC_one (by decide)
/-- The users among some tuples that are there. -/
def usersL (sp : Sp) (rev : Int) (l : List Tup) : List ByteArray := (l.filter (fun t => atA sp t rev)).map (fun t => t.2.2)
theorem usersL_take (sp : Sp) (rev : Int) (l : List Tup) {i : Nat} {x : Tup} (h : l[i]? = some x) : usersL sp rev (l.take (i + 1)) = usersL sp rev (l.take i) ++ (if atA sp x rev = true then [x.2.2] else []) := by
  unfold usersL
  rw [List.take_add_one, h, Option.toList_some, List.filter_append, List.map_append]
  congr 1
  by_cases hx : atA sp x rev = true
  · rw [if_pos hx]; simp [hx]
  · rw [if_neg hx]; simp [hx]
theorem usersL_le (sp : Sp) (rev : Int) (l : List Tup) (i : Nat) : (usersL sp rev (l.take i)).length ≤ i := by
  unfold usersL
  rw [List.length_map]
  refine Nat.le_trans (List.length_filter_le _ _) ?_
  rw [List.length_take]
  omega
section
variable {w : World} {s O U M MO MU : Nat} {F : Nat → Prop} {lm : List (Tup × (Value × List Span))} {lo : List (PairT × (Value × List Tup))} {lu : List (ByteArray × (Value × List Tup))} {wm : Int}
set_option maxRecDepth 100000 in
set_option maxHeartbeats 800000 in
theorem users_mem (h : StMem w s O U M MO MU F lm lo lu wm) {N : Nat} (hN : Short N lm lo lu) (hN2 : N ≤ 1099511627776) (ob rl : ByteArray) (rev : Int) :
    Calls Tryd.prog 12 #[.pointer (some ⟨s, 0, none⟩), .string ob, .string rl, .int .i64 rev] w fun e w' => ∃ v', e = .returned (.tuple #[v', .int .i64 (readA wm rev)]) ∧
      (OwnS strC 1 w' 9 v' (if readA wm rev = 0 then sortB (usersL (smc lm) rev (aget (smc lo) (ob, rl))) else []) ∧ Below w.heap.size w w' ∧ ∀ k, v'.ownBlock = some k → w.heap.size ≤ k) := by
  obtain ⟨B, hB⟩ : ∃ B, w.heap.size = B := ⟨_, rfl⟩
  have hrd := readable_any h rev
  obtain ⟨q, hq⟩ : ∃ q, readA wm rev = q := ⟨_, rfl⟩
  rw [hq] at hrd ⊢
  obtain ⟨L, hL⟩ : ∃ L, aget (smc lo) (ob, rl) = L := ⟨_, rfl⟩
  obtain ⟨v, hv⟩ : ∃ v, slv lo (ob, rl) = v := ⟨_, rfl⟩
  have hown0 := (h.o.at (ob, rl)).1
  have hlk : (Instr.lookup 64 (.map (some MO)) (.agg #[.string ob, .string rl]) false).run Tryd.prog w = .ok v w := by
    rw [← hv]
    exact h.o.look keyPair Tryd.underlying64 (zeroTups w) (ob, rl)
  have hLn : L.length ≤ N := by rw [← hL]; exact hN.o _
  rw [hL, hv] at hown0
  rw [hL]
  obtain ⟨n, hn⟩ : ∃ n, L.length = n := ⟨_, rfl⟩
  obtain ⟨ao, cp, rfl, hao⟩ : ∃ ao cp, v = .slice ao n cp ∧ (0 < n → ∃ g, ao = some ⟨g, 0, none⟩) := by
    rcases hown0.form with ⟨rfl, h2⟩ | ⟨g, cap, rfl, _, _⟩
    · exact ⟨none, 0, by rw [← hn, h2]; rfl, fun h => by rw [← hn, h2] at h; simp at h⟩
    · exact ⟨_, cap, by rw [hn], fun _ => ⟨g, rfl⟩⟩
  obtain ⟨X, hX⟩ : ∃ X, (if q = 0 then sortB (usersL (smc lm) rev L) else []) = X := ⟨_, rfl⟩
  rw [hX, hB]
  have c1 := cell_of (i := 1) h.hs rfl
  have c2 := cell_of (i := 0) h.hO rfl
  have HH := Lib.hid (And.intro h (And.intro hown0 (And.intro hn (And.intro hao (And.intro hX (And.intro hB (And.intro (show n ≤ 1099511627776 by omega) (fun k => Nat.le_trans (hN.m k) hN2))))))))
  have HR := Lib.hid hrd
  clear h hN hrd hq hv hL hown0 hLn hX hB hN2 hn
  go_enter Tryd.func12, Tryd.ntmps12
  go_wp2_with fail
  refine (HR.out).mono ?_
  rintro e w1 ⟨rfl, rfl⟩
  by_cases hq0 : q = 0
  · subst hq0
    go_wp2
    clear c1 c2 hlk
    go_loopg [11, 32] n (fun gg sv vi wx => ∃ t : Nat, t + gg = n ∧ vi = .int .i64 (t : Int) ∧ OwnS strC 1 wx 9 sv (usersL (smc lm) rev (L.take t)) ∧ Below B w1 wx ∧ ∀ k, sv.ownBlock = some k → B ≤ k)
    case atStart => exact ⟨0, by omega, rfl, OwnS.nil _ _ _ _, Below.refl _ _, fun k h => by simp [Value.ownBlock] at h⟩
    case round =>
      obtain ⟨t, htg, rfl, iown, ibel, iwh⟩ := hrel
      by_cases hg : gk = 0
      · have ht : t = n := by omega
        have hk0 : ¬ ((t : Int) < (n : Int)) := by omega
        rw [List.take_of_length_le (by rw [HH.out.2.2.1]; omega)] at iown
        have HI := Lib.hid (And.intro iown (And.intro ibel iwh))
        clear iown ibel iwh htg hg ht
        go_wp2_with fail
        refine (sort_strs HI.out.1 ?_).mono ?_
        · have h1 := usersL_le (smc lm) rev L n
          rw [List.take_of_length_le (by rw [HH.out.2.2.1]; omega)] at h1
          have h2 := HH.out.2.2.2.2.2.2.1
          omega
        rintro e w5 ⟨rfl, hown5, hm5⟩
        have hX := HH.out.2.2.2.2.1
        rw [if_pos trivial] at hX
        rw [hX] at hown5
        have hbz := HI.out.2.1.size
        have hBz := HH.out.2.2.2.2.2.1
        have k3 : Below B w1 w5 := HI.out.2.1.trans (hm5.to_below (by omega) (fun k hk => HI.out.2.2 k hk.symm))
        have HK := Lib.hid (And.intro hown5 (And.intro k3 HI.out.2.2))
        clear hown5 hm5 k3 hX hbz hBz
        go_wp2
        go_ret2
        exact ⟨_, rfl, HK.out⟩
      · have htn : t < n := by omega
        obtain ⟨g, rfl⟩ := hao (by omega)
        clear hao
        obtain ⟨⟨t0, t1, t2⟩, hx⟩ : ∃ x, L[t]? = some x := ⟨_, List.getElem?_eq_getElem (by rw [HH.out.2.2.1]; exact htn)⟩
        have hrange := HH.out.2.1.range tupC_len hx
        have hgl := HH.out.2.1.lt
        rw [HH.out.2.2.2.2.2.1] at hgl
        have hrange2 : wr.rangeAt g (t * 3) (tupC (t0, t1, t2)) := range_below hrange ibel hgl
        have htake := usersL_take (smc lm) rev L hx
        have hle := usersL_le (smc lm) rev L t
        have hti : (t : Int) < (n : Int) := by omega
        have hti2 : (t : Int) < 9223372036854775807 := by have := HH.out.2.2.2.2.2.2.1; omega
        obtain ⟨l, hl⟩ : ∃ l, usersL (smc lm) rev (L.take t) = l := ⟨_, rfl⟩
        rw [hl] at htake iown hle
        have HI := Lib.hid (And.intro iown (And.intro ibel (And.intro iwh (And.intro hrange2 (And.intro htake (And.intro hle (And.intro htg htn)))))))
        clear iown ibel iwh hrange hrange2 hgl htake hle htg htn hx hl hg
        go_upto_region 8 with (first
          | (refine wpList_load_mid rfl 27 (.tmp 34) rfl g (t * 3) rfl (tupC (t0, t1, t2)) _ HI.out.2.2.2.1 Tryd.underlying27 rfl infoTup0 ?_; unfold tupC))
        obtain ⟨Q, hQ⟩ : ∃ Q, wr.heap.size = Q := ⟨_, rfl⟩
        have hQb := block_new wr (.cells #[.string t0, .string t1, .string t2] 27)
        have m6 : Mod (fun _ => False) wr (wr.alloc (.cells #[.string t0, .string t1, .string t2] 27)) := (Mod.refl _ wr).alloc _
        have s6 : (wr.alloc (.cells #[.string t0, .string t1, .string t2] 27)).heap.size = Q + 1 := by rw [World.size_alloc, hQ]
        rw [hQ] at hQb ⊢
        generalize hW6 : wr.alloc (.cells #[.string t0, .string t1, .string t2] 27) = W6 at *
        have y0 : W6.cell? ⟨Q, 0, none⟩ = some (.string t0) := cell_of hQb rfl
        have y1 : W6.cell? ⟨Q, 1, none⟩ = some (.string t1) := cell_of hQb rfl
        have y2 : W6.cell? ⟨Q, 2, none⟩ = some (.string t2) := cell_of hQb rfl
        have hBz := HH.out.2.2.2.2.2.1
        have hib := HI.out.2.1.size
        have hb6 : Below B w1 W6 := HI.out.2.1.trans (m6.to_below (by omega) (fun _ h => h.elim))
        have hS6 : StMem W6 s O U M MO MU F lm lo lu wm := HH.out.1.below (by rw [hBz]; exact hb6)
        have HJ := Lib.hid (And.intro hQb (And.intro m6 (And.intro s6 (And.intro hQ (And.intro hb6 (And.intro hS6 (show B ≤ Q by omega)))))))
        clear hQb m6 s6 hQ hb6 hS6 hW6 hBz hib
        go_wp2_with fail
        clear y0 y1 y2
        refine (at_any HJ.out.2.2.2.2.2.1 (t0, t1, t2) rev (HH.out.2.2.2.2.2.2.2 _)).mono ?_
        rintro e w7 ⟨rfl, hb7⟩
        have m7 : Mod (fun _ => False) W6 w7 := Mod.of_below hb7 _
        have z2 : w7.cell? ⟨Q, 2, none⟩ = some (.string t2) := cell_of (m7.old HJ.out.1 id) rfl
        have hb7' : Below B w1 w7 := HJ.out.2.2.2.2.1.trans (hb7.mono (by have h1 := HJ.out.2.2.1; have h2 := HJ.out.2.2.2.2.2.2; omega))
        have hown7 : OwnS strC 1 w7 9 u11 l := (HI.out.1.mod HJ.out.2.1 (fun _ _ h => h)).mod m7 (fun _ _ h => h)
        have hs7 : Q + 1 ≤ w7.heap.size := by have h1 := HJ.out.2.2.1; have h2 := m7.size; omega
        obtain ⟨bb, hbb⟩ : ∃ bb, (aget (smc lm) (t0, t1, t2)).any (hasS rev) = bb := ⟨_, rfl⟩
        rw [hbb]
        have hbb' : atA (smc lm) (t0, t1, t2) rev = bb := hbb
        have HK := Lib.hid (And.intro hb7' (And.intro hown7 (And.intro hs7 hbb')))
        clear hb7 m7 hb7' hown7 hs7 hbb hbb'
        cases bb with
        | true =>
          have hroom : (l.length + 1) * 16 ≤ 140737488355328 := by have h1 := HI.out.2.2.2.2.2.1; have h2 := HH.out.2.2.2.2.2.2.1; have h3 := HI.out.2.2.2.2.2.2.2; omega
          have hroom2 : l.length + 1 ≤ maxLen := by unfold maxLen; omega
          have HL := Lib.hid (And.intro hroom hroom2)
          clear hroom hroom2
          go_wp2_with (first
            | (at_builtin; refine wpList_push (f := strC) (c := 1) (bytes := 16) (v := u11) (l := l) elemStr rfl (.tmp 40) (.tmp 43) rfl rfl (HK.out.2.1.mod ((Mod.refl (fun _ => False) w7).alloc (.cells #[.string t2] 9)) (fun _ _ h => h)) w7.heap.size t2 rfl (block_new w7 (.cells #[.string t2] 9)) HL.out.1 HL.out.2 ?_))
          intro v8 w8 hown8 hm8 hb8
          have HM := Lib.hid (And.intro hown8 (And.intro hm8 hb8))
          clear hown8 hm8 hb8
          go_wp2
          go_roundg (gk - 1)
          case measure => have := HI.out.2.2.2.2.2.2.1; omega
          case rel =>
            obtain ⟨i1, i2, i3, i4, i5, i6, i7, i8⟩ := HI.out
            obtain ⟨k1, k2, k3, k4⟩ := HK.out
            obtain ⟨n1, n2, n3⟩ := HM.out
            have hj := HJ.out.2.2.2.2.2.2
            refine ⟨t + 1, by omega, by go_num, by rw [i5, if_pos k4]; exact n1, (k1.alloc (by omega) _).trans (n2.to_below (by rw [World.size_alloc]; omega) (fun k hk => i3 k hk.symm)), fun k hk => ?_⟩
            rcases n3 k hk with h | h
            · exact i3 k h
            · omega
        | false =>
          go_wp2
          go_roundg (gk - 1)
          case measure => have := HI.out.2.2.2.2.2.2.1; omega
          case rel =>
            obtain ⟨i1, i2, i3, i4, i5, i6, i7, i8⟩ := HI.out
            obtain ⟨k1, k2, k3, k4⟩ := HK.out
            exact ⟨t + 1, by omega, by go_num, by rw [i5, if_neg (by rw [k4]; decide), List.append_nil]; exact k2, k1, i3⟩
  · have hq1 : (q == 0) = false := by simp [hq0]
    have eX : X = [] := by
      have := HH.out.2.2.2.2.1
      rw [if_neg hq0] at this
      exact this.symm
    subst eX
    go_wp2
    go_ret2
    exact ⟨_, rfl, OwnS.nil _ _ _ _, Below.refl _ _, fun k h => by simp [Value.ownBlock] at h⟩
end
end Go.Proofs.YtojjnfhgldjgbaaDoor.Store
