/- StoreBoth, where what came in is of bulk at most 1048576: who has a relation, what a user has, and Has say the same: part 10 of 14: what it leans on. -/
import Derived.Test.YtojjnfhgldjgbaaGreatDoorBoA
import Derived.Test.YtojjnfhgldjgbaaGreatDoorBoB
import Derived.Test.YtojjnfhgldjgbaaGreatDoorBoC
import Derived.Test.YtojjnfhgldjgbaaGreatDoorBoD
import Derived.Test.YtojjnfhgldjgbaaGreatDoorBoE
import Derived.Test.YtojjnfhgldjgbaaGreatDoorBoF
import Derived.Test.YtojjnfhgldjgbaaGreatDoorBoG
import Derived.Test.YtojjnfhgldjgbaaGreatDoorBoH
import Derived.Test.YtojjnfhgldjgbaaGreatDoorBoI
section
set_option linter.unusedVariables false
set_option linter.unusedSimpArgs false
namespace Go.Proofs.YtojjnfhgldjgbaaGreatDoor.Store
open Go.RowKit Go.Por Go.Sort Go.Proofs.YtojjnfhgldjgbaaGreatDoor.Watch
theorem elemStr : Elem Tryz.prog 57 9 strC 1 16 :=
  Elem.mk' (z := .string ⟨#[]⟩) Tryz.underlying57 (by kernel_rfl) rfl strC_len strC_one (by decide)
/-- The users among some tuples that are there. -/
def usersL (sp : Sp) (rev : Int) (l : List Tup) : List ByteArray := (l.filter (fun t => atA sp t rev)).map (fun t => t.2.2)
theorem usersL_take (sp : Sp) (rev : Int) (l : List Tup) {i : Nat} {x : Tup} (h : l[i]? = some x) : usersL sp rev (l.take (i + 1)) = usersL sp rev (l.take i) ++ (if atA sp x rev = true then [x.2.2] else []) := by
  unfold usersL
  rw [List.take_add_one, h, Option.toList_some, List.filter_append, List.map_append]
  congr 1
  by_cases hx : atA sp x rev = true
  · rw [if_pos hx]; simp [hx]
  · rw [if_neg hx]; simp [hx]
theorem usersL_le (sp : Sp) (rev : Int) (l : List Tup) (i : Nat) : (usersL sp rev (l.take i)).length ≤ i := by
  unfold usersL
  rw [List.length_map]
  refine Nat.le_trans (List.length_filter_le _ _) ?_
  rw [List.length_take]
  omega
section
variable {w : World} {s O U M MO MU : Nat} {F : Nat → Prop} {lm : List (Tup × (Value × List Span))} {lo : List (PairT × (Value × List Tup))} {lu : List (ByteArray × (Value × List Tup))} {wm : Int}
set_option maxRecDepth 100000 in
set_option maxHeartbeats 800000 in
theorem users_mem (h : StMem w s O U M MO MU F lm lo lu wm) {N : Nat} (hN : Short N lm lo lu) (hN2 : N ≤ 1099511627776) (ob rl : ByteArray) (rev : Int) :
    Calls Tryz.prog 30 #[.pointer (some ⟨s, 0, none⟩), .string ob, .string rl, .int .i64 rev] w fun e w' => ∃ v', e = .returned (.tuple #[v', .int .i64 (readA wm rev)]) ∧
      (OwnS strC 1 w' 9 v' (if readA wm rev = 0 then sortB (usersL (smc lm) rev (aget (smc lo) (ob, rl))) else []) ∧ Below w.heap.size w w' ∧ ∀ k, v'.ownBlock = some k → w.heap.size ≤ k) := by
  obtain ⟨B, hB⟩ : ∃ B, w.heap.size = B := ⟨_, rfl⟩
  have hrd := readable_any h rev
  obtain ⟨q, hq⟩ : ∃ q, readA wm rev = q := ⟨_, rfl⟩
  rw [hq] at hrd ⊢
  obtain ⟨L, hL⟩ : ∃ L, aget (smc lo) (ob, rl) = L := ⟨_, rfl⟩
  obtain ⟨v, hv⟩ : ∃ v, slv lo (ob, rl) = v := ⟨_, rfl⟩
  have hown0 := (h.o.at (ob, rl)).1
  have hlk : (Instr.lookup 122 (.map (some MO)) (.agg #[.string ob, .string rl]) false).run Tryz.prog w = .ok v w := by
    rw [← hv]
    exact h.o.look keyPair Tryz.underlying122 (zeroTups w) (ob, rl)
  have hLn : L.length ≤ N := by rw [← hL]; exact hN.o _
  rw [hL, hv] at hown0
  rw [hL]
  obtain ⟨n, hn⟩ : ∃ n, L.length = n := ⟨_, rfl⟩
  obtain ⟨ao, cp, rfl, hao⟩ : ∃ ao cp, v = .slice ao n cp ∧ (0 < n → ∃ g, ao = some ⟨g, 0, none⟩) := by
    rcases hown0.form with ⟨rfl, h2⟩ | ⟨g, cap, rfl, _, _⟩
    · exact ⟨none, 0, by rw [← hn, h2]; rfl, fun h => by rw [← hn, h2] at h; simp at h⟩
    · exact ⟨_, cap, by rw [hn], fun _ => ⟨g, rfl⟩⟩
  obtain ⟨X, hX⟩ : ∃ X, (if q = 0 then sortB (usersL (smc lm) rev L) else []) = X := ⟨_, rfl⟩
  rw [hX, hB]
  have c1 := cell_of (i := 1) h.hs rfl
  have c2 := cell_of (i := 0) h.hO rfl
  have HH := Lib.hid (And.intro h (And.intro hown0 (And.intro hn (And.intro hao (And.intro hX (And.intro hB (And.intro (show n ≤ 1099511627776 by omega) (fun k => Nat.le_trans (hN.m k) hN2))))))))
  have HR := Lib.hid hrd
  clear h hN hrd hq hv hL hown0 hLn hX hB hN2 hn
  go_enter Tryz.func30, Tryz.ntmps30
  go_wp2_with fail
  refine (HR.out).mono ?_
  rintro e w1 ⟨rfl, rfl⟩
  by_cases hq0 : q = 0
  · subst hq0
    go_wp2
    clear c1 c2 hlk
    go_loopg [11, 32] n (fun gg sv vi wx => ∃ t : Nat, t + gg = n ∧ vi = .int .i64 (t : Int) ∧ OwnS strC 1 wx 9 sv (usersL (smc lm) rev (L.take t)) ∧ Below B w1 wx ∧ ∀ k, sv.ownBlock = some k → B ≤ k)
    case atStart => exact ⟨0, by omega, rfl, OwnS.nil _ _ _ _, Below.refl _ _, fun k h => by simp [Value.ownBlock] at h⟩
    case round =>
      obtain ⟨t, htg, rfl, iown, ibel, iwh⟩ := hrel
      by_cases hg : gk = 0
      · have ht : t = n := by omega
        have hk0 : ¬ ((t : Int) < (n : Int)) := by omega
        rw [List.take_of_length_le (by rw [HH.out.2.2.1]; omega)] at iown
        have HI := Lib.hid (And.intro iown (And.intro ibel iwh))
        clear iown ibel iwh htg hg ht
        go_wp2_with fail
        refine (sort_strs HI.out.1 ?_).mono ?_
        · have h1 := usersL_le (smc lm) rev L n
          rw [List.take_of_length_le (by rw [HH.out.2.2.1]; omega)] at h1
          have h2 := HH.out.2.2.2.2.2.2.1
          omega
        rintro e w5 ⟨rfl, hown5, hm5⟩
        have hX := HH.out.2.2.2.2.1
        rw [if_pos trivial] at hX
        rw [hX] at hown5
        have hbz := HI.out.2.1.size
        have hBz := HH.out.2.2.2.2.2.1
        have k3 : Below B w1 w5 := HI.out.2.1.trans (hm5.to_below (by omega) (fun k hk => HI.out.2.2 k hk.symm))
        have HK := Lib.hid (And.intro hown5 (And.intro k3 HI.out.2.2))
        clear hown5 hm5 k3 hX hbz hBz
        go_wp2
        go_ret2
        exact ⟨_, rfl, HK.out⟩
      · have htn : t < n := by omega
        obtain ⟨g, rfl⟩ := hao (by omega)
        clear hao
        obtain ⟨⟨t0, t1, t2⟩, hx⟩ : ∃ x, L[t]? = some x := ⟨_, List.getElem?_eq_getElem (by rw [HH.out.2.2.1]; exact htn)⟩
        have hrange := HH.out.2.1.range tupC_len hx
        have hgl := HH.out.2.1.lt
        rw [HH.out.2.2.2.2.2.1] at hgl
        have hrange2 : wr.rangeAt g (t * 3) (tupC (t0, t1, t2)) := range_below hrange ibel hgl
        have htake := usersL_take (smc lm) rev L hx
        have hle := usersL_le (smc lm) rev L t
        have hti : (t : Int) < (n : Int) := by omega
        have hti2 : (t : Int) < 9223372036854775807 := by have := HH.out.2.2.2.2.2.2.1; omega
        obtain ⟨l, hl⟩ : ∃ l, usersL (smc lm) rev (L.take t) = l := ⟨_, rfl⟩
        rw [hl] at htake iown hle
        have HI := Lib.hid (And.intro iown (And.intro ibel (And.intro iwh (And.intro hrange2 (And.intro htake (And.intro hle (And.intro htg htn)))))))
        clear iown ibel iwh hrange hrange2 hgl htake hle htg htn hx hl hg
        go_upto_region 8 with (first
          | (refine wpList_load_mid rfl 41 (.tmp 34) rfl g (t * 3) rfl (tupC (t0, t1, t2)) _ HI.out.2.2.2.1 Tryz.underlying41 rfl infoTup0 ?_; unfold tupC))
        obtain ⟨Q, hQ⟩ : ∃ Q, wr.heap.size = Q := ⟨_, rfl⟩
        have hQb := block_new wr (.cells #[.string t0, .string t1, .string t2] 41)
        have m6 : Mod (fun _ => False) wr (wr.alloc (.cells #[.string t0, .string t1, .string t2] 41)) := (Mod.refl _ wr).alloc _
        have s6 : (wr.alloc (.cells #[.string t0, .string t1, .string t2] 41)).heap.size = Q + 1 := by rw [World.size_alloc, hQ]
        rw [hQ] at hQb ⊢
        generalize hW6 : wr.alloc (.cells #[.string t0, .string t1, .string t2] 41) = W6 at *
        have y0 : W6.cell? ⟨Q, 0, none⟩ = some (.string t0) := cell_of hQb rfl
        have y1 : W6.cell? ⟨Q, 1, none⟩ = some (.string t1) := cell_of hQb rfl
        have y2 : W6.cell? ⟨Q, 2, none⟩ = some (.string t2) := cell_of hQb rfl
        have hBz := HH.out.2.2.2.2.2.1
        have hib := HI.out.2.1.size
        have hb6 : Below B w1 W6 := HI.out.2.1.trans (m6.to_below (by omega) (fun _ h => h.elim))
        have hS6 : StMem W6 s O U M MO MU F lm lo lu wm := HH.out.1.below (by rw [hBz]; exact hb6)
        have HJ := Lib.hid (And.intro hQb (And.intro m6 (And.intro s6 (And.intro hQ (And.intro hb6 (And.intro hS6 (show B ≤ Q by omega)))))))
        clear hQb m6 s6 hQ hb6 hS6 hW6 hBz hib
        go_wp2_with fail
        clear y0 y1 y2
        refine (at_any HJ.out.2.2.2.2.2.1 (t0, t1, t2) rev (HH.out.2.2.2.2.2.2.2 _)).mono ?_
        rintro e w7 ⟨rfl, hb7⟩
        have m7 : Mod (fun _ => False) W6 w7 := Mod.of_below hb7 _
        have z2 : w7.cell? ⟨Q, 2, none⟩ = some (.string t2) := cell_of (m7.old HJ.out.1 id) rfl
        have hb7' : Below B w1 w7 := HJ.out.2.2.2.2.1.trans (hb7.mono (by have h1 := HJ.out.2.2.1; have h2 := HJ.out.2.2.2.2.2.2; omega))
        have hown7 : OwnS strC 1 w7 9 u11 l := (HI.out.1.mod HJ.out.2.1 (fun _ _ h => h)).mod m7 (fun _ _ h => h)
        have hs7 : Q + 1 ≤ w7.heap.size := by have h1 := HJ.out.2.2.1; have h2 := m7.size; omega
        obtain ⟨bb, hbb⟩ : ∃ bb, (aget (smc lm) (t0, t1, t2)).any (hasS rev) = bb := ⟨_, rfl⟩
        rw [hbb]
        have hbb' : atA (smc lm) (t0, t1, t2) rev = bb := hbb
        have HK := Lib.hid (And.intro hb7' (And.intro hown7 (And.intro hs7 hbb')))
        clear hb7 m7 hb7' hown7 hs7 hbb hbb'
        cases bb with
        | true =>
          have hroom : (l.length + 1) * 16 ≤ 140737488355328 := by have h1 := HI.out.2.2.2.2.2.1; have h2 := HH.out.2.2.2.2.2.2.1; have h3 := HI.out.2.2.2.2.2.2.2; omega
          have hroom2 : l.length + 1 ≤ maxLen := by unfold maxLen; omega
          have HL := Lib.hid (And.intro hroom hroom2)
          clear hroom hroom2
          go_wp2_with (first
            | (at_builtin; refine wpList_push (f := strC) (c := 1) (bytes := 16) (v := u11) (l := l) elemStr rfl (.tmp 40) (.tmp 43) rfl rfl (HK.out.2.1.mod ((Mod.refl (fun _ => False) w7).alloc (.cells #[.string t2] 9)) (fun _ _ h => h)) w7.heap.size t2 rfl (block_new w7 (.cells #[.string t2] 9)) HL.out.1 HL.out.2 ?_))
          intro v8 w8 hown8 hm8 hb8
          have HM := Lib.hid (And.intro hown8 (And.intro hm8 hb8))
          clear hown8 hm8 hb8
          go_wp2
          go_roundg (gk - 1)
          case measure => have := HI.out.2.2.2.2.2.2.1; omega
          case rel =>
            obtain ⟨i1, i2, i3, i4, i5, i6, i7, i8⟩ := HI.out
            obtain ⟨k1, k2, k3, k4⟩ := HK.out
            obtain ⟨n1, n2, n3⟩ := HM.out
            have hj := HJ.out.2.2.2.2.2.2
            refine ⟨t + 1, by omega, by go_num, by rw [i5, if_pos k4]; exact n1, (k1.alloc (by omega) _).trans (n2.to_below (by rw [World.size_alloc]; omega) (fun k hk => i3 k hk.symm)), fun k hk => ?_⟩
            rcases n3 k hk with h | h
            · exact i3 k h
            · omega
        | false =>
          go_wp2
          go_roundg (gk - 1)
          case measure => have := HI.out.2.2.2.2.2.2.1; omega
          case rel =>
            obtain ⟨i1, i2, i3, i4, i5, i6, i7, i8⟩ := HI.out
            obtain ⟨k1, k2, k3, k4⟩ := HK.out
            exact ⟨t + 1, by omega, by go_num, by rw [i5, if_neg (by rw [k4]; decide), List.append_nil]; exact k2, k1, i3⟩
  · have hq1 : (q == 0) = false := by simp [hq0]
    have eX : X = [] := by
      have := HH.out.2.2.2.2.1
      rw [if_neg hq0] at this
      exact this.symm
    subst eX
    go_wp2
    go_ret2
    exact ⟨_, rfl, OwnS.nil _ _ _ _, Below.refl _ _, fun k h => by simp [Value.ownBlock] at h⟩
end
end Go.Proofs.YtojjnfhgldjgbaaGreatDoor.Store
end
section
set_option linter.unusedVariables false
set_option linter.unusedSimpArgs false
namespace Go.Por
open Go.RowKit
theorem gput_same {κ β : Type} [DecidableEq κ] {l : List (κ × β)} (hn : (l.map Prod.fst).Nodup) {k : κ} {v : β} (h : (k, v) ∈ l) : gput l k v = l := by
  unfold gput
  rw [if_pos (List.mem_map.2 ⟨_, h, rfl⟩)]
  conv => rhs; rw [← List.map_id l]
  apply List.map_congr_left
  intro p hp
  by_cases hk : p.1 = k
  · rw [if_pos hk]
    obtain ⟨p1, p2⟩ := p
    simp only at hk
    subst hk
    rw [nodup_fst hn h hp]
    rfl
  · rw [if_neg hk]
    rfl
section
variable {κ α : Type} [DecidableEq κ] {w w' : World} {M : Nat} {enc : κ → Value} {f : α → List Value} {c : Nat} {E : TypeId} {F : Nat → Prop} {l : List (κ × (Value × List α))}
/-- A key's own slice holds something else now, in its place. -/
theorem SlMap.touch (h : SlMap w M enc f c E F l) {k : κ} {v : Value} {x x' : List α} (hg : gfind l k = some (v, x)) (hm : Mod (fun b => some b = v.ownBlock) w w') (ho : OwnS f c w' E v x') : SlMap w' M enc f c E F (gput l k (v, x')) := by
  have hmem := gfind_mem hg
  have hself := h.own _ hmem
  refine ⟨?_, fun e he => ?_, fun e he e' he' hne b hb => ?_, fun e he b hb => ?_⟩
  · have e1 : smv (gput l k (v, x')) = smv l := by
      unfold smv
      rw [gput_map (fun p : Value × List α => p.1)]
      exact gput_same (by rw [List.map_map]; exact h.nodup) (List.mem_map.2 ⟨_, hmem, rfl⟩)
    rw [e1]
    exact h.map.mod hm (fun e => hself.ne_map h.map M e.symm rfl)
  · rcases mem_gput.1 he with rfl | ⟨h4, h5⟩
    · exact ho
    · exact (h.own e h5).mod hm (fun b hb e' => h.dis e h5 _ hmem h4 b hb e'.symm)
  · rcases mem_gput.1 he with rfl | ⟨h4, h5⟩
    · rcases mem_gput.1 he' with rfl | ⟨h6, h7⟩
      · exact absurd rfl hne
      · exact h.dis _ hmem e' h7 (fun e => h6 e.symm) b hb
    · rcases mem_gput.1 he' with rfl | ⟨h6, h7⟩
      · exact h.dis e h5 _ hmem h4 b hb
      · exact h.dis e h5 e' h7 hne b hb
  · rcases mem_gput.1 he with rfl | ⟨h4, h5⟩
    · exact h.foot _ hmem b hb
    · exact h.foot e h5 b hb
theorem SlMap.nodupC {κ α : Type} {w : World} {M : Nat} {enc : κ → Value} {f : α → List Value} {c : Nat} {E : TypeId} {F : Nat → Prop} {l : List (κ × (Value × List α))} (h : SlMap w M enc f c E F l) : ((smc l).map Prod.fst).Nodup := by rw [smc_fst]; exact h.nodup
theorem slv_find {k : κ} {b n cap : Nat} (h : slv l k = .slice (some ⟨b, 0, none⟩) n cap) : ∃ x, gfind l k = some (.slice (some ⟨b, 0, none⟩) n cap, x) ∧ x = aget (smc l) k := by
  rw [aget_smc]
  unfold slv at h
  cases hg : gfind l k with
  | none => rw [hg] at h; simp at h
  | some p =>
    rw [hg] at h
    obtain ⟨p1, p2⟩ := p
    simp only [Option.map_some, Option.getD_some] at h
    subst h
    exact ⟨p2, rfl, rfl⟩
end
end Go.Por
namespace Go.Proofs.YtojjnfhgldjgbaaGreatDoor.Store
open Go.RowKit Go.Por Go.Sort Go.Proofs.YtojjnfhgldjgbaaGreatDoor.Watch
abbrev Ob := List (PairT × List Tup)
abbrev Us := List (ByteArray × List Tup)
/-- The spans and both indices. -/
abbrev St3 := Sp × Ob × Us
def step3 (rev : Int) (x : St3) (m : Mut) : St3 :=
  if m.1 = true then (if thereOf (aget x.1 m.2) = true then (gput x.1 m.2 (shutL (aget x.1 m.2) rev), x.2.1, x.2.2) else x)
  else (if thereOf (aget x.1 m.2) = true then x else (gput x.1 m.2 (aget x.1 m.2 ++ [(rev, 0)]), putC x.2.1 (m.2.1, m.2.2.1) m.2, putC x.2.2 m.2.2.2 m.2))
def apply3 (rev : Int) (x : St3) (muts : List Mut) : St3 := muts.foldl (step3 rev) x
theorem step3_fst (rev : Int) (x : St3) (m : Mut) : (step3 rev x m).1 = stepA rev x.1 m := by
  unfold step3 stepA
  split <;> split <;> rfl
theorem apply3_fst (rev : Int) (muts : List Mut) : ∀ x : St3, (apply3 rev x muts).1 = applyA rev x.1 muts := by
  induction muts with
  | nil => intro x; rfl
  | cons m ms ih =>
    intro x
    unfold apply3 applyA
    rw [List.foldl_cons, List.foldl_cons]
    have := ih (step3 rev x m)
    unfold apply3 applyA at this
    rw [this, step3_fst]
theorem apply3_take (rev : Int) (x : St3) (muts : List Mut) {t : Nat} {m : Mut} (h : muts[t]? = some m) : apply3 rev x (muts.take (t + 1)) = step3 rev (apply3 rev x (muts.take t)) m := by
  unfold apply3
  rw [List.take_add_one, h, Option.toList_some, List.foldl_append]
  rfl
theorem shutL_snoc (P : List Span) (x : Span) (rev : Int) : shutL (P ++ [x]) rev = P ++ [(x.1, rev)] := by
  unfold shutL
  rw [List.getLast?_concat, Option.getD_some, List.length_append, List.length_singleton, Nat.add_sub_cancel]
  rw [List.set_append_right _ _ (Nat.le_refl _), Nat.sub_self]
  rfl
theorem shutL_len (l : List Span) (rev : Int) : (shutL l rev).length = l.length := by unfold shutL; rw [List.length_set]
theorem aget_len_gput {κ α : Type} [DecidableEq κ] {l : List (κ × List α)} (hn : (l.map Prod.fst).Nodup) {N : Nat} (h : ∀ k, (aget l k).length ≤ N) (k : κ) (x : List α) (hx : x.length ≤ N) : ∀ q, (aget (gput l k x) q).length ≤ N := fun q => by
  unfold aget
  rw [gfind_gput hn]
  by_cases hq : q = k
  · rw [if_pos hq]; exact hx
  · rw [if_neg hq]; exact h q
theorem putC_len {κ : Type} [DecidableEq κ] {l : List (κ × List Tup)} (hn : (l.map Prod.fst).Nodup) {N : Nat} (h : ∀ k, (aget l k).length ≤ N) (k : κ) (t : Tup) : ∀ q, (aget (putC l k t) q).length ≤ N + 1 := fun q => by
  unfold putC
  split
  · exact Nat.le_succ_of_le (h q)
  · exact aget_len_gput hn (fun k => Nat.le_succ_of_le (h k)) k _ (by rw [List.length_append, List.length_singleton]; exact Nat.succ_le_succ (h k)) q
end Go.Proofs.YtojjnfhgldjgbaaGreatDoor.Store
end
section
set_option linter.unusedVariables false
set_option linter.unusedSimpArgs false
namespace Go.Proofs.YtojjnfhgldjgbaaGreatDoor.Store
open Go.RowKit Go.Por Go.Sort Go.Proofs.YtojjnfhgldjgbaaGreatDoor.Watch Go.Por.Tupl
section
variable {w : World} {s O U M MO MU : Nat} {F : Nat → Prop} {lm : List (Tup × (Value × List Span))} {lo : List (PairT × (Value × List Tup))} {lu : List (ByteArray × (Value × List Tup))} {wm : Int}
theorem Short.mono {N N' : Nat} (h : Short N lm lo lu) (hn : N ≤ N') : Short N' lm lo lu := ⟨fun k => Nat.le_trans (h.m k) hn, fun k => Nat.le_trans (h.o k) hn, fun k => Nat.le_trans (h.u k) hn⟩
theorem StMem.grown {w' w'' : World} (h : StMem w' s O U M MO MU (grew F w w') lm lo lu wm) (hl : ∀ b, F b → b < w.heap.size) (hw : w.heap.size ≤ w'.heap.size) (hb : Below w'.heap.size w' w'') : StMem w'' s O U M MO MU (grew F w w'') lm lo lu wm := by
  have hs := hb.size
  refine (h.mod (Mod.of_below hb (fun _ => False)) (fun _ _ h => h)).weaken (fun b hb => ?_) (fun b hb => ?_)
  · rcases hb with hb | hb
    · exact .inl hb
    · exact .inr ⟨hb.1, by omega⟩
  · rcases hb with hb | hb
    · have := hl b hb; omega
    · exact hb.2
set_option maxRecDepth 100000 in
set_option maxHeartbeats 6400000 in
theorem apply_mem (h : StMem w s O U M MO MU F lm lo lu wm) {N : Nat} (hN : Short N lm lo lu) {v : Value} {muts : List Mut} (hr : ReadS mutC 4 w v muts) (hvF : muts ≠ [] → ∀ k, v.ownBlock = some k → ¬ F k) (hok : ∀ m ∈ muts, TupOk m.2) (hN2 : N + muts.length ≤ 1099511627776) (rev : Int) : Calls Tryz.prog 26 #[.pointer (some ⟨s, 0, none⟩), .int .i64 rev, v] w fun e w' => e = .returned (.int .i64 (checkA (smc lm) wm rev muts)) ∧
    ∃ lm' lo' lu', StMem w' s O U M MO MU (grew F w w') lm' lo' lu' wm ∧ (smc lm', smc lo', smc lu') = (if checkA (smc lm) wm rev muts = 0 then apply3 rev (smc lm, smc lo, smc lu) muts else (smc lm, smc lo, smc lu)) ∧ Short (N + muts.length) lm' lo' lu' ∧ Mod F w w' := by
  obtain ⟨ao, cap, rfl, hlen⟩ := hr.form
  obtain ⟨n, hn⟩ : ∃ n, muts.length = n := ⟨_, rfl⟩
  have hck := check_mem h hr hok rev
  obtain ⟨q, hq⟩ : ∃ q, checkA (smc lm) wm rev muts = q := ⟨_, rfl⟩
  rw [hn] at hr hlen hvF hN2 hck ⊢
  rw [hq] at hck ⊢
  obtain ⟨X, hX⟩ : ∃ X, (if q = 0 then apply3 rev (smc lm, smc lo, smc lu) muts else (smc lm, smc lo, smc lu)) = X := ⟨_, rfl⟩
  rw [hX]
  have HH := Lib.hid (And.intro h (And.intro hr (And.intro hlen (And.intro hn (And.intro hvF (And.intro hN (And.intro hN2 (And.intro hX h.lt))))))))
  have HC := Lib.hid hck
  clear h hr hvF hN hN2 hX hck hq hok
  obtain ⟨B, hB⟩ : ∃ B, w.heap.size = B := ⟨_, rfl⟩
  go_enter Tryz.func26, Tryz.ntmps26
  go_wp2_with fail
  refine (HC.out).mono ?_
  rintro e w1 ⟨rfl, hb1⟩
  have hS1 : StMem w1 s O U M MO MU (grew F w w1) lm lo lu wm := (HH.out.1.weaken (F' := grew F w w) (fun b hb => .inl hb) (fun b hb => hb.elim (HH.out.2.2.2.2.2.2.2.2 b) (fun h => h.2))).grown HH.out.2.2.2.2.2.2.2.2 (Nat.le_refl _) hb1
  have HD := Lib.hid (And.intro hS1 (And.intro hb1 hB))
  clear hS1 hb1 hB
  by_cases hq0 : q = 0
  · subst hq0
    go_wp2
    go_loopg [21] n (fun gg vi wx => ∃ (t : Nat) (lmx : List (Tup × (Value × List Span))) (lox : List (PairT × (Value × List Tup))) (lux : List (ByteArray × (Value × List Tup))), t + gg = n ∧ vi = .int .i64 (t : Int) ∧ StMem wx s O U M MO MU (grew F w wx) lmx lox lux wm ∧ (smc lmx, smc lox, smc lux) = apply3 rev (smc lm, smc lo, smc lu) (muts.take t) ∧ Short (N + t) lmx lox lux ∧ Mod F w wx)
    case atStart => exact ⟨0, lm, lo, lu, by omega, rfl, HD.out.1, rfl, HH.out.2.2.2.2.2.1, Mod.of_below HD.out.2.1 F⟩
    case round =>
      obtain ⟨t, lmx, lox, lux, htg, rfl, hSx, hap, hsh, hmod⟩ := hrel
      by_cases hg : gk = 0
      · have ht : t = n := by omega
        have hk0 : ¬ ((t : Int) < (n : Int)) := by omega
        have hap2 : (smc lmx, smc lox, smc lux) = X := by
          have e1 := HH.out.2.2.2.2.2.2.2.1
          rw [if_pos trivial] at e1
          rw [hap, List.take_of_length_le (by rw [HH.out.2.2.2.1]; omega), e1]
        have HE := Lib.hid (And.intro hSx (And.intro hap2 (And.intro hsh (And.intro hmod ht))))
        clear hSx hap hap2 hsh hmod htg hg ht
        go_wp2
        go_ret
        exact ⟨rfl, lmx, lox, lux, HE.out.1, HE.out.2.1, by have := HE.out.2.2.1; rwa [HE.out.2.2.2.2] at this, HE.out.2.2.2.1⟩
      · have htn : t < n := by omega
        obtain ⟨⟨d, t0, t1, t2⟩, hx⟩ : ∃ m, muts[t]? = some m := ⟨_, List.getElem?_eq_getElem (by rw [HH.out.2.2.2.1]; exact htn)⟩
        have hrr := HH.out.2.1.mod (by decide) mutC_len hmod (HH.out.2.2.2.2.1 (List.ne_nil_of_mem (List.mem_of_getElem? hx)))
        obtain ⟨b, o, rfl, hrange, hbl⟩ := hrr.lt (by decide) mutC_len hx
        have hti : (t : Int) < (n : Int) := by omega
        have hstep := apply3_take rev (smc lm, smc lo, smc lu) muts hx
        rw [← hap] at hstep
        have hlim : N + t ≤ 1099511627776 := by have := HH.out.2.2.2.2.2.2.1; omega
        have HE := Lib.hid (And.intro hSx (And.intro hstep (And.intro hsh (And.intro hmod (And.intro hrange (And.intro htg (And.intro htn hlim)))))))
        clear hSx hap hsh hmod hrange hrr hbl hx hg htg htn hstep hlim
        go_upto_region 7 with (first
          | (refine wpList_load_mid rfl 47 (.tmp 23) rfl b (o + t * 4) rfl (mutC (d, t0, t1, t2)) _ HE.out.2.2.2.2.1 Tryz.underlying47 rfl infoMut0 ?_; unfold mutC))
        obtain ⟨Q, hQ⟩ : ∃ Q, wr.heap.size = Q := ⟨_, rfl⟩
        have hQb := block_new wr (.cells #[.bool d, .string t0, .string t1, .string t2] 47)
        have b4 : Below wr.heap.size wr (wr.alloc (.cells #[.bool d, .string t0, .string t1, .string t2] 47)) := (Below.refl _ wr).alloc (Nat.le_refl _) _
        have s4 : (wr.alloc (.cells #[.bool d, .string t0, .string t1, .string t2] 47)).heap.size = Q + 1 := by rw [World.size_alloc, hQ]
        have hS4 := HE.out.1.grown HH.out.2.2.2.2.2.2.2.2 HE.out.2.2.2.1.size b4
        rw [hQ] at hQb ⊢
        generalize hW4 : wr.alloc (.cells #[.bool d, .string t0, .string t1, .string t2] 47) = W4 at *
        have hlook : ∀ W : World, SlMap W M encT spanC 2 119 (grew F w W4) lmx → (Instr.lookup 104 (.map (some M)) (.agg #[.string t0, .string t1, .string t2]) false).run Tryz.prog W = .ok (slv lmx (t0, t1, t2)) W := fun W hW => hW.look keyTup Tryz.underlying104 (zeroSpans W) (t0, t1, t2)
        obtain ⟨vl, hvl⟩ : ∃ vl, slv lmx (t0, t1, t2) = vl := ⟨_, rfl⟩
        rw [hvl] at hlook
        have HF := Lib.hid (And.intro hQb (And.intro b4 (And.intro s4 (And.intro hQ (And.intro hS4 (And.intro hlook hvl))))))
        clear hQb b4 s4 hQ hW4 hS4 hlook hvl
        refine wp_region_held_drew (S := fun w' => Mod (fun _ => False) W4 w') (by kernel_rfl) ((Mod.refl _ W4).drew) (fun hS => ?_)
        refine takeD (i := 0) rfl (by kernel_rfl) (by kernel_rfl) (by kernel_rfl) (fun _ _ _ h => h) hS (Or.inl ⟨by rfl, fun w hSw => by go_simp; rfl⟩) ?_
        simp only [Act.put, List.setIfInBounds_toArray, List.set_cons_zero, List.set_cons_succ]
        refine takeD (i := 1) rfl (by kernel_rfl) (by kernel_rfl) (by kernel_rfl) (fun _ _ _ h => h) hS (Or.inl ⟨by rfl, fun w hSw => by go_simp; rfl⟩) ?_
        simp only [Act.put, List.setIfInBounds_toArray, List.set_cons_zero, List.set_cons_succ]
        refine takeD (i := 2) rfl (by kernel_rfl) (by kernel_rfl) (by kernel_rfl) (fun _ _ _ h => h) hS (Or.inl ⟨by rfl, fun w hSw => by go_simp; rfl⟩) ?_
        simp only [Act.put, List.setIfInBounds_toArray, List.set_cons_zero, List.set_cons_succ]
        refine takeD (i := 3) (v := (.map (some M))) rfl (by kernel_rfl) (by kernel_rfl) (by kernel_rfl) (fun _ _ _ h => h) hS (Or.inl ⟨by rfl, fun w hSw => by have c := cell_of (i := 0) (hSw.old HF.out.2.2.2.2.1.hs id) rfl; go_simp⟩) ?_
        simp only [Act.put, List.setIfInBounds_toArray, List.set_cons_zero, List.set_cons_succ]
        refine takeD (i := 4) rfl (by kernel_rfl) (by kernel_rfl) (by kernel_rfl) (fun _ _ _ h => h) hS (Or.inl ⟨by rfl, fun w hSw => by go_simp; rfl⟩) ?_
        simp only [Act.put, List.setIfInBounds_toArray, List.set_cons_zero, List.set_cons_succ]
        refine takeD (i := 5) rfl (by kernel_rfl) (by kernel_rfl) (by kernel_rfl) (fun _ _ _ h => h) hS (yieldsIf_load_mid (by rfl) 41 (.tmp 29) rfl Q 1 rfl ([.string t0, .string t1, .string t2]) _ (fun w hSw => row_mid (hSw.old HF.out.1 id)) Tryz.underlying41 rfl infoTup0) ?_
        simp only [Act.put, List.setIfInBounds_toArray, List.set_cons_zero, List.set_cons_succ]
        refine takeD (i := 6) (v := vl) rfl (by kernel_rfl) (by kernel_rfl) (by kernel_rfl) (fun _ _ _ h => h) hS (Or.inl ⟨by rfl, fun w hSw => by have c := HF.out.2.2.2.2.2.1 w (HF.out.2.2.2.2.1.m.mod hSw id (fun _ _ _ _ h => h)); go_simp⟩) ?_
        simp only [Act.put, List.setIfInBounds_toArray, List.set_cons_zero, List.set_cons_succ]
        refine takeD (i := 7) rfl (by kernel_rfl) (by kernel_rfl) (by kernel_rfl) (fun _ _ _ h => h) hS (Or.inl ⟨by rfl, fun w hSw => by go_simp; rfl⟩) ?_
        simp only [Act.put, List.setIfInBounds_toArray, List.set_cons_zero, List.set_cons_succ]
        refine wpAnyH_done (by kernel_rfl) ?_ _
        simp only [Exit.then]
        have hQ5 := hS.old HF.out.1 id
        have hS5 : StMem W4.drew s O U M MO MU (grew F w W4) lmx lox lux wm := HF.out.2.2.2.2.1.mod hS (fun _ _ h => h)
        have HG := Lib.hid (And.intro (row_mid hQ5) (And.intro hQ5 (And.intro hS5 hS)))
        clear hQ5 hS5 hS
        go_wp2_with (first
          | (refine wpList_load_mid rfl 41 (.tmp 33) rfl Q 1 rfl [.string t0, .string t1, .string t2] _ HG.out.1 Tryz.underlying41 rfl infoTup0 ?_))
        refine (there_any HG.out.2.2.1 (t0, t1, t2)).mono ?_
        rintro e w6 ⟨rfl, hb6⟩
        have b46 : Below W4.heap.size W4 w6 := ((Below.refl W4.heap.size W4).drew).trans hb6
        have hS6 := HF.out.2.2.2.2.1.grown HH.out.2.2.2.2.2.2.2.2 (Nat.le_trans HE.out.2.2.2.1.size HF.out.2.1.size) b46
        have hQ6 := (Mod.of_below b46 (fun _ => False)).old HF.out.1 id
        have m6 : Mod F w w6 := (HE.out.2.2.2.1.trans (Mod.of_below HF.out.2.1 (fun _ => False)) (fun _ h => h.elim)).trans (Mod.of_below b46 (fun _ => False)) (fun _ h => h.elim)
        have c0 : w6.cell? ⟨Q, 0, none⟩ = some (.bool d) := cell_of hQ6 rfl
        obtain ⟨th, hth⟩ : ∃ th, thereOf (aget (smc lmx) (t0, t1, t2)) = th := ⟨_, rfl⟩
        rw [hth]
        have HI := Lib.hid (And.intro (row_mid hQ6) (And.intro hQ6 (And.intro hS6 (And.intro m6 hth))))
        clear hb6 b46 hS6 hQ6 m6 hth
        cases d with
        | true =>
          cases th with
          | true =>
            have hth := HI.out.2.2.2.2
            rcases spans_last HI.out.2.2.1 (t0, t1, t2) with ⟨_, h2⟩ | ⟨_, _, _, h2⟩ | ⟨g, cp, k, P, x, h1, h2, h3, h4, h5, h6, h7⟩
            · rw [h2] at hth; cases hth
            · rw [h2] at hth; cases hth
            · clear hth
              have hvl : vl = .slice (some ⟨g, 0, none⟩) (k + 1) cp := by rw [← HF.out.2.2.2.2.2.2]; exact h1
              subst hvl
              have hown := (HI.out.2.2.1.m.at (t0, t1, t2)).1
              rw [h1, h2] at hown
              have hfree := hown.free (k * 2 + 1)
              have hk : (k : Int) + 1 ≤ 9223372036854775807 := by unfold maxLen at h4; omega
              have hwk : wrap64 (k : Int) = k := by unfold wrap64; omega
              have HK := Lib.hid (And.intro h1 (And.intro h2 (And.intro h3 (And.intro h4 (And.intro h7 hown)))))
              clear h1 h2 h3 h4 h5 h7 hown
              go_wp2
              go_roundg (gk - 1)
              case measure => have := HE.out.2.2.2.2.2; omega
              case rel =>
                obtain ⟨e1, e2, e3, e4, e5, e6, e7, e8⟩ := HE.out
                obtain ⟨i1, i2, i3, i4, i5⟩ := HI.out
                obtain ⟨k1, k2, k3, k4, k5, k6⟩ := HK.out
                have hset := OwnS.set spanC_len k6 (i := k) (j := 1) (x := x) (y := (x.1, rev)) (u := .int .i64 rev) (by rw [← k3]; simp) (by decide) rfl
                have elist : (P ++ [x]).set k (x.1, rev) = P ++ [(x.1, rev)] := by
                  rw [← k3, List.set_append_right _ _ (Nat.le_refl _), Nat.sub_self]
                  rfl
                rw [elist] at hset
                obtain ⟨y, hfind, hy⟩ := slv_find k1
                have mset : Mod (fun b => some b = (Value.slice (some ⟨g, 0, none⟩) (k + 1) cp).ownBlock) w6 (w6.setCell ⟨g, k * 2 + 1, none⟩ (.int .i64 rev)) := Mod.setCell (p := ⟨g, k * 2 + 1, none⟩) (Mod.refl (fun b => some b = (Value.slice (some ⟨g, 0, none⟩) (k + 1) cp).ownBlock) w6) (.inl rfl) _
                have htouch := i3.m.tight.touch hfind mset hset
                have mset2 : Mod (fun b => b = M ∨ blk lmx b) w6 (w6.setCell ⟨g, k * 2 + 1, none⟩ (.int .i64 rev)) := mset.mono (fun b _ hb => .inr (slv_blk (by rw [k1]; exact hb)))
                have hS7 := i3.setM mset2 (htouch.weaken (fun b hb => .inl hb))
                have z6 := i4.size
                have z7 := mset2.size
                refine ⟨t + 1, _, lox, lux, by omega, by go_num, hS7.weaken (fun b hb => ?_) (fun b hb => ?_), ?_, ⟨?_, fun q => Nat.le_trans (e3.o q) (by omega), fun q => Nat.le_trans (e3.u q) (by omega)⟩, i4.trans mset2 (fun b hb => ?_)⟩
                · rcases hb with (hb | hb) | hb
                  · exact .inl hb
                  · exact .inr ⟨hb.1, by omega⟩
                  · exact .inr ⟨by omega, hb.2⟩
                · rcases hb with hb | hb
                  · have := HH.out.2.2.2.2.2.2.2.2 b hb; omega
                  · exact hb.2
                · rw [e2]
                  unfold step3
                  rw [if_pos rfl, if_pos i5, smc_gput, k2, shutL_snoc]
                · rw [smc_gput]
                  refine aget_len_gput i3.m.nodupC (fun q => Nat.le_trans (e3.m q) (by omega)) _ _ ?_
                  have := e3.m (t0, t1, t2)
                  rw [k2] at this
                  rw [List.length_append, List.length_singleton] at this ⊢
                  omega
                · have hg' : grew F w w6 b := by
                    rcases hb with hb | hb
                    · rw [hb]; exact i3.fM
                    · exact i3.m.blk_F b hb
                  rcases hg' with hb | hb
                  · exact .inl hb
                  · exact .inr hb.1
          | false =>
            go_wp2
            go_roundg (gk - 1)
            case measure => have := HE.out.2.2.2.2.2; omega
            case rel =>
              obtain ⟨e1, e2, e3, e4, e5, e6, e7, e8⟩ := HE.out
              refine ⟨t + 1, lmx, lox, lux, by omega, by go_num, HI.out.2.2.1, ?_, e3.mono (by omega), HI.out.2.2.2.1⟩
              rw [e2]
              unfold step3
              rw [if_pos rfl, if_neg (by rw [HI.out.2.2.2.2]; decide)]
        | false =>
          cases th with
          | true =>
            go_wp2
            go_roundg (gk - 1)
            case measure => have := HE.out.2.2.2.2.2; omega
            case rel =>
              obtain ⟨e1, e2, e3, e4, e5, e6, e7, e8⟩ := HE.out
              refine ⟨t + 1, lmx, lox, lux, by omega, by go_num, HI.out.2.2.1, ?_, e3.mono (by omega), HI.out.2.2.2.1⟩
              rw [e2]
              unfold step3
              rw [if_neg (by intro h; cases h), if_pos HI.out.2.2.2.2]
          | false =>
            go_wp2_with (first
              | (refine wpList_load_mid rfl 41 (.tmp 58) rfl Q 1 rfl [.string t0, .string t1, .string t2] _ HI.out.1 Tryz.underlying41 rfl infoTup0 ?_))
            refine (add_mem HI.out.2.2.1 HE.out.2.2.1 HE.out.2.2.2.2.2.2.2 (t0, t1, t2) (rev, 0)).mono ?_
            rintro e w7 ⟨rfl, lm7, lo7, lu7, hS7, a1, a2, a3, m7⟩
            have HJ := Lib.hid (And.intro hS7 (And.intro a1 (And.intro a2 (And.intro a3 m7))))
            clear hS7 a1 a2 a3 m7
            go_wp2
            go_roundg (gk - 1)
            case measure => have := HE.out.2.2.2.2.2; omega
            case rel =>
              obtain ⟨e1, e2, e3, e4, e5, e6, e7, e8⟩ := HE.out
              obtain ⟨j1, j2, j3, j4, j5⟩ := HJ.out
              obtain ⟨i1, i2, i3, i4, i5⟩ := HI.out
              have z6 := i4.size
              have z7 := j5.size
              refine ⟨t + 1, lm7, lo7, lu7, by omega, by go_num, j1.weaken (fun b hb => ?_) (fun b hb => ?_), ?_, ⟨?_, ?_, ?_⟩, i4.trans j5 (fun b hb => ?_)⟩
              · rcases hb with (hb | hb) | hb
                · exact .inl hb
                · exact .inr ⟨hb.1, by omega⟩
                · exact .inr ⟨by omega, hb.2⟩
              · rcases hb with hb | hb
                · have := HH.out.2.2.2.2.2.2.2.2 b hb; omega
                · exact hb.2
              · rw [e2]
                unfold step3
                rw [if_neg (by intro h; cases h), if_neg (by rw [i5]; decide), j2, j3, j4]
              · rw [j2]
                exact aget_len_gput i3.m.nodupC (fun k => Nat.le_trans (e3.m k) (by omega)) _ _ (by rw [List.length_append, List.length_singleton]; have := e3.m (t0, t1, t2); omega)
              · rw [j3]
                exact putC_len i3.o.nodupC e3.o _ _
              · rw [j4]
                exact putC_len i3.u.nodupC e3.u _ _
              · rcases hb with hb | hb
                · exact .inl hb
                · exact .inr hb.1
  · have hq1 : (q == 0) = false := by simp [hq0]
    have eX : X = (smc lm, smc lo, smc lu) := by
      have e1 := HH.out.2.2.2.2.2.2.2.1
      rw [if_neg hq0] at e1
      exact e1.symm
    go_wp2
    go_ret
    exact ⟨rfl, lm, lo, lu, HD.out.1, eX.symm, HH.out.2.2.2.2.2.1.mono (by omega), Mod.of_below HD.out.2.1 F⟩
end
end Go.Proofs.YtojjnfhgldjgbaaGreatDoor.Store
end
section
set_option linter.unusedVariables false
set_option linter.unusedSimpArgs false
namespace Go.Proofs.YtojjnfhgldjgbaaGreatDoor.Store
open Go.RowKit Go.Por Go.Sort Go.Proofs.YtojjnfhgldjgbaaGreatDoor.Watch
/-- The order of the store's rows. -/
def rcm (a b : RowT) : Int := if tcmp a.1 b.1 ≠ 0 then tcmp a.1 b.1 else min (max (a.2.1 - b.2.1) (-1)) 1
theorem rcm_neg {a b : RowT} : rcm a b < 0 ↔ rlt a b := by
  unfold rcm rlt
  by_cases h : a.1 = b.1
  · rw [if_neg (by simp [tcmp_zero.2 h])]
    constructor
    · intro k; exact .inr ⟨h, by omega⟩
    · rintro (k | ⟨_, k⟩)
      · rw [h] at k; exact absurd k (tlt_irrefl _)
      · omega
  · rw [if_pos (fun e => h (tcmp_zero.1 e)), tcmp_neg]
    exact ⟨.inl, fun k => k.elim id (fun k => absurd k.1 h)⟩
theorem rlt_cases (a b : RowT) : rlt a b ∨ (a.1 = b.1 ∧ a.2.1 = b.2.1) ∨ rlt b a := by
  unfold rlt
  rcases tlt_total a.1 b.1 with h | h | h
  · exact .inl (.inl h)
  · rcases Int.lt_trichotomy a.2.1 b.2.1 with k | k | k
    · exact .inl (.inr ⟨h, k⟩)
    · exact .inr (.inl ⟨h, k⟩)
    · exact .inr (.inr (.inr ⟨h.symm, k⟩))
  · exact .inr (.inr (.inl h))
theorem rlt_same {a b c : RowT} (h : a.1 = b.1 ∧ a.2.1 = b.2.1) : rlt a c ↔ rlt b c := by unfold rlt; rw [h.1, h.2]
/-- Rows whose revision is in bounds. -/
abbrev RB := { r : RowT // 0 ≤ r.2.1 ∧ r.2.1 ≤ maxRev }
instance : Inhabited RB := ⟨⟨((⟨#[]⟩, ⟨#[]⟩, ⟨#[]⟩), 0, 0), by decide⟩⟩
theorem rbSwo : SWO (ltOf (fun a b : RB => rcm a.1 b.1)) := by
  have e : ∀ x y : RB, ltOf (fun a b : RB => rcm a.1 b.1) x y = true ↔ rlt x.1 y.1 := fun x y => by
    unfold ltOf
    rw [decide_eq_true_iff]
    exact rcm_neg
  refine ⟨fun x => ?_, fun x y z h k => ?_, fun x y z h k => ?_⟩
  · cases hh : ltOf (fun a b : RB => rcm a.1 b.1) x x with
    | false => rfl
    | true => exact absurd ((e x x).1 hh) (rlt_irrefl _)
  · exact (e x z).2 (rlt_trans ((e x y).1 h) ((e y z).1 k))
  · cases hh : ltOf (fun a b : RB => rcm a.1 b.1) x z with
    | false => rfl
    | true =>
      have h1 := (e x z).1 hh
      have n1 : ¬ rlt x.1 y.1 := fun q => by rw [(e x y).2 q] at h; cases h
      have n2 : ¬ rlt y.1 z.1 := fun q => by rw [(e y z).2 q] at k; cases k
      rcases rlt_cases x.1 y.1 with q | q | q
      · exact absurd q n1
      · exact absurd ((rlt_same q).1 h1) n2
      · exact absurd (rlt_trans q h1) n2
set_option maxRecDepth 100000 in
set_option maxHeartbeats 800000 in
theorem rowcmp_any (a b : RB) (w : World) : Calls Tryz.prog 64 #[.agg (rowC a.1).toArray, .agg (rowC b.1).toArray] w fun e w' => e = .returned (.int .i64 (rcm a.1 b.1)) ∧ Gr w w' := by
  obtain ⟨⟨⟨a0, a1, a2⟩, ar, au⟩, ha1, ha2⟩ := a
  obtain ⟨⟨⟨b0, b1, b2⟩, br, bu⟩, hb1, hb2⟩ := b
  simp only at ha1 ha2 hb1 hb2
  unfold maxRev at ha2 hb2
  unfold rowC rcm
  have hc := fun w => compare_any (a0, a1, a2) (b0, b1, b2) w
  unfold tupC at hc
  obtain ⟨n, hn⟩ : ∃ n, tcmp (a0, a1, a2) (b0, b1, b2) = n := ⟨_, rfl⟩
  rw [hn] at hc
  simp only
  rw [hn]
  have HC := Lib.hid hc
  clear hc hn
  obtain ⟨B, hB⟩ : ∃ B, w.heap.size = B := ⟨_, rfl⟩
  obtain ⟨W2, hW2⟩ : ∃ W2, (w.alloc (.cells #[.string a0, .string a1, .string a2, .int .i64 ar, .int .i64 au] 63)).alloc (.cells #[.string b0, .string b1, .string b2, .int .i64 br, .int .i64 bu] 63) = W2 := ⟨_, rfl⟩
  have hg : Gr w W2 := by rw [← hW2]; exact ((Gr.refl w).alloc _).alloc _
  have p0 : W2.heap[B]? = some (.cells #[.string a0, .string a1, .string a2, .int .i64 ar, .int .i64 au] 63 (0, 0)) := by rw [← hW2, ← hB]; exact block_alloc (block_new w _) _
  have p1 : W2.heap[B + 1]? = some (.cells #[.string b0, .string b1, .string b2, .int .i64 br, .int .i64 bu] 63 (0, 0)) := by
    rw [← hW2, ← hB]
    have := block_new (w.alloc (.cells #[.string a0, .string a1, .string a2, .int .i64 ar, .int .i64 au] 63)) (.cells #[.string b0, .string b1, .string b2, .int .i64 br, .int .i64 bu] 63)
    rw [World.size_alloc] at this
    exact this
  have HW := Lib.hid (And.intro p0 (And.intro p1 hg))
  clear p0 p1 hg
  go_enter Tryz.func64, Tryz.ntmps64
  go_upto_region 1 with fail
  clear hW2 hB
  have x0 : W2.cell? ⟨B, 0, none⟩ = some (.string a0) := cell_of HW.out.1 rfl
  have x1 : W2.cell? ⟨B, 1, none⟩ = some (.string a1) := cell_of HW.out.1 rfl
  have x2 : W2.cell? ⟨B, 2, none⟩ = some (.string a2) := cell_of HW.out.1 rfl
  have y0 : W2.cell? ⟨B + 1, 0, none⟩ = some (.string b0) := cell_of HW.out.2.1 rfl
  have y1 : W2.cell? ⟨B + 1, 1, none⟩ = some (.string b1) := cell_of HW.out.2.1 rfl
  have y2 : W2.cell? ⟨B + 1, 2, none⟩ = some (.string b2) := cell_of HW.out.2.1 rfl
  go_wp2_with fail
  clear x0 x1 x2 y0 y1 y2
  ((with_reducible refine (HC.out _).mono ?_); rintro e w1 ⟨rfl, hg⟩)
  have m1 : Mod (fun _ => False) W2 w1 := Mod.of_below hg.below _
  have c0 := cell_of (i := 3) (m1.old HW.out.1 id) rfl
  have c1 := cell_of (i := 3) (m1.old HW.out.2.1 id) rfl
  have HG := Lib.hid (HW.out.2.2.trans hg)
  clear hg m1
  by_cases hn : n = 0
  · subst hn
    have hd : -1125899906842624 ≤ ar - br ∧ ar - br ≤ 1125899906842624 := by omega
    have hw : wrap64 (ar - br) = ar - br := by unfold wrap64; omega
    go_wp2
    go_ret
    exact ⟨by simp, HG.out⟩
  · have hn' : (n == 0) = false := by simp [hn]
    go_wp2
    go_ret
    exact ⟨by simp [hn], HG.out⟩
theorem aggRow : ∀ w, (isAgg 63).run Tryz.prog w = .ok true w := fun w => by kernel_rfl
theorem sizeRow : ∀ w, (Go.sizeOf 63).run Tryz.prog w = .ok 5 w := fun w => by kernel_rfl
theorem sort_rows {w : World} {v : Value} {l : List RowT} (h : OwnS rowC 5 w 63 v l) (hl : l.length < 4611686018427387904) (hb : ∀ r ∈ l, 0 ≤ r.2.1 ∧ r.2.1 ≤ maxRev) :
    Calls Tryz.prog 63 #[v, .func (.func 64) #[] #[]] w fun e w' =>
      e = .returned (.tuple #[]) ∧ ∃ l' : List RowT, l'.Perm l ∧ l'.Pairwise (fun x y => ¬ rlt y x) ∧ OwnS rowC 5 w' 63 v l' ∧ Mod (fun x => some x = v.ownBlock) w w' := by
  rcases h.form with ⟨rfl, rfl⟩ | ⟨g, cap, rfl, hc1, hc2⟩
  · refine (AnyF.slices_SortFunc_none Tryz.laysSortRow none 0 _ w).mono ?_
    rintro e w' ⟨he, rfl⟩
    exact ⟨he, [], .refl _, List.Pairwise.nil, h, Mod.refl _ _⟩
  · obtain ⟨m, hm⟩ : ∃ m : List RB, m.map Subtype.val = l := ⟨l.attachWith _ hb, List.attachWith_map_subtype_val hb⟩
    have hml : m.length = l.length := by rw [← hm, List.length_map]
    have hf : ∀ x : RB, ((fun x : RB => rowC x.1) x).length = 5 := fun x => rowC_len' x.1
    have hone : ∀ x : RB, ∀ u ∈ (fun x : RB => rowC x.1) x, u.oneCell' = true := fun x => rowC_ones x.1
    have tr : ∀ (W : World) (m : List RB) (l : List RowT) (v : Value), m.map Subtype.val = l → (OwnS (fun x : RB => rowC x.1) 5 W 63 v m ↔ OwnS rowC 5 W 63 v l) := fun W m l v e => by
      subst e
      unfold OwnS
      rw [List.length_map, List.flatMap_map]
    have h' := (tr w m l _ hm).2 h
    rw [← hml] at h' hl ⊢
    have eg : ∀ args w, (callFunc 64 args).run Tryz.prog w = .ok (.enter 64 args) w := enters_of Tryz.func64 (by kernel_rfl) rfl
    have hcon := AnyQ.slices_SortFunc Tryz.laysSortRow 5 aggRow sizeRow (fun x : RB => rowC x.1) hf hone (fun a b : RB => rcm a.1 b.1) rbSwo 64 #[] g 0 cap m.toArray w eg (fun _ _ _ _ x y => rowcmp_any x y _) (h'.holds hf) h'.lt (by simpa using hl)
    refine hcon.mono ?_
    rintro e w' ⟨he, d', n, os, hp, hs, rfl⟩
    have hperm := hp.2.2
    have hlen : d'.toList.length = m.length := by have := hp.1; simpa using this
    have e1 : (d'.extract 0 m.toArray.size).toList = d'.toList := by
      have := hp.1
      simp only [List.size_toArray] at this ⊢
      rw [← this]
      simp
    have e2 : (m.toArray.extract 0 m.toArray.size).toList = m := by simp
    rw [e1, e2] at hperm
    have hso := h'.sorted hf (l' := d'.toList) hlen n os
    rw [Array.toArray_toList] at hso
    refine ⟨he, d'.toList.map Subtype.val, by rw [← hm]; exact hperm.map _, ?_, (tr _ _ _ _ rfl).1 hso.1, hso.2.mono (fun x _ hx => by rw [show x = g from hx]; rfl)⟩
    rw [List.pairwise_map]
    refine List.pairwise_iff_getElem.2 (fun i j hi hj hij => ?_)
    have hsz : d'.size = m.toArray.size := hp.1
    have h1 := hs i j (Nat.zero_le _) hij (by rw [← hsz, ← Array.length_toList]; exact hj)
    intro hlt
    rw [getElem!_pos d' i (by rw [← Array.length_toList]; exact hi), getElem!_pos d' j (by rw [← Array.length_toList]; exact hj)] at h1
    unfold ltOf at h1
    have h2 := of_decide_eq_false h1
    exact h2 (rcm_neg.2 (by simpa using hlt))
end Go.Proofs.YtojjnfhgldjgbaaGreatDoor.Store
end
section
set_option linter.unusedVariables false
set_option linter.unusedSimpArgs false
namespace Go.Por
open Go.RowKit Go.MapKept

/-- A list without repetitions whose members lie in another is a part of it. -/
theorem nodup_part {α : Type} [DecidableEq α] : ∀ {a b : List α}, a.Nodup → (∀ x ∈ a, x ∈ b) → ∃ c, b.Perm (a ++ c)
  | [], b, _, _ => ⟨b, .refl _⟩
  | x :: a, b, hn, hs => by
    rw [List.nodup_cons] at hn
    have hx : x ∈ b := hs x (by simp)
    obtain ⟨c, hc⟩ := nodup_part (a := a) (b := b.erase x) hn.2 (fun y hy => (List.mem_erase_of_ne (fun (e : y = x) => hn.1 (by rw [← e]; exact hy))).2 (hs y (by simp [hy])))
    exact ⟨c, (List.perm_cons_erase hx).trans (hc.cons x)⟩
theorem nodup_length {α : Type} [DecidableEq α] {a b : List α} (hn : a.Nodup) (hs : ∀ x ∈ a, x ∈ b) : a.length ≤ b.length := by
  obtain ⟨c, hc⟩ := nodup_part hn hs
  rw [hc.length_eq]; simp
theorem nodup_perm {α : Type} [DecidableEq α] {a b : List α} (hn : a.Nodup) (hs : ∀ x ∈ a, x ∈ b) (hl : b.length ≤ a.length) : a.Perm b := by
  obtain ⟨c, hc⟩ := nodup_part hn hs
  have : c = [] := by
    have := hc.length_eq
    simp at this
    exact List.length_eq_zero_iff.1 (by omega)
  subst this
  simpa using hc.symm

section
variable {P : Program} {kt et t : TypeId} {κ : Type} {enc : κ → Value} {w : World} {M I : Nat} {l : List (κ × Value)}

/-- Block I goes over the map of block M; 'done' has come already. -/
def IterIs (w : World) (I M : Nat) (enc : κ → Value) (l done : List (κ × Value)) : Prop :=
  ∃ es clock, w.heap[M]? = some (.map es clock) ∧ es.toList.map (fun e => (e.key, e.val)) = l.map (fun p => (enc p.1, p.2)) ∧ (l.map Prod.fst).Nodup ∧
    (∀ e ∈ es.toList, e.born < clock) ∧ (es.toList.map (·.born)).Nodup ∧
    ∃ idx : List Nat, idx.Nodup ∧ (∀ i ∈ idx, i < l.length) ∧ done.map some = idx.map (fun i => l[i]?) ∧
      ∃ seen : Array Nat, w.heap[I]? = some (.mapIter (some M) clock seen clock) ∧ seen.toList.map some = idx.map (fun i => (es.toList[i]?).map (·.born))

theorem IterIs.map {done : List (κ × Value)} (h : IterIs w I M enc l done) : MapIs w M enc l := by
  obtain ⟨es, clock, h1, h2, h3, h4, h5, _⟩ := h
  exact ⟨es, clock, h1, h2, h3, h4, h5⟩
theorem IterIs.ltI {done : List (κ × Value)} (h : IterIs w I M enc l done) : I < w.heap.size := by
  obtain ⟨es, clock, h1, h2, h3, h4, h5, idx, _, _, _, seen, hs, _⟩ := h
  exact lt_block hs
theorem IterIs.keep {done : List (κ × Value)} {w' : World} (h : IterIs w I M enc l done) (hM : w'.heap[M]? = w.heap[M]?) (hI : w'.heap[I]? = w.heap[I]?) : IterIs w' I M enc l done := by
  obtain ⟨es, clock, h1, h2, h3, h4, h5, idx, h6, h7, h8, seen, hs, h9⟩ := h
  exact ⟨es, clock, hM.trans h1, h2, h3, h4, h5, idx, h6, h7, h8, seen, hI.trans hs, h9⟩
theorem IterIs.mod {done : List (κ × Value)} {S : Nat → Prop} {w' : World} (h : IterIs w I M enc l done) (hm : Mod S w w') (h1 : ¬ S M) (h2 : ¬ S I) : IterIs w' I M enc l done :=
  h.keep (hm.block M h.map.lt h1) (hm.block I h.ltI h2)

/-- 'range m'. -/
theorem MapIs.range (ht : P.underlying t = some (.map kt et)) (h : MapIs w M enc l) :
    ∃ o, (Instr.range t (.map (some M))).run P w = .ok (.pointer (some ⟨w.heap.size, 0, none⟩)) (w.alloc o) ∧ IterIs (w.alloc o) w.heap.size M enc l [] := by
  have hlt := h.lt
  obtain ⟨es, clock, hb, he, hn, hborn, hbn⟩ := h
  refine ⟨.mapIter (some M) clock #[] clock, by simp [Instr.range, run_underlying ht, MapKept.run_getObj_map hb, Result.andThen], ?_⟩
  exact ⟨es, clock, (Below.heap_alloc _ _ _ hlt).trans hb, he, hn, hborn, hbn, [], by simp, by simp, rfl, #[], block_new _ _, rfl⟩

theorem run_getObj_iter {m : Option Nat} {a b : Nat} {s : Array Nat} (hb : w.heap[I]? = some (.mapIter m a s b)) : (getObj I).run P w = .ok (.mapIter m a s b) w := by
  simp [getObj, Sem.run, hb]
theorem run_setObj_iter {m : Option Nat} {a b : Nat} {s : Array Nat} (o : Obj) (hb : w.heap[I]? = some (.mapIter m a s b)) : (setObj I o).run P w = .ok () (setB w I o) := by
  simp [setObj, Sem.run, hb, setB]

/-- The next entry: none is left, or some one that has not come yet. -/
theorem IterIs.next {done : List (κ × Value)} (h : IterIs w I M enc l done) :
    (done.length = l.length ∧ ∀ ty, (Instr.next (.pointer (some ⟨I, 0, none⟩)) false ty).run P w = .ok (.tuple #[.bool false]) w) ∨
    ∃ k v w', done.length < l.length ∧ (k, v) ∈ l ∧ (k, v) ∉ done ∧ (∀ ty, (Instr.next (.pointer (some ⟨I, 0, none⟩)) false ty).run P w = .ok (.tuple #[.bool true, enc k, v]) w') ∧
      IterIs w' I M enc l (done ++ [(k, v)]) ∧ Mod (fun x => x = I) w w' ∧ (Instr.entry (.pointer (some ⟨I, 0, none⟩))).run P w' = .ok (.tuple #[enc k, v]) w' := by
  obtain ⟨es, clock, hb, he, hn, hborn, hbn, idx, h6, h7, h8, seen, hs, h9⟩ := h
  have hlen : es.size = l.length := by simpa using congrArg List.length he
  have hdl : done.length = idx.length := by simpa using congrArg List.length h8
  have hMI : M ≠ I := by intro e; subst e; rw [hb] at hs; simp at hs
  -- what has been seen
  have hseen : ∀ (i : Nat) (e : MapEntry), es.toList[i]? = some e → (e.born ∈ seen.toList ↔ i ∈ idx) := by
    intro i e hi
    constructor
    · intro hm
      have : some e.born ∈ idx.map (fun i => (es.toList[i]?).map (·.born)) := by rw [← h9]; exact List.mem_map.2 ⟨_, hm, rfl⟩
      obtain ⟨j, hj, ej⟩ := List.mem_map.1 this
      cases hx : es.toList[j]? with
      | none => simp [hx] at ej
      | some x =>
        simp [hx] at ej
        have hi' : i < es.toList.length := by
          rcases Nat.lt_or_ge i es.toList.length with h | h
          · exact h
          · simp [List.getElem?_eq_none h] at hi
        have hj' : j < es.toList.length := by
          rcases Nat.lt_or_ge j es.toList.length with h | h
          · exact h
          · simp [List.getElem?_eq_none h] at hx
        have q1 : es.toList[i] = e := by simpa [List.getElem?_eq_getElem hi'] using hi
        have q2 : es.toList[j] = x := by simpa [List.getElem?_eq_getElem hj'] using hx
        have a1 : (es.toList.map (·.born))[i]'(by simpa using hi') = (es.toList.map (·.born))[j]'(by simpa using hj') := by
          rw [List.getElem_map, List.getElem_map, q1, q2, ej]
        have := (List.getElem_inj hbn).1 a1
        subst this
        exact hj
    · intro hm
      have : some e.born ∈ seen.toList.map some := by rw [h9]; exact List.mem_map.2 ⟨i, hm, by rw [hi]; rfl⟩
      obtain ⟨x, hx, ex⟩ := List.mem_map.1 this
      cases ex
      exact hx
  have hcont : ∀ e : MapEntry, seen.contains e.born = decide (e.born ∈ seen.toList) := fun e => by
    rw [Bool.eq_iff_iff]; simp
  -- the entries that are left
  obtain ⟨left, hleft⟩ : ∃ left : Array MapEntry, left = es.filter fun e => !seen.contains e.born := ⟨_, rfl⟩
  have hleftmem : ∀ e, e ∈ left.toList ↔ ∃ i, es.toList[i]? = some e ∧ i ∉ idx := by
    intro e
    rw [hleft]
    simp only [Array.toList_filter, List.mem_filter]
    constructor
    · rintro ⟨hm, hc⟩
      obtain ⟨i, hi⟩ := List.getElem?_of_mem hm
      refine ⟨i, hi, fun hx => ?_⟩
      have := (hseen i e hi).2 hx
      rw [hcont e] at hc
      simp at hc
      exact hc (by simpa using this)
    · rintro ⟨i, hi, hx⟩
      refine ⟨List.mem_of_getElem? hi, ?_⟩
      rw [hcont e]
      have := mt (hseen i e hi).1 hx
      simp
      simpa using this
  have hold : left.filter (fun e => decide (e.born < clock)) = left := by
    apply Array.toList_inj.1
    rw [Array.toList_filter, List.filter_eq_self]
    intro e he'
    obtain ⟨i, hi, _⟩ := (hleftmem e).1 he'
    simpa using hborn e (List.mem_of_getElem? hi)
  have hnew : left.filter (fun e => decide (e.born ≥ clock)) = #[] := by
    apply Array.toList_inj.1
    rw [Array.toList_filter]
    simp only [List.filter_eq_nil_iff]
    intro e he'
    obtain ⟨i, hi, _⟩ := (hleftmem e).1 he'
    have := hborn e (List.mem_of_getElem? hi)
    simp; omega
  have hguard : (!seen.isEmpty && !es.isEmpty && es.all (fun e => decide (e.born ≥ clock))) = false := by
    cases hes : es.toList with
    | nil =>
      have : es = #[] := Array.toList_inj.1 hes
      subst this; simp
    | cons x r =>
      have hx := hborn x (by rw [hes]; simp)
      have : es.all (fun e => decide (e.born ≥ clock)) = false := by
        rw [← Array.all_toList, hes]
        simp; omega
      rw [this]; simp
  by_cases hdone : left.toList = []
  · -- nothing is left
    have hl0 : left = #[] := Array.toList_inj.1 hdone
    left
    refine ⟨?_, ?_⟩
    · rw [hdl]
      have h1 : (List.range l.length).length ≤ idx.length := by
        refine nodup_length List.nodup_range (fun i hi => ?_)
        have hi' := List.mem_range.1 hi
        have hi2 : i < es.toList.length := by simpa [hlen] using hi'
        refine Classical.byContradiction fun hx => ?_
        have : es.toList[i] ∈ left.toList := (hleftmem _).2 ⟨i, List.getElem?_eq_getElem hi2, hx⟩
        rw [hdone] at this
        cases this
      have h2 : idx.length ≤ (List.range l.length).length := nodup_length h6 (fun i hi => List.mem_range.2 (h7 i hi))
      simp at h1 h2
      omega
    · intro ty
      simp only [Instr.next, Sem.run_bind, run_getObj_iter hs, MapKept.run_getObj_map hb, Result.andThen, hguard, ← hleft, hl0]
      simp [choose, Sem.run, Question.forced]
  · -- some entry comes
    right
    have hpos : 0 < left.size := by
      rcases Nat.eq_zero_or_pos left.size with h | h
      · exact absurd (by simpa using Array.size_eq_zero_iff.1 h) hdone
      · exact h
    have hne : left.isEmpty = false := by
      cases hh : left.isEmpty with
      | false => rfl
      | true => exact absurd (by simpa using hh) hdone
    obtain ⟨c, w1, hcw, hcl, hw1⟩ : ∃ (c : Nat) (w1 : World), (choose (.mapNext left.size)).run P w = .ok c w1 ∧ c < left.size ∧ (w1 = w ∨ w1 = w.drew) := by
      by_cases hf : Question.forced (.mapNext left.size) = true
      · refine ⟨0, w, by simp [choose, Sem.run, hf], hpos, .inl rfl⟩
      · have hf' : Question.forced (.mapNext left.size) = false := by simpa using hf
        refine ⟨_, w.drew, by simp [choose, Sem.run, hf']; rfl, ?_, .inr rfl⟩
        exact Nat.mod_lt _ hpos
    obtain ⟨e, hce⟩ : ∃ e, left[c]? = some e := ⟨_, Array.getElem?_eq_getElem hcl⟩
    have hel : e ∈ left.toList := by
      have := Array.mem_of_getElem? hce
      simpa using this
    obtain ⟨i, hi, hix⟩ := (hleftmem e).1 hel
    obtain ⟨p, hp, hk, hv⟩ := map_at he hi
    have hil : i < l.length := by
      rcases Nat.lt_or_ge i l.length with h | h
      · exact h
      · simp [List.getElem?_eq_none h] at hp
    have hb1 : w1.heap = w.heap := by rcases hw1 with rfl | rfl <;> rfl
    have hs1 : w1.heap[I]? = some (.mapIter (some M) clock seen clock) := by rw [hb1]; exact hs
    have hIl : I < w1.heap.size := lt_block hs1
    have hrun : ∀ ty, (Instr.next (.pointer (some ⟨I, 0, none⟩)) false ty).run P w = .ok (.tuple #[.bool true, enc p.1, p.2]) (setB w1 I (.mapIter (some M) clock (seen.push e.born) clock)) := by
      intro ty
      have hcand : ((if left.isEmpty then #[none] else #[]) ++ (left ++ #[]).map some : Array (Option MapEntry)) = left.map some := by
        rw [hne]; simp
      have hsz : (left.map some).size = left.size := by simp
      have hget : (left.map some)[c]? = some (some e) := by simp [hce]
      simp only [Instr.next, Sem.run_bind, run_getObj_iter hs, MapKept.run_getObj_map hb, Result.andThen, hguard, ← hleft, hold, hnew, hcand, hsz]
      rw [if_neg (by decide), Sem.run_bind, hcw]
      simp only [Result.andThen, hget]
      simp [run_setObj_iter _ hs1, Result.andThen, hk, hv]
    have hnd : (p.1, p.2) ∉ done := by
      intro hm
      have : some (p.1, p.2) ∈ idx.map (fun i => l[i]?) := by rw [← h8]; exact List.mem_map.2 ⟨_, hm, rfl⟩
      obtain ⟨j, hj, ej⟩ := List.mem_map.1 this
      have hjl := h7 j hj
      have q1 : l[i] = p := by simpa [List.getElem?_eq_getElem hil] using hp
      have q2 : l[j] = (p.1, p.2) := by simpa [List.getElem?_eq_getElem hjl] using ej
      have a1 : (l.map Prod.fst)[i]'(by simpa using hil) = (l.map Prod.fst)[j]'(by simpa using hjl) := by
        rw [List.getElem_map, List.getElem_map, q1, q2]
      have := (List.getElem_inj hn).1 a1
      subst this
      exact hix hj
    have hlt : done.length < l.length := by
      rw [hdl]
      have h1 : (i :: idx).length ≤ (List.range l.length).length := by
        refine nodup_length (List.nodup_cons.2 ⟨hix, h6⟩) (fun j hj => ?_)
        rcases List.mem_cons.1 hj with rfl | hj
        · exact List.mem_range.2 hil
        · exact List.mem_range.2 (h7 j hj)
      simp at h1
      omega
    have hMb : (setB w1 I (.mapIter (some M) clock (seen.push e.born) clock)).heap[M]? = some (.map es clock) := by
      rw [(setB_mod w1 I _).block M (by rw [hb1]; exact lt_block hb) hMI, hb1]; exact hb
    have hIb : (setB w1 I (.mapIter (some M) clock (seen.push e.born) clock)).heap[I]? = some (.mapIter (some M) clock (seen.push e.born) clock) := by simp [setB, hIl]
    refine ⟨p.1, p.2, _, hlt, List.mem_of_getElem? hp, hnd, hrun, ?_, ?_, ?_⟩
    · refine ⟨es, clock, hMb, he, hn, hborn, hbn, idx ++ [i], ?_, ?_, ?_, seen.push e.born, hIb, ?_⟩
      · rw [List.nodup_append]
        exact ⟨h6, by simp, fun a ha b hb' => by simp at hb'; subst hb'; intro e'; subst e'; exact hix ha⟩
      · intro j hj
        rcases List.mem_append.1 hj with hj | hj
        · exact h7 j hj
        · simp at hj; subst hj; exact hil
      · rw [List.map_append, List.map_append, h8]; simp [hp]
      · rw [Array.toList_push, List.map_append, List.map_append, h9]
        simp only [List.map_cons, List.map_nil, hi, Option.map_some]
    · rcases hw1 with rfl | rfl
      · exact setB_mod _ _ _
      · exact ((Mod.refl _ w).drew).trans' (setB_mod _ _ _)
    · have hfind : es.find? (fun x => x.born == e.born) = some e := by
        rw [← Array.find?_toList]
        have hm : e ∈ es.toList := List.mem_of_getElem? hi
        cases hf : es.toList.find? (fun x => x.born == e.born) with
        | none => exact absurd (List.find?_eq_none.1 hf e hm) (by simp)
        | some x =>
          have h1 := List.mem_of_find?_eq_some hf
          have h2 := List.find?_some hf
          simp at h2
          obtain ⟨j, hj⟩ := List.getElem?_of_mem h1
          have hi' : i < es.toList.length := by
            rcases Nat.lt_or_ge i es.toList.length with h | h
            · exact h
            · simp [List.getElem?_eq_none h] at hi
          have hj' : j < es.toList.length := by
            rcases Nat.lt_or_ge j es.toList.length with h | h
            · exact h
            · simp [List.getElem?_eq_none h] at hj
          have q1 : es.toList[i] = e := by simpa [List.getElem?_eq_getElem hi'] using hi
          have q2 : es.toList[j] = x := by simpa [List.getElem?_eq_getElem hj'] using hj
          have a1 : (es.toList.map (·.born))[i]'(by simpa using hi') = (es.toList.map (·.born))[j]'(by simpa using hj') := by
            rw [List.getElem_map, List.getElem_map, q1, q2, h2]
          have := (List.getElem_inj hbn).1 a1
          subst this
          rw [← q2, q1]
      simp [Instr.entry, run_getObj_iter hIb, MapKept.run_getObj_map hMb, Result.andThen, hfind, hk, hv]

/-- Where all have come, just the map's entries have. -/
theorem IterIs.all {done : List (κ × Value)} (h : IterIs w I M enc l done) (hd : done.length = l.length) : done.Perm l := by
  obtain ⟨es, clock, h1, h2, h3, h4, h5, idx, h6, h7, h8, _⟩ := h
  have hdl : done.length = idx.length := by simpa using congrArg List.length h8
  have hp : idx.Perm (List.range l.length) := by
    refine nodup_perm h6 (fun i hi => List.mem_range.2 (h7 i hi)) ?_
    simp; omega
  have h9 : (done.map some).Perm ((List.range l.length).map (fun i => l[i]?)) := by rw [h8]; exact hp.map _
  have e : (List.range l.length).map (fun i => l[i]?) = l.map some := by
    apply List.ext_getElem?
    intro i
    simp only [List.getElem?_map]
    rcases Nat.lt_or_ge i l.length with hi | hi
    · simp [hi]
    · simp [hi]
  rw [e] at h9
  have h10 := h9.filterMap id
  simpa [List.filterMap_map] using h10
end
end Go.Por
end
