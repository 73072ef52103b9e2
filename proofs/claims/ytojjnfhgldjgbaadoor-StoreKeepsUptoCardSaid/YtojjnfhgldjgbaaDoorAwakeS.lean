/- porterlaw07.awake. -/
import Derived.Test.YtojjnfhgldjgbaaDoorUsersP
import Derived.Test.YtojjnfhgldjgbaaDoorApplyP
import Derived.Test.YtojjnfhgldjgbaaDoorRowsM
import Derived.Handy
set_option linter.unusedVariables false
set_option linter.unusedSimpArgs false
namespace Go.Proofs.YtojjnfhgldjgbaaDoor.Store
open Go.RowKit Go.Por Go.Sort Go.Proofs.YtojjnfhgldjgbaaDoor.Watch Go.Por.Tupl
def docA : ByteArray := ⟨#[100, 111, 99, 58, 97]⟩
def viewerS : ByteArray := ⟨#[118, 105, 101, 119, 101, 114]⟩
def annS : ByteArray := ⟨#[117, 115, 101, 114, 58, 97, 110, 110]⟩
def annT : Tup := (docA, viewerS, annS)
theorem ann_chk : tchk annT = 0 := by decide +kernel
theorem chk1 : checkA [] 0 3 [(false, annT)] = 0 := by
  unfold checkA checkL checkL maxRev
  rw [ann_chk]
  decide +kernel
theorem app1 : apply3 3 ([], [], []) [(false, annT)] = ([(annT, [(3, 0)])], [((docA, viewerS), [annT])], [(annS, [annT])]) := by
  kernel_rfl
theorem chk2 : checkA [(annT, [(3, 0)])] 0 5 [(true, annT)] = 0 := by
  unfold checkA checkL checkL maxRev
  rw [ann_chk]
  decide +kernel
theorem app2 : apply3 5 ([(annT, [(3, 0)])], [((docA, viewerS), [annT])], [(annS, [annT])]) [(true, annT)] = ([(annT, [(3, 5)])], [((docA, viewerS), [annT])], [(annS, [annT])]) := by
  kernel_rfl
theorem has4 : (decide (readA 0 4 = 0) && atA [(annT, [(3, 5)])] annT 4) = true := by kernel_rfl
theorem has5 : (decide (readA 0 5 = 0) && atA [(annT, [(3, 5)])] annT 5) = false := by kernel_rfl
theorem users3 : usersL [(annT, [(3, 5)])] 3 (aget [((docA, viewerS), [annT])] (docA, viewerS)) = [annS] := by kernel_rfl
theorem flat1 : flatA [(annT, [(3, 5)])] = [(annT, 3, 5)] := rfl
theorem viewer_any (w : World) (u : ByteArray) : Calls Tryd.prog 7 #[.string u] w fun e w' => e = .returned (.agg #[.string docA, .string viewerS, .string u]) ∧ Below w.heap.size w w' := by
  go_enter Tryd.func7, Tryd.ntmps7
  go_wp2
  go_returns
  exact ⟨rfl, (Below.refl _ w).alloc (Nat.le_refl _) _⟩
section
variable {w : World} {s O U M MO MU : Nat} {F : Nat → Prop} {lm : List (Tup × (Value × List Span))} {lo : List (PairT × (Value × List Tup))} {lu : List (ByteArray × (Value × List Tup))} {wm : Int}
/-- Apply of one mutation, that lies in a new block. -/
theorem apply_one (h : StMem w s O U M MO MU F lm lo lu wm) {N : Nat} (hN : Short N lm lo lu) (hN2 : N + 1 ≤ 1099511627776) (m : Mut) (hok : TupOk m.2) (rev : Int) :
    Calls Tryd.prog 8 #[.pointer (some ⟨s, 0, none⟩), .int .i64 rev, .slice (some ⟨w.heap.size, 0, none⟩) 1 1] (w.alloc (.cells (mutC m).toArray 30)) fun e w' => e = .returned (.int .i64 (checkA (smc lm) wm rev [m])) ∧
      ∃ lm' lo' lu', StMem w' s O U M MO MU (grew F w w') lm' lo' lu' wm ∧ (smc lm', smc lo', smc lu') = (if checkA (smc lm) wm rev [m] = 0 then apply3 rev (smc lm, smc lo, smc lu) [m] else (smc lm, smc lo, smc lu)) ∧ Short (N + 1) lm' lo' lu' ∧ Mod F w w' := by
  have hb := block_new w (.cells (mutC m).toArray 30)
  have ma : Mod (fun _ => False) w (w.alloc (.cells (mutC m).toArray 30)) := (Mod.refl _ w).alloc _
  have sa : (w.alloc (.cells (mutC m).toArray 30)).heap.size = w.heap.size + 1 := by rw [World.size_alloc]
  refine (apply_mem (h.mod ma (fun _ _ h => h)) hN (OwnS.read mutC_len (OwnS.one (mutC_len m) hb)) (fun _ k hk hF => ?_) (fun m' hm' => by rw [List.mem_singleton] at hm'; rw [hm']; exact hok) hN2 rev).mono ?_
  · simp only [Value.ownBlock, Option.some.injEq] at hk
    have := h.lt k hF
    omega
  · rintro e w' ⟨he, lm', lo', lu', h1, h2, h3, h4⟩
    have z := h4.size
    refine ⟨he, lm', lo', lu', h1.weaken (fun b hb => ?_) (fun b hb => ?_), h2, h3, (ma.mono (S' := F) (fun _ _ h => h.elim)).trans' h4⟩
    · rcases hb with hb | hb
      · exact .inl hb
      · exact .inr ⟨by omega, hb.2⟩
    · rcases hb with hb | hb
      · have := h.lt b hb; omega
      · exact hb.2
end
theorem annOk : TupOk annT := by
  unfold TupOk annT docA viewerS annS
  decide
set_option maxRecDepth 100000 in
set_option maxHeartbeats 800000 in
theorem awake_any (w : World) : Calls Tryd.prog 5 #[] w fun e w' => e = .returned (.bool true) ∧ Below w.heap.size w w' := by
  have hv : ∀ W : World, Calls Tryd.prog 7 #[.string annS] W fun e w' => e = .returned (.agg #[.string docA, .string viewerS, .string annS]) ∧ Below W.heap.size W w' := fun W => viewer_any W annS
  have HV := Lib.hid hv
  clear hv
  go_enter Tryd.func5, Tryd.ntmps5
  go_wp2_with fail
  refine (new_any _).mono ?_
  rintro e w1 ⟨s, rfl, ⟨O, U, M, MO, MU, lm, lo, lu, h1, e1, e2, e3⟩, b1⟩
  have hsh : Short 0 lm lo lu := ⟨fun k => by rw [e1]; exact Nat.le_refl _, fun k => by rw [e2]; exact Nat.le_refl _, fun k => by rw [e3]; exact Nat.le_refl _⟩
  have H1 := Lib.hid (And.intro h1 (And.intro e1 (And.intro e2 (And.intro e3 (And.intro b1 hsh)))))
  clear h1 e1 e2 e3 b1 hsh
  go_wp2_with fail
  refine (HV.out _).mono ?_
  rintro e w2 ⟨rfl, b2⟩
  have h2 := H1.out.1.below b2
  have B2 := Lib.hid (And.intro (H1.out.2.2.2.2.1.trans (b2.mono H1.out.2.2.2.2.1.size)) h2)
  clear b2 h2
  go_wp2_with fail
  refine (apply_one B2.out.2 H1.out.2.2.2.2.2 (by decide) (false, annT) annOk 3).mono ?_
  rintro e w3 ⟨rfl, lm3, lo3, lu3, h3, p3, s3, m3⟩
  rw [H1.out.2.1, H1.out.2.2.1, H1.out.2.2.2.1, chk1, if_pos rfl, app1] at p3
  rw [H1.out.2.1, chk1]
  have q1 := congrArg (fun x : St3 => x.1) p3
  have q2 := congrArg (fun x : St3 => x.2.1) p3
  have q3 := congrArg (fun x : St3 => x.2.2) p3
  have b3 : Below w.heap.size w w3 := B2.out.1.trans (m3.to_below B2.out.1.size (fun b hb => hb.1))
  have H3 := Lib.hid (And.intro h3 (And.intro q1 (And.intro q2 (And.intro q3 (And.intro b3 s3)))))
  clear h3 p3 s3 m3 q1 q2 q3 b3
  go_wp2_with fail
  refine (HV.out _).mono ?_
  rintro e w4 ⟨rfl, b4⟩
  have h4 := H3.out.1.below b4
  have B4 := Lib.hid (And.intro (H3.out.2.2.2.2.1.trans (b4.mono H3.out.2.2.2.2.1.size)) h4)
  clear b4 h4
  go_wp2_with fail
  refine (apply_one B4.out.2 H3.out.2.2.2.2.2 (by decide) (true, annT) annOk 5).mono ?_
  rintro e w5 ⟨rfl, lm5, lo5, lu5, h5, p5, s5, m5⟩
  rw [H3.out.2.1, H3.out.2.2.1, H3.out.2.2.2.1, chk2, if_pos rfl, app2] at p5
  rw [H3.out.2.1, chk2]
  have q1 := congrArg (fun x : St3 => x.1) p5
  have q2 := congrArg (fun x : St3 => x.2.1) p5
  have q3 := congrArg (fun x : St3 => x.2.2) p5
  have b5 : Below w.heap.size w w5 := B4.out.1.trans (m5.to_below B4.out.1.size (fun b hb => by rcases hb with hb | hb; exact hb.1; exact Nat.le_trans B2.out.1.size hb.1))
  have H5 := Lib.hid (And.intro h5 (And.intro q1 (And.intro q2 (And.intro q3 (And.intro b5 s5)))))
  clear h5 p5 s5 m5 q1 q2 q3 b5
  go_wp2_with fail
  refine (HV.out _).mono ?_
  rintro e w6 ⟨rfl, b6⟩
  have h6 := H5.out.1.below b6
  have B6 := Lib.hid (And.intro (H5.out.2.2.2.2.1.trans (b6.mono H5.out.2.2.2.2.1.size)) h6)
  clear b6 h6
  go_wp2_with fail
  refine (has_mem B6.out.2 annT 4 (Nat.le_trans (H5.out.2.2.2.2.2.m _) (by decide))).mono ?_
  rintro e w7 ⟨rfl, b7⟩
  rw [H5.out.2.1, has4, show readA 0 4 = 0 from rfl]
  have h7 := B6.out.2.below b7
  have B7 := Lib.hid (And.intro (B6.out.1.trans (b7.mono B6.out.1.size)) h7)
  clear b7 h7
  go_wp2_with fail
  refine (HV.out _).mono ?_
  rintro e w8 ⟨rfl, b8⟩
  have h8 := B7.out.2.below b8
  have B8 := Lib.hid (And.intro (B7.out.1.trans (b8.mono B7.out.1.size)) h8)
  clear b8 h8
  go_wp2_with fail
  refine (has_mem B8.out.2 annT 5 (Nat.le_trans (H5.out.2.2.2.2.2.m _) (by decide))).mono ?_
  rintro e w9 ⟨rfl, b9⟩
  rw [H5.out.2.1, has5, show readA 0 5 = 0 from rfl]
  have h9 := B8.out.2.below b9
  have B9 := Lib.hid (And.intro (B8.out.1.trans (b9.mono B8.out.1.size)) h9)
  clear b9 h9
  go_wp2_with fail
  refine (users_mem B9.out.2 H5.out.2.2.2.2.2 (by decide) docA viewerS 3).mono ?_
  rintro e w10 ⟨v10, rfl, o10, b10, _⟩
  rw [H5.out.2.1, H5.out.2.2.1, show readA 0 3 = 0 from rfl, if_pos rfl, users3] at o10
  rw [show readA 0 3 = 0 from rfl]
  have hl10 : (sortB [annS]).length = 1 := (sortB_perm [annS]).length_eq
  obtain ⟨g10, c10, rfl⟩ : ∃ g cap, v10 = .slice (some ⟨g, 0, none⟩) 1 cap := by
    rcases o10.form with ⟨_, h⟩ | ⟨g, cap, h, _⟩
    · rw [h] at hl10; cases hl10
    · rw [hl10] at h; exact ⟨g, cap, h⟩
  have h10 := B9.out.2.below b10
  have B10 := Lib.hid (And.intro (B9.out.1.trans (b10.mono B9.out.1.size)) h10)
  clear b10 h10 o10 hl10
  go_wp2_with fail
  refine (rows_mem B10.out.2 (by rw [H5.out.2.1, flat1]; decide) (by rw [H5.out.2.1, flat1]; intro r hr; rw [List.mem_singleton] at hr; rw [hr]; decide)).mono ?_
  rintro e w11 ⟨v11, rfl, l11, p11, _, o11, b11, _⟩
  rw [H5.out.2.1, flat1] at p11
  have hl11 : l11.length = 1 := p11.length_eq
  obtain ⟨g11, c11, rfl⟩ : ∃ g cap, v11 = .slice (some ⟨g, 0, none⟩) 1 cap := by
    rcases o11.form with ⟨_, h⟩ | ⟨g, cap, h, _⟩
    · rw [h] at hl11; cases hl11
    · rw [hl11] at h; exact ⟨g, cap, h⟩
  have B11 := Lib.hid (B10.out.1.trans (b11.mono B10.out.1.size))
  clear b11 o11 hl11 p11
  go_wp2
  go_ret
  exact ⟨rfl, B11.out⟩
end Go.Proofs.YtojjnfhgldjgbaaDoor.Store
