/- WatchPlays, where what came in is of bulk at most 1048576: changes between two revisions of a store lead from the one's tuples to the other's, and back. -/
import Derived.Test.YtojjnfhgldjgbaaGreatDoorRows
import Derived.Test.YtojjnfhgldjgbaaGreatDoorCards
import Derived.Test.YtojjnfhgldjgbaaGreatDoorTie
import Derived.WalkKit
import Derived.ProofKit
import Derived.OpenShut
import Derived.ShutString
import Derived.ChangeOld
import Derived.Below
import Derived.LaidMore
import Derived.Lay
import Derived.Stop.Joined
import Derived.SevenTiedAt
import Derived.Deep.DeepHandedRow
import Derived.JoinedCond
import Derived.Test.YtojjnfhgldjgbaaGreatDoorSpA
import Derived.Test.YtojjnfhgldjgbaaGreatDoorSpB
import Derived.Test.YtojjnfhgldjgbaaGreatDoorSpC
import Derived.Test.YtojjnfhgldjgbaaGreatDoorSpD
import Derived.Test.YtojjnfhgldjgbaaGreatDoorSpE
import Derived.Test.YtojjnfhgldjgbaaGreatDoorSpF
import Derived.Test.YtojjnfhgldjgbaaGreatDoorSpG
import Derived.Test.YtojjnfhgldjgbaaGreatDoorSpH
import Derived.Test.YtojjnfhgldjgbaaGreatDoorSpI
import Derived.Test.YtojjnfhgldjgbaaGreatDoorSpJ
import Derived.Test.YtojjnfhgldjgbaaGreatDoorSpK
import Derived.Test.YtojjnfhgldjgbaaGreatDoorSpL
import Derived.Test.YtojjnfhgldjgbaaGreatDoorSpM
import Derived.Test.YtojjnfhgldjgbaaGreatDoorSpN
import Derived.Test.YtojjnfhgldjgbaaGreatDoorSpO
import Derived.Test.YtojjnfhgldjgbaaGreatDoorSpP
import Derived.Test.YtojjnfhgldjgbaaGreatDoorSpQ
import Derived.Test.YtojjnfhgldjgbaaGreatDoorSpR
import Derived.Test.YtojjnfhgldjgbaaGreatDoorSpS
import Derived.Test.YtojjnfhgldjgbaaGreatDoorSpT
import Derived.Test.YtojjnfhgldjgbaaGreatDoorSpU
import Derived.Test.YtojjnfhgldjgbaaGreatDoorSpV
import Derived.Test.YtojjnfhgldjgbaaGreatDoorSpW
import Derived.Test.YtojjnfhgldjgbaaGreatDoorSpX
import Derived.Test.YtojjnfhgldjgbaaGreatDoorSpY
import Derived.Test.YtojjnfhgldjgbaaGreatDoorSpZ
import Derived.Test.YtojjnfhgldjgbaaGreatDoorSpAA
section
namespace Go.Proofs.YtojjnfhgldjgbaaGreatDoor.watchPlays
open Go.ChangeShapes Go.WideShapes Go.ChangeAt Go.RowKit
open Go.ChangeMaps (open_string shut_string)
set_option linter.unusedVariables false

theorem own : ownKnob Tryz.prog.godebug = none := by kernel_rfl
theorem laidOut : laidOutB Tryz.prog = true := by kernel_rfl

theorem laid_met (os : Os) : laidMet Tryz.prog Rows.watchPlaysUptoRow.laid ((World.laidAll Tryz.prog os Rows.watchPlaysUptoRow.laid).forCall (fun _ _ => 0) ⟨#[], #[.slice none 0 0, .int .i64 0, .int .i64 0], []⟩).memory :=
  laidMet_laidAll _ (by kernel_rfl) (by kernel_rfl)
theorem reads (os : Os) {H : Type} (enc : TypeId × Value → H) : ∃ places, DataW.whole enc Tryz.prog ((World.laidAll Tryz.prog os Rows.watchPlaysUptoRow.laid).forCall (fun _ _ => 0) ⟨#[], #[.slice none 0 0, .int .i64 0, .int .i64 0], []⟩).memory Tryz.f4.params.toList Rows.watchPlaysSpec.vars false (#[.slice none 0 0, .int .i64 0, .int .i64 0] : Array Value).toList 8 = some ([.nil, .lit (.int .i64 0), .lit (.int .i64 0)], [], places) :=
  ⟨[], by kernel_rfl⟩

set_option maxRecDepth 100000 in
theorem lifted (os : Os) (started : os.Started) (H : Type) (enc : TypeId × Value → H) (F : Stop.Interp) :
    ReturnsInHanded {} Tryz.checked os 4 .any ((Rows.OpenSpec.upto Rows.watchPlaysSpec).preRow enc Tryz.prog Tryz.f4 Rows.watchPlaysUptoRow.domain false Rows.watchPlaysUptoRow.laid) (((Rows.OpenSpec.upto Rows.watchPlaysSpec).at F).post enc Tryz.prog Tryz.f4 false true false false) := by
  obtain ⟨places, hx⟩ := reads os enc
  refine returnsInHanded_of_row (C := Tryz.checked) (s := Rows.OpenSpec.upto Rows.watchPlaysSpec) own started (by kernel_rfl) Tryz.func4
    (witness_row_at (enc := enc) (C := Tryz.checked) false (World.laidAll Tryz.prog os Rows.watchPlaysUptoRow.laid) #[.slice none 0 0, .int .i64 0, .int .i64 0] (World.laidAll_os _ _ _) (by kernel_rfl) (by kernel_rfl) (by kernel_rfl)
      (OpenSpec.preRow_of_cond 8 hx (by kernel_rfl) (fun k hk => by cases hk; kernel_rfl) (by kernel_rfl) (laid_met os))) ?_
  intro W base args ds gs before hval0 hW _ hcond _ hL _ _
  have hk := hcond _ rfl
  have hval : ∀ (j : Nat) t v, Tryz.f4.params[j]? = some t → args[j]? = some v → Value.okWide Tryz.prog W .any base t v := hval0
  have hW' := hW
  obtain ⟨p, q, hA0, hV, rfl, hfz, hnd⟩ := hW
  have hA : DataW.TrodAll enc Tryz.prog W 0 (fun _ => true) true Tryz.f4.params.toList args.toList ds p := hA0
  rw [Tryz.params4] at hA hval
  obtain ⟨v0, vs0, d0, ds0, p0, q0, hargs, rfl, rfl, h0, r0⟩ := trodAll_cons hA
  obtain ⟨v1, vs1, d1, ds1, p1, q1, rfl, rfl, rfl, h1, r1⟩ := trodAll_cons r0
  obtain ⟨v2, vs2, d2, ds2, p2, q2, rfl, rfl, rfl, h2, r2⟩ := trodAll_cons r1
  obtain ⟨rfl, rfl, rfl⟩ := trodAll_nil r2
  obtain rfl : args = #[v0, v1, v2] := by cases args; simp_all
  obtain ⟨rfl, rfl⟩ := trodVars_none hV
  have k0 := h0
  have lt0 : ∀ x ∈ p0, x.block < W.heap.size := by obtain ⟨m, hm⟩ := k0; exact DataW.trod_lt m _ _ _ hm
  obtain ⟨b0, len0, cap0, rfl⟩ := okWide_slice Tryz.underlying22 (hval 0 22 v0 rfl rfl)
  obtain ⟨a0, s0⟩ := Go.Proofs.YtojjnfhgldjgbaaGreatDoor.Store.script_arg hk (by simp) k0
  obtain ⟨a1, rfl, hd1, rfl, w1⟩ := open_int Tryz.underlying2 (hval 1 2 v1 rfl rfl) h1
  obtain ⟨a2, rfl, hd2, rfl, w2⟩ := open_int Tryz.underlying2 (hval 2 2 v2 rfl rfl) h2
  subst hd1
  subst hd2
  clear hA0 hval0
  refine (Go.Proofs.YtojjnfhgldjgbaaGreatDoor.Store.plays_any s0 a1 a2).mono fun e W' ⟨he, bel⟩ => ?_
  subst he
  exact ⟨_, rfl, _, _, _, [], _, [], hW', trodAll_mk1 (shut_bool Tryz.underlying4 _), (trodAll_cons_mk (Below.trod laidOut (by kernel_rfl) (of_decide_eq_true (by kernel_rfl)) k0 bel lt0) (trodAll_cons_mk (shut_int Tryz.underlying2 w1) (trodAll_cons_mk (shut_int Tryz.underlying2 w2) trodAll_mk0))), rfl, bel.frame _, fun h => by cases h⟩

theorem over : Rows.watchPlaysUptoRow.holds Tryz.pinned (Rows.OpenSpec.upto Rows.watchPlaysSpec) :=
  OpenClaim.holds_of_cond 4 Tryz.f4 rfl rfl rfl rfl rfl rfl rfl ⟨rfl, rfl, rfl, rfl, rfl⟩ rfl rfl rfl rfl rfl (by kernel_rfl) Tryz.func4 (by kernel_rfl)
    (of_decide_eq_true (by kernel_rfl)) (by unfold Func.isWrapper; first | (rw [if_pos (by decide +kernel)]; kernel_rfl) | (rw [if_neg (by decide +kernel)]; exact ⟨rfl, rfl⟩))
    (fun os started H enc _ F => by rw [OpenClaim.pre_eq_preRow]; exact lifted os started H enc F)

theorem proved : Rows.WatchPlaysUptoCardSaid :=
  Claim7.holds_tied_plain_at .later [] [.data, .pinned] true (true, "f6e8621f8a958d6a66395d545d465bd4d8c55e217e1151dd7da133edc602972b") false
    over (fun _ h => by cases h) (by kernel_rfl) (fun _ h => by cases h) watchPlaysUpto_row_tie rfl ⟨rfl, rfl⟩ (by kernel_rfl) rfl
    (fun f fn hf hfn => by
      obtain rfl : f = 4 := Option.some.inj ((show Tryz.prog.funcNamed "porter/porterlaw22.WatchPlays" = some 4 by kernel_rfl).symm.trans hf) |>.symm
      obtain rfl : fn = Tryz.f4 := (Option.some.inj (Tryz.func4.symm.trans hfn)).symm
      exact ⟨by kernel_rfl, fun j t ht => by
        rw [Tryz.params4] at ht
        have hm : t ∈ [22, 2, 2] := by simpa using Array.mem_of_getElem? ht
        have hall : ([22, 2, 2].all fun u => !Tryz.prog.wantsStandIn u) = true := by kernel_rfl
        exact (show Tryz.prog.wantsStandIn t = false by simpa using List.all_eq_true.1 hall t hm)⟩)
    (by kernel_rfl)
#print axioms proved
end Go.Proofs.YtojjnfhgldjgbaaGreatDoor.watchPlays
end
