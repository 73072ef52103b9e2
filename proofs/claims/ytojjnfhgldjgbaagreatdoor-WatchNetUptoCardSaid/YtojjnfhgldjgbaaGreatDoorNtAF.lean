/- WatchNet, where what came in is of bulk at most 1048576: what leads from some tuples to others does so in a store, and nothing in it is idle. -/
import Derived.Test.YtojjnfhgldjgbaaGreatDoorRows
import Derived.Test.YtojjnfhgldjgbaaGreatDoorCards
import Derived.Test.YtojjnfhgldjgbaaGreatDoorTie
import Derived.WalkKit
import Derived.ProofKit
import Derived.OpenShut
import Derived.ShutString
import Derived.ChangeOld
import Derived.Below
import Derived.LaidMore
import Derived.Lay
import Derived.Stop.Joined
import Derived.SevenTiedAt
import Derived.Deep.DeepHandedRow
import Derived.JoinedCond
import Derived.Test.YtojjnfhgldjgbaaGreatDoorNtA
import Derived.Test.YtojjnfhgldjgbaaGreatDoorNtB
import Derived.Test.YtojjnfhgldjgbaaGreatDoorNtC
import Derived.Test.YtojjnfhgldjgbaaGreatDoorNtD
import Derived.Test.YtojjnfhgldjgbaaGreatDoorNtE
import Derived.Test.YtojjnfhgldjgbaaGreatDoorNtF
import Derived.Test.YtojjnfhgldjgbaaGreatDoorNtG
import Derived.Test.YtojjnfhgldjgbaaGreatDoorNtH
import Derived.Test.YtojjnfhgldjgbaaGreatDoorNtI
import Derived.Test.YtojjnfhgldjgbaaGreatDoorNtJ
import Derived.Test.YtojjnfhgldjgbaaGreatDoorNtK
import Derived.Test.YtojjnfhgldjgbaaGreatDoorNtL
import Derived.Test.YtojjnfhgldjgbaaGreatDoorNtM
import Derived.Test.YtojjnfhgldjgbaaGreatDoorNtN
import Derived.Test.YtojjnfhgldjgbaaGreatDoorNtO
import Derived.Test.YtojjnfhgldjgbaaGreatDoorNtP
import Derived.Test.YtojjnfhgldjgbaaGreatDoorNtQ
import Derived.Test.YtojjnfhgldjgbaaGreatDoorNtR
import Derived.Test.YtojjnfhgldjgbaaGreatDoorNtS
import Derived.Test.YtojjnfhgldjgbaaGreatDoorNtT
import Derived.Test.YtojjnfhgldjgbaaGreatDoorNtU
import Derived.Test.YtojjnfhgldjgbaaGreatDoorNtV
import Derived.Test.YtojjnfhgldjgbaaGreatDoorNtW
import Derived.Test.YtojjnfhgldjgbaaGreatDoorNtX
import Derived.Test.YtojjnfhgldjgbaaGreatDoorNtY
import Derived.Test.YtojjnfhgldjgbaaGreatDoorNtZ
import Derived.Test.YtojjnfhgldjgbaaGreatDoorNtAA
import Derived.Test.YtojjnfhgldjgbaaGreatDoorNtAB
import Derived.Test.YtojjnfhgldjgbaaGreatDoorNtAC
import Derived.Test.YtojjnfhgldjgbaaGreatDoorNtAD
import Derived.Test.YtojjnfhgldjgbaaGreatDoorNtAE
section
namespace Go.Proofs.YtojjnfhgldjgbaaGreatDoor.watchNet
open Go.ChangeShapes Go.WideShapes Go.ChangeAt Go.RowKit
open Go.ChangeMaps (open_string shut_string)
set_option linter.unusedVariables false

theorem own : ownKnob Tryz.prog.godebug = none := by kernel_rfl
theorem laidOut : laidOutB Tryz.prog = true := by kernel_rfl

theorem laid_met (os : Os) : laidMet Tryz.prog Rows.watchNetUptoRow.laid ((World.laidAll Tryz.prog os Rows.watchNetUptoRow.laid).forCall (fun _ _ => 0) ⟨#[], #[.slice none 0 0, .slice none 0 0], []⟩).memory :=
  laidMet_laidAll _ (by kernel_rfl) (by kernel_rfl)
theorem reads (os : Os) {H : Type} (enc : TypeId × Value → H) : ∃ places, DataW.whole enc Tryz.prog ((World.laidAll Tryz.prog os Rows.watchNetUptoRow.laid).forCall (fun _ _ => 0) ⟨#[], #[.slice none 0 0, .slice none 0 0], []⟩).memory Tryz.f5.params.toList Rows.watchNetSpec.vars false (#[.slice none 0 0, .slice none 0 0] : Array Value).toList 8 = some ([.nil, .nil], [], places) :=
  ⟨[], by kernel_rfl⟩

set_option maxRecDepth 100000 in
theorem lifted (os : Os) (started : os.Started) (H : Type) (enc : TypeId × Value → H) (F : Stop.Interp) :
    ReturnsInHanded {} Tryz.checked os 5 .any ((Rows.OpenSpec.upto Rows.watchNetSpec).preRow enc Tryz.prog Tryz.f5 Rows.watchNetUptoRow.domain false Rows.watchNetUptoRow.laid) (((Rows.OpenSpec.upto Rows.watchNetSpec).at F).post enc Tryz.prog Tryz.f5 false true false false) := by
  obtain ⟨places, hx⟩ := reads os enc
  refine returnsInHanded_of_row (C := Tryz.checked) (s := Rows.OpenSpec.upto Rows.watchNetSpec) own started (by kernel_rfl) Tryz.func5
    (witness_row_at (enc := enc) (C := Tryz.checked) false (World.laidAll Tryz.prog os Rows.watchNetUptoRow.laid) #[.slice none 0 0, .slice none 0 0] (World.laidAll_os _ _ _) (by kernel_rfl) (by kernel_rfl) (by kernel_rfl)
      (OpenSpec.preRow_of_cond 8 hx (by kernel_rfl) (fun k hk => by cases hk; kernel_rfl) (by kernel_rfl) (laid_met os))) ?_
  intro W base args ds gs before hval0 hW _ hcond _ hL _ _
  have hk := hcond _ rfl
  have hval : ∀ (j : Nat) t v, Tryz.f5.params[j]? = some t → args[j]? = some v → Value.okWide Tryz.prog W .any base t v := hval0
  have hW' := hW
  obtain ⟨p, q, hA0, hV, rfl, hfz, hnd⟩ := hW
  have hA : DataW.TrodAll enc Tryz.prog W 0 (fun _ => true) true Tryz.f5.params.toList args.toList ds p := hA0
  rw [Tryz.params5] at hA hval
  obtain ⟨v0, vs0, d0, ds0, p0, q0, hargs, rfl, rfl, h0, r0⟩ := trodAll_cons hA
  obtain ⟨v1, vs1, d1, ds1, p1, q1, rfl, rfl, rfl, h1, r1⟩ := trodAll_cons r0
  obtain ⟨rfl, rfl, rfl⟩ := trodAll_nil r1
  obtain rfl : args = #[v0, v1] := by cases args; simp_all
  obtain ⟨rfl, rfl⟩ := trodVars_none hV
  have k0 := h0
  have lt0 : ∀ x ∈ p0, x.block < W.heap.size := by obtain ⟨m, hm⟩ := k0; exact DataW.trod_lt m _ _ _ hm
  obtain ⟨b0, len0, cap0, rfl⟩ := okWide_slice Tryz.underlying34 (hval 0 34 v0 rfl rfl)
  obtain ⟨a0, s0⟩ := Go.Proofs.YtojjnfhgldjgbaaGreatDoor.Store.tups_arg hk (by simp) k0
  have k1 := h1
  have lt1 : ∀ x ∈ p1, x.block < W.heap.size := by obtain ⟨m, hm⟩ := k1; exact DataW.trod_lt m _ _ _ hm
  obtain ⟨b1, len1, cap1, rfl⟩ := okWide_slice Tryz.underlying34 (hval 1 34 v1 rfl rfl)
  obtain ⟨a1, s1⟩ := Go.Proofs.YtojjnfhgldjgbaaGreatDoor.Store.tups_arg hk (by simp) k1
  clear hA0 hval0
  refine (Go.Proofs.YtojjnfhgldjgbaaGreatDoor.Store.WatchNet.row s0 s1).mono fun e W' ⟨he, bel⟩ => ?_
  subst he
  exact ⟨_, rfl, _, _, _, [], _, [], hW', trodAll_mk1 (shut_bool Tryz.underlying4 _), (trodAll_cons_mk (Below.trod laidOut (by kernel_rfl) (of_decide_eq_true (by kernel_rfl)) k0 bel lt0) (trodAll_cons_mk (Below.trod laidOut (by kernel_rfl) (of_decide_eq_true (by kernel_rfl)) k1 bel lt1) trodAll_mk0)), rfl, bel.frame _, fun h => by cases h⟩

theorem over : Rows.watchNetUptoRow.holds Tryz.pinned (Rows.OpenSpec.upto Rows.watchNetSpec) :=
  OpenClaim.holds_of_cond 5 Tryz.f5 rfl rfl rfl rfl rfl rfl rfl ⟨rfl, rfl, rfl, rfl, rfl⟩ rfl rfl rfl rfl rfl (by kernel_rfl) Tryz.func5 (by kernel_rfl)
    (of_decide_eq_true (by kernel_rfl)) (by unfold Func.isWrapper; first | (rw [if_pos (by decide +kernel)]; kernel_rfl) | (rw [if_neg (by decide +kernel)]; exact ⟨rfl, rfl⟩))
    (fun os started H enc _ F => by rw [OpenClaim.pre_eq_preRow]; exact lifted os started H enc F)

theorem proved : Rows.WatchNetUptoCardSaid :=
  Claim7.holds_tied_plain_at .later [] [.data, .pinned] true (true, "f6e8621f8a958d6a66395d545d465bd4d8c55e217e1151dd7da133edc602972b") false
    over (fun _ h => by cases h) (by kernel_rfl) (fun _ h => by cases h) watchNetUpto_row_tie rfl ⟨rfl, rfl⟩ (by kernel_rfl) rfl
    (fun f fn hf hfn => by
      obtain rfl : f = 5 := Option.some.inj ((show Tryz.prog.funcNamed "porter/porterlaw22.WatchNet" = some 5 by kernel_rfl).symm.trans hf) |>.symm
      obtain rfl : fn = Tryz.f5 := (Option.some.inj (Tryz.func5.symm.trans hfn)).symm
      exact ⟨by kernel_rfl, fun j t ht => by
        rw [Tryz.params5] at ht
        have hm : t ∈ [34, 34] := by simpa using Array.mem_of_getElem? ht
        have hall : ([34, 34].all fun u => !Tryz.prog.wantsStandIn u) = true := by kernel_rfl
        exact (show Tryz.prog.wantsStandIn t = false by simpa using List.all_eq_true.1 hall t hm)⟩)
    (by kernel_rfl)
#print axioms proved
end Go.Proofs.YtojjnfhgldjgbaaGreatDoor.watchNet
end
