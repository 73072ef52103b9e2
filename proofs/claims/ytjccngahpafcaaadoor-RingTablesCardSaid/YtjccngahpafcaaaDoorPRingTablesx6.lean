-- PRINTED BY print.sh 35421559b90ae4d0a3588c463048766b98c2df88dd9212a6774a882060cdf62d: not written by this session
import Derived.Test.YtjccngahpafcaaaDoorPRingTablesx0
import Derived.Test.YtjccngahpafcaaaDoorPRingTablesx1
namespace Go.Proofs.YtjccngahpafcaaaDoor.PRingTables
open Go.RowKit Go.Proofs.YtjccngahpafcaaaDoorW.PrintWords Go.Proofs.YtjccngahpafcaaaDoorW.PrintLast Go.Proofs.YtjccngahpafcaaaDoorW.PrintMore
attribute [local go_sem] max2_int min2_int max_two min_two max_three min_three max_four min_four   -- for this text's walks alone
set_option linter.unusedVariables false
set_option linter.unusedSimpArgs false

/-! ### ring_Slot: function 14 -/
def ring_Slot.f (k : Nat) (a0 : ByteArray) : Option (Int) := (ring_Hash.f k a0).bind fun t123 => (some (wrap64 (Int.tmod t123 16)))
theorem ring_Slot.mono : ∀ a0 k, LeO (ring_Slot.f k a0) (ring_Slot.f (k + 1) a0) := by
  intro a0 k
  unfold ring_Slot.f
  repeat' first
      | (with_reducible exact ring_Hash.mono _ _)
      | (with_reducible exact LeO.refl _)
      | (with_reducible exact LeO.none _)
      | (with_reducible refine LeO.ite ?_ ?_)
      | (with_reducible refine LeO.bind ?_ (fun _ => ?_))
      | exact ring_Hash.mono _ _
      | exact LeO.none _
      | refine LeO.ite ?_ ?_
      | refine LeO.bind ?_ (fun _ => ?_)
set_option maxHeartbeats 8000000 in
set_option maxRecDepth 100000 in
theorem ring_Slot.calls (k : Nat) (a0 : ByteArray) (r : Int) (w : World) (h : ring_Slot.f k a0 = some r) :
    Calls Tryd.prog 14 #[.string a0] w fun e w' => e = .returned (.int .i64 r) ∧ Drawn0 w w' := by
  have H : ((ring_Hash.f k a0).bind fun t123 => (some (wrap64 (Int.tmod t123 16)))) = some r := h
  clear h
  replace H := Option.bind_eq_some_iff.mp H
  obtain ⟨t123, A20, H⟩ := H
  replace H : (some (wrap64 (Int.tmod t123 16))) = some r := H
  have A2 := Aside0.mk A20
  clear A20
  obtain rfl := Option.some.inj H
  go_enter Tryd.func14, Tryd.ntmps14
  go_wp2_with (first | ((with_reducible refine gate_callee (f := 13) rfl ?_); refine goesL_ (some 4) rfl rfl Tryd.func13 (by kernel_rfl) rfl #[.string a0] rfl (by (try simp only [List.map_toArray, List.map_cons, List.map_nil]); first | done | rfl | (simp only [List.length_drop, List.length_take]; rfl)) ?_; (with_reducible refine (ring_Hash.calls k a0 t123 _ A2.out).mono ?_); rintro e w' ⟨rfl, ⟨nd, rfl⟩⟩; refine ⟨_, rfl, ?_⟩))
  go_ret
  exact ⟨by first | rfl | (simp; done) | (simp [*]; done), by repeat (first | exact Drawn0.refl _ | apply Drawn0.step)⟩

-- NOT PRINTED: function 20 (ring_Table_Owner)

-- NOT PRINTED: function 6 (porterlaw11_RingTables)

end Go.Proofs.YtjccngahpafcaaaDoor.PRingTables
