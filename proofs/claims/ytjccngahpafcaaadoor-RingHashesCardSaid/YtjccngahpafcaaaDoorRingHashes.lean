/- porterlaw11.RingHashes answers true at every text. -/
import Derived.Test.YtjccngahpafcaaaDoorRingE
namespace Go.Proofs.YtjccngahpafcaaaDoor.RingHashes
open Go.RowKit Go.Por Go.Proofs.YtjccngahpafcaaaDoor.RingF

set_option maxHeartbeats 800000 in
theorem row {w : World} (s : ByteArray) (hs : s.size ≤ 9223372036854775807) :
    Calls Tryd.prog 5 #[.string s] w fun e w' => e = .returned (.bool true) ∧ Below w.heap.size w w' := by
  have hp := place_lt s
  obtain ⟨h, hh⟩ : ∃ h, place s = h := ⟨_, rfl⟩
  rw [hh] at hp
  have h1 := fun w => hash_any s hs w
  have h2 := fun w => slot_any s hs w
  have h3 := fun w => refhash_any s hs w
  rw [hh] at h1 h2 h3
  have HH := Lib.hid (And.intro h1 (And.intro h2 h3))
  clear h1 h2 h3 hh
  have b0 : (0 : Int) ≤ (h : Int) := by omega
  have b1 : (h : Int) < 4294967296 := by omega
  have q1 : ((h : Int) == (h : Int)) = true := by simp
  have hm : (h : Int) % 16 = ((h % 16 : Nat) : Int) := by omega
  have hm2 : (h : Int).tmod 16 = ((h % 16 : Nat) : Int) := by rw [Int.tmod_eq_emod_of_nonneg b0]; exact hm
  obtain ⟨k, hk⟩ : ∃ k, h % 16 = k := ⟨_, rfl⟩
  rw [hk] at hm hm2 HH
  have q2 : ((k : Int) == (k : Int)) = true := by simp
  clear hk
  have HM := Lib.hid (And.intro hm hm2)
  clear hm hm2
  go_enter Tryd.func5, Tryd.ntmps5
  go_wp2_with fail
  refine (awake_any w).mono ?_
  rintro e w1 ⟨rfl, hb1⟩
  have HB := Lib.hid hb1
  clear hb1
  go_wp2_with fail
  refine (HH.out.2.2 w1).mono ?_
  rintro e w2 ⟨rfl, hm2, _⟩
  have HB2 := Lib.hid (HB.out.trans (hm2.to_below HB.out.size (fun _ h => h.elim)))
  clear hm2
  go_wp2_with fail
  refine (HH.out.1 w2).mono ?_
  rintro e w3 ⟨rfl, hm3, _⟩
  have HB3 := Lib.hid (HB2.out.trans (hm3.to_below HB2.out.size (fun _ h => h.elim)))
  clear hm3
  go_wp2_with fail
  refine (HH.out.2.1 w3).mono ?_
  rintro e w4 ⟨rfl, hm4, _⟩
  have HB4 := Lib.hid (HB3.out.trans (hm4.to_below HB3.out.size (fun _ h => h.elim)))
  clear hm4
  have hm := HM.out.1
  have hm2 := HM.out.2
  go_wp2
  go_ret
  exact ⟨rfl, HB4.out⟩
end Go.Proofs.YtjccngahpafcaaaDoor.RingHashes
