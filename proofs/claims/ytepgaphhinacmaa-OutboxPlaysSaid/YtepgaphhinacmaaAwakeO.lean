/- porterlaw13.awake answers true. -/
import Derived.Test.YtepgaphhinacmaaSeen
import Derived.Test.YtepgaphhinacmaaOutFOI
namespace Go.Proofs.Ytepgaphhinacmaa.AwakeO
open Go.RowKit Go.Por Go.Proofs.Ytepgaphhinacmaa.OutOI Go.Proofs.Ytepgaphhinacmaa.Seen

theorem own_one {w : World} {base : Nat} {E : TypeId} {v u : Value} (h : w.ownsRow base E 1 v 1 [u]) : ∃ g cap, v = .slice (some ⟨g, 0, none⟩) 1 cap ∧ w.cell? ⟨g, 0, none⟩ = some u ∧ base ≤ g ∧ g < w.heap.size := by
  have hl := h.lt
  have hc := fun g => h.cells (g := g)
  obtain ⟨_, ⟨_, h0⟩ | ⟨g, cap, cur, rfl, hb, _⟩⟩ := h
  · cases h0
  · refine ⟨g, cap, rfl, ?_, hb, (hl g rfl).2⟩
    have := hc g rfl 0 u rfl
    simpa [Addr.add] using this
theorem own_none {w : World} {base : Nat} {E : TypeId} {v : Value} (h : w.ownsRow base E 1 v 0 []) : ∃ a cap, v = .slice a 0 cap := by
  obtain ⟨_, ⟨rfl, h0⟩ | ⟨g, cap, cur, rfl, hb, _⟩⟩ := h
  · exact ⟨_, _, rfl⟩
  · exact ⟨_, _, rfl⟩

/-- The key. -/
def keyA : ByteArray := { data := #[97] }

set_option maxRecDepth 100000 in
set_option maxHeartbeats 4000000 in
theorem awake_any (w : World) : Calls Try.prog 35 #[] w fun e w' => e = .returned (.bool true) ∧ Below w.heap.size w w' := by
  go_enter Try.func35, Try.ntmps35
  go_wp2_with fail
  refine (OutOI.new_good 2 3 w (by omega) (by omega) (by omega) (by omega)).mono ?_
  rintro e w1 ⟨rfl, hO1, hb1⟩
  have H1 := Lib.hid (And.intro hO1 hb1)
  clear hO1 hb1
  go_wp2_with fail
  refine (OutOI.put_new H1.out.1 (by simp) (k := keyA) (by rfl) (by simp) 7).mono ?_
  rintro e w2 ⟨rfl, v2, hO2, hf2, hm2⟩
  have H2 := Lib.hid (And.intro hO2 (And.intro hf2 hm2))
  clear hO2 hf2 hm2
  go_wp2_with fail
  refine (OutOI.tick_any H2.out.1 (by simp) (by omega) (by omega) (by simp)).mono ?_
  rintro e w3 ⟨vo3, rfl, hO3, hown3, hm3⟩
  have hl3 : [((keyA, 7, 0) : It)].map (aged 2) = [(keyA, 7, 1)] := rfl
  have hd3 : OutOI.due [((keyA, 7, 0) : It)] = [7] := rfl
  simp only [List.nil_append] at hO3 hown3
  rw [hl3] at hO3
  rw [hd3] at hown3
  obtain ⟨g3, cap3, rfl, c3, hg3, hg3'⟩ := own_one hown3
  have H3 := Lib.hid (And.intro hO3 (And.intro c3 (And.intro hg3 (And.intro hg3' hm3))))
  clear hl3 hd3 hO3 hown3 c3 hg3 hg3' hm3
  go_wp2_with fail
  refine (OutOI.tick_any H3.out.1 (by simp) (by omega) (by omega) (by simp)).mono ?_
  rintro e w4 ⟨vo4, rfl, hO4, hown4, hm4⟩
  have hl4 : [((keyA, 7, 1) : It)].map (aged 2) = [(keyA, 7, 0)] := rfl
  have hd4 : OutOI.due [((keyA, 7, 1) : It)] = [] := rfl
  rw [hl4] at hO4
  rw [hd4] at hown4
  obtain ⟨g4, cap4, rfl⟩ := own_none hown4
  have H4 := Lib.hid (And.intro hO4 hm4)
  clear hl4 hd4 hO4 hown4 hm4
  go_wp2_with fail
  refine (OutOI.tick_any H4.out.1 (by simp) (by omega) (by omega) (by simp)).mono ?_
  rintro e w5 ⟨vo5, rfl, hO5, hown5, hm5⟩
  have hl5 : [((keyA, 7, 0) : It)].map (aged 2) = [(keyA, 7, 1)] := rfl
  have hd5 : OutOI.due [((keyA, 7, 0) : It)] = [7] := rfl
  rw [hl5] at hO5
  rw [hd5] at hown5
  obtain ⟨g5, cap5, rfl, _, _, _⟩ := own_one hown5
  have H5 := Lib.hid (And.intro hO5 hm5)
  clear hl5 hd5 hO5 hown5 hm5
  go_wp2_with fail
  refine (Seen.new_good 2 w5 (by omega) (by omega)).mono ?_
  rintro e w6 ⟨S, C, M, rfl, hS6, hgS, hgC, hgM, hb6⟩
  have hm36 : Mod (ofoot w.heap.size v2) w3 w6 := (H4.out.2.trans' H5.out.2).trans (S' := fun _ => False) (Mod.of_below hb6 _) (fun _ h => h.elim)
  have c6 : w6.cell? ⟨g3, 0, none⟩ = some (.int .i64 7) := by
    obtain ⟨hO3, c3, hg3, hg3', hm3⟩ := H3.out
    rw [hm36.cell (p := ⟨g3, 0, none⟩) hg3' (fun h => by have h1 : g3 < w2.heap.size := H2.out.1.lt _ h; omega)]
    exact c3
  have hO6 := H5.out.1.mod (S := fun _ => False) (Mod.of_below hb6 _) (fun _ _ h => h)
  have hB6 : Below w.heap.size w w6 := by
    obtain ⟨hO1, hb1⟩ := H1.out
    obtain ⟨hO2, hf2, hm2⟩ := H2.out
    obtain ⟨hO3, c3, hg3, hg3', hm3⟩ := H3.out
    have g1 : ∀ x, ofoot w.heap.size (.slice none 0 0) x → w.heap.size ≤ x := by
      intro x hx
      rcases hx with rfl | hx
      · exact Nat.le_refl _
      · simp [Value.ownBlock] at hx
    have hs1 := hb1.size
    have g2 : ∀ x, ofoot w.heap.size v2 x → w.heap.size ≤ x := by
      intro x hx
      rcases hf2 x hx with h | h
      · exact g1 x h
      · omega
    exact (hb1.trans (hm2.to_below hs1 g1)).trans ((hm3.trans' hm36).to_below (by have := hm2.size; omega) g2)
  have H6 := Lib.hid (And.intro hS6 (And.intro hO6 (And.intro hB6 (And.intro hgS (And.intro hgC hgM)))))
  clear hS6 hgS hgC hgM hb6 hm36 hO6 hB6
  go_wp2_with fail
  have hpl : place [((keyA, 7, 1) : It)] keyA = (0 : Nat) := rfl
  refine (OutOI.ack_some H6.out.2.1 (by simp) (k := keyA) hpl rfl).mono ?_
  rintro e w7 ⟨rfl, v7, hO7, hf7, hm7⟩
  have he7 : [((keyA, 7, 1) : It)].eraseIdx 0 = [] := rfl
  rw [he7] at hO7
  have H7 := Lib.hid (And.intro hO7 (And.intro hf7 hm7))
  clear hpl he7 hO7 hf7 hm7
  go_wp2_with fail
  refine (OutOI.ack_none H7.out.1 (by simp) (k := keyA) rfl).mono ?_
  rintro e w8 ⟨rfl, hO8, hm8⟩
  have H8 := Lib.hid (And.intro hO8 hm8)
  clear hO8 hm8
  go_wp2_with fail
  refine (OutOI.len_any H8.out.1 (by simp)).mono ?_
  rintro e w9 ⟨rfl, rfl⟩
  have hm68 : Mod (ofoot w.heap.size v2) w6 w8 := H7.out.2.2.trans H8.out.2 (fun x hx => .inl (H7.out.2.1 x hx))
  have hS8 : SeenIs w8 S C M [] 2 := H6.out.1.mod hm68 (fun x hx => by
    obtain ⟨hS6, hO6, hB6, hgS, hgC, hgM⟩ := H6.out
    have h1 := H5.out.1.lt x hx
    refine ⟨by omega, fun h => ?_⟩
    simp [CacheII.foot] at h
    omega)
  have hB8 : Below w.heap.size w w8 := by
    obtain ⟨hS6, hO6, hB6, hgS, hgC, hgM⟩ := H6.out
    refine hB6.trans (hm68.to_below hB6.size (fun x hx => ?_))
    rcases H2.out.2.1 x hx with (h | h) | h
    · omega
    · simp [Value.ownBlock] at h
    · have := H1.out.2.size; omega
  have hgS8 : w.heap.size ≤ S ∧ w.heap.size ≤ C ∧ w.heap.size ≤ M := by
    obtain ⟨hS6, hO6, hB6, hgS, hgC, hgM⟩ := H6.out
    have h1 := H5.out.1.lt w.heap.size (.inl rfl)
    omega
  have HX := Lib.hid (And.intro hS8 (And.intro hB8 hgS8))
  clear hm68 hS8 hB8 hgS8
  go_wp2_with fail
  refine (Seen.first_any HX.out.1 5 (by omega) (by simp)).mono ?_
  rintro e w10 ⟨rfl, es10, hS10, hk10, hf10, hm10⟩
  have HY := Lib.hid (And.intro hS10 (And.intro (show kv es10 = [(5, 1)] by rw [hk10]; simp [lput, klook, kv, wrap64]) (And.intro hf10 hm10)))
  clear hS10 hk10 hf10 hm10
  have hx : (!(klook (kv ([] : List (Int × Int × Nat))) 5).isSome) = true := rfl
  rw [hx]
  clear hx
  go_wp2_with fail
  refine (Seen.first_any HY.out.1 5 (by omega) (by have := congrArg List.length HY.out.2.1; rw [kv_length] at this; simp at this; omega)).mono ?_
  rw [HY.out.2.1]
  rintro e w11 ⟨rfl, es11, hS11, hk11, hf11, hm11⟩
  have HZ := Lib.hid (And.intro hS11 (And.intro (show kv es11 = [(5, 2)] by rw [hk11]; simp [lput, klook, kdrop, wrap64]) (And.intro hf11 hm11)))
  clear hS11 hk11 hf11 hm11
  have hx : (!(klook ([(5, 1)] : List (Int × Int)) 5).isSome) = false := rfl
  rw [hx]
  clear hx
  go_wp2_with fail
  refine (Seen.times_any HZ.out.1 5).mono ?_
  rw [HZ.out.2.1]
  rintro e w12 ⟨rfl, es12, hS12, hk12, hf12, hm12⟩
  have HT := Lib.hid hm12
  clear hS12 hk12 hf12 hm12
  have hx : ((klook ([(5, 2)] : List (Int × Int)) 5).getD 0) = 2 := rfl
  rw [hx]
  clear hx
  go_wp2
  go_ret
  refine ⟨rfl, ?_⟩
  obtain ⟨hS8, hB8, h1, h2, h3⟩ := HX.out
  obtain ⟨hS10, hk10, hf10, hm10⟩ := HY.out
  obtain ⟨hS11, hk11, hf11, hm11⟩ := HZ.out
  have g8 : ∀ x, x ∈ CacheII.foot C M ([] : List (Int × Int × Nat)) → w.heap.size ≤ x := by
    intro x hx; simp [CacheII.foot] at hx; omega
  have s8 := hB8.size
  have s10 := hm10.size
  have g10 : ∀ x, x ∈ CacheII.foot C M es10 → w.heap.size ≤ x := fun x hx => by
    rcases hf10 x hx with h | h
    · exact g8 x h
    · omega
  have g11 : ∀ x, x ∈ CacheII.foot C M es11 → w.heap.size ≤ x := fun x hx => by
    rcases hf11 x hx with h | h
    · exact g10 x h
    · omega
  have b10 := hB8.trans (hm10.to_below s8 g8)
  have b11 := b10.trans (hm11.to_below b10.size g10)
  exact b11.trans (HT.out.to_below b11.size g11)
end Go.Proofs.Ytepgaphhinacmaa.AwakeO
