/- StoreBoth, where what came in is of bulk at most 1048576: who has a relation, what a user has, and Has say the same: part 2 of 14: what it leans on. -/
import Derived.Sort.Grow
import Derived.Deep.LoopGhost
import Derived.Deep.CutBlock
import Derived.Test.YtojjnfhgldjgbaaGreatDoorBoA
section
set_option linter.unusedVariables false
set_option linter.unusedSimpArgs false
namespace Go.Proofs.YtojjnfhgldjgbaaGreatDoor.Watch
open Go.RowKit Go.Por

/-- The world has but grown (and drawn). -/
def Gr (w w' : World) : Prop := ∃ (q : Nat) (os : Array Obj), w' = Sort.grow (w.drewN q) os
theorem Gr.refl (w : World) : Gr w w := ⟨0, #[], by simp; rfl⟩
theorem Gr.alloc {w w' : World} (h : Gr w w') (o : Obj) : Gr w (w'.alloc o) := by
  obtain ⟨q, os, rfl⟩ := h
  exact ⟨q, os ++ #[o], by rw [Sort.alloc_eq_grow, Sort.grow_grow]⟩
theorem Gr.trans {a b c : World} (h : Gr a b) (k : Gr b c) : Gr a c := by
  obtain ⟨q, os, rfl⟩ := h
  obtain ⟨q', os', rfl⟩ := k
  refine ⟨q + q', os ++ os', ?_⟩
  rw [← Sort.grow_grow, show a.drewN (q + q') = (a.drewN q).drewN q' by simp [World.drewN, Nat.add_assoc]]
  rfl
theorem Gr.drew {w w' : World} (h : Gr w w') : Gr w w'.drew := by
  obtain ⟨q, os, rfl⟩ := h
  exact ⟨q + 1, os, rfl⟩
theorem Gr.below {w w' : World} (h : Gr w w') : Below w.heap.size w w' := by
  obtain ⟨q, os, rfl⟩ := h
  have h : Mod (fun _ => False) (w.drewN q) (Sort.grow (w.drewN q) os) := ⟨rfl, rfl, rfl, by simp [Sort.grow], fun k hk _ => by
    show ((w.drewN q).heap ++ os)[k]? = (w.drewN q).heap[k]?
    rw [Array.getElem?_append, if_pos hk]⟩
  exact (((Mod.refl (fun _ => False) w).drewN q).trans' h).to_below (Nat.le_refl _) (fun _ h => h.elim)

/-- A tuple: object, relation, user. -/
abbrev Tup := ByteArray × ByteArray × ByteArray
def tupC (x : Tup) : List Value := [.string x.1, .string x.2.1, .string x.2.2]
theorem tupC_len (x : Tup) : (tupC x).length = 3 := rfl
def cmpB (a b : ByteArray) : Int := Lib.compareBytes a.data.toList b.data.toList
def tcmp (x y : Tup) : Int := if cmpB x.1 y.1 ≠ 0 then cmpB x.1 y.1 else if cmpB x.2.1 y.2.1 ≠ 0 then cmpB x.2.1 y.2.1 else cmpB x.2.2 y.2.2

theorem run_index_pair (x0 y0 x1 y1 x2 y2 : ByteArray) (w : World) :
    (Instr.index 145 (.agg #[.string x0, .string y0, .string x1, .string y1, .string x2, .string y2]) (.int .i64 0)).run Tryz.prog w = .ok (.agg #[.string x0, .string y0]) w ∧
    (Instr.index 145 (.agg #[.string x0, .string y0, .string x1, .string y1, .string x2, .string y2]) (.int .i64 1)).run Tryz.prog w = .ok (.agg #[.string x1, .string y1]) w ∧
    (Instr.index 145 (.agg #[.string x0, .string y0, .string x1, .string y1, .string x2, .string y2]) (.int .i64 2)).run Tryz.prog w = .ok (.agg #[.string x2, .string y2]) w := by
  have hs : (sizeOf 107).run Tryz.prog w = .ok 2 w := by kernel_rfl
  have hg : (isAgg 107).run Tryz.prog w = .ok true w := by kernel_rfl
  refine ⟨?_, ?_, ?_⟩ <;> simp [Instr.index, asIntOf, Sem.run_bind, run_underlying Tryz.underlying145, hs, part, hg, Result.andThen]

set_option maxRecDepth 100000 in
set_option maxHeartbeats 1600000 in
theorem compare_any (x y : Tup) (w : World) : Calls Tryz.prog 44 #[.agg (tupC x).toArray, .agg (tupC y).toArray] w fun e w' => e = .returned (.int .i64 (tcmp x y)) ∧ Gr w w' := by
  obtain ⟨x0, x1, x2⟩ := x
  obtain ⟨y0, y1, y2⟩ := y
  unfold tupC
  obtain ⟨c0, hc0⟩ : ∃ c, cmpB x0 y0 = c := ⟨_, rfl⟩
  obtain ⟨c1, hc1⟩ : ∃ c, cmpB x1 y1 = c := ⟨_, rfl⟩
  obtain ⟨c2, hc2⟩ : ∃ c, cmpB x2 y2 = c := ⟨_, rfl⟩
  have hr : tcmp (x0, x1, x2) (y0, y1, y2) = if c0 ≠ 0 then c0 else if c1 ≠ 0 then c1 else c2 := by
    unfold tcmp
    simp only [hc0, hc1, hc2]
  have k0 := fun w => Tryz.strings_Compare x0 y0 w
  have k1 := fun w => Tryz.strings_Compare x1 y1 w
  have k2 := fun w => Tryz.strings_Compare x2 y2 w
  unfold cmpB at hc0 hc1 hc2
  rw [hc0] at k0
  rw [hc1] at k1
  rw [hc2] at k2
  rw [hr]
  obtain ⟨res, hres⟩ : ∃ res, (if c0 ≠ 0 then c0 else if c1 ≠ 0 then c1 else c2) = res := ⟨_, rfl⟩
  rw [hres]
  have HK := Lib.hid (And.intro k0 (And.intro k1 (And.intro k2 hres)))
  clear k0 k1 k2 hc0 hc1 hc2 hr hres
  go_enter Tryz.func44, Tryz.ntmps44
  go_wp2
  have hb0 : Gr w ((w.alloc (.cells #[.string x0, .string x1, .string x2] 41)).alloc (.cells #[.string y0, .string y1, .string y2] 41)) := ((Gr.refl w).alloc _).alloc _
  generalize hW : World.alloc (World.alloc w _) _ = W at *
  clear hW
  have H0 := Lib.hid hb0
  have i0 := fun w => (run_index_pair x0 y0 x1 y1 x2 y2 w).1
  have i1 := fun w => (run_index_pair x0 y0 x1 y1 x2 y2 w).2.1
  have i2 := fun w => (run_index_pair x0 y0 x1 y1 x2 y2 w).2.2
  clear hb0
  go_loopg [24] 3 (fun g i wx => ∃ t : Nat, t + g = 3 ∧ i = .int .i64 (t : Int) ∧ (1 ≤ t → c0 = 0) ∧ (2 ≤ t → c1 = 0) ∧ (3 ≤ t → c2 = 0) ∧ Gr w wx)
  case atStart => exact ⟨0, by omega, rfl, fun h => by omega, fun h => by omega, fun h => by omega, H0.out⟩
  case round =>
    obtain ⟨t, htg, rfl, hp0, hp1, hp2, hb⟩ := hrel
    have HB := Lib.hid hb
    clear hb
    have ht : t = 0 ∨ t = 1 ∨ t = 2 ∨ t = 3 := by omega
    rcases ht with rfl | rfl | rfl | rfl
    · by_cases hc : c0 = 0
      · have q : (c0 != 0) = false := by simp [hc]
        have HC := Lib.hid hc
        clear hc
        go_wp2_with fail
        refine (HK.out.1 _).mono ?_
        rintro e w3 ⟨rfl, rfl⟩
        go_wp2
        go_roundg 2
        case measure => omega
        case rel => exact ⟨1, by omega, by rfl, fun _ => HC.out, fun h => by omega, fun h => by omega, (HB.out.alloc _)⟩
      · have q : (c0 != 0) = true := by simp [hc]
        have HC := Lib.hid hc
        clear hc
        go_wp2_with fail
        refine (HK.out.1 _).mono ?_
        rintro e w3 ⟨rfl, rfl⟩
        go_wp2
        go_ret
        have hr := HK.out.2.2.2
        refine ⟨?_, HB.out.alloc _⟩
        rw [← hr]
        rw [if_pos HC.out]
        rfl
    · by_cases hc : c1 = 0
      · have q : (c1 != 0) = false := by simp [hc]
        have HC := Lib.hid hc
        clear hc
        go_wp2_with fail
        refine (HK.out.2.1 _).mono ?_
        rintro e w3 ⟨rfl, rfl⟩
        go_wp2
        go_roundg 1
        case measure => omega
        case rel => exact ⟨2, by omega, by rfl, fun _ => hp0 (by omega), fun _ => HC.out, fun h => by omega, (HB.out.alloc _)⟩
      · have q : (c1 != 0) = true := by simp [hc]
        have HC := Lib.hid hc
        clear hc
        go_wp2_with fail
        refine (HK.out.2.1 _).mono ?_
        rintro e w3 ⟨rfl, rfl⟩
        go_wp2
        go_ret
        have hr := HK.out.2.2.2
        refine ⟨?_, HB.out.alloc _⟩
        rw [← hr]
        have h0 := hp0 (by omega)
        rw [if_neg (by simp [h0]), if_pos HC.out]
        rfl
    · by_cases hc : c2 = 0
      · have q : (c2 != 0) = false := by simp [hc]
        have HC := Lib.hid hc
        clear hc
        go_wp2_with fail
        refine (HK.out.2.2.1 _).mono ?_
        rintro e w3 ⟨rfl, rfl⟩
        go_wp2
        go_roundg 0
        case measure => omega
        case rel => exact ⟨3, by omega, by rfl, fun _ => hp0 (by omega), fun _ => hp1 (by omega), fun _ => HC.out, (HB.out.alloc _)⟩
      · have q : (c2 != 0) = true := by simp [hc]
        have HC := Lib.hid hc
        clear hc
        go_wp2_with fail
        refine (HK.out.2.2.1 _).mono ?_
        rintro e w3 ⟨rfl, rfl⟩
        go_wp2
        go_ret
        have hr := HK.out.2.2.2
        refine ⟨?_, HB.out.alloc _⟩
        rw [← hr]
        have h0 := hp0 (by omega)
        have h1 := hp1 (by omega)
        rw [if_neg (by simp [h0]), if_neg (by simp [h1])]
        rfl
    · have h0 := hp0 (by omega)
      have h1 := hp1 (by omega)
      have h2 := hp2 (by omega)
      have HH := Lib.hid (And.intro h0 (And.intro h1 h2))
      clear h0 h1 h2 hp0 hp1 hp2
      go_wp2
      go_ret
      refine ⟨?_, HB.out⟩
      rw [← HK.out.2.2.2]
      simp [HH.out]
end Go.Proofs.YtojjnfhgldjgbaaGreatDoor.Watch
end
