/- The cache at keys int and values [2]int: Put. -/
import Derived.Test.YtepgaphhinacmaaCacheGIA
namespace Go.Proofs.Ytepgaphhinacmaa.CacheIA
open Go.RowKit Go.Por

theorem _root_.Go.Por.Nd.alloc {w : World} {t : TypeId} {pre post : List Value} {b : Nat} (h : Nd w t pre post b) (o : Obj) : Nd (w.alloc o) t pre post b := h.keep (Below.heap_alloc _ _ _ h.lt)

section
variable {w : World} {C M : Nat} {es : List (Int × (Int × Int) × Nat)} {sz h m : Int}

set_option maxHeartbeats 800000 in
theorem put_hit {xs ys : List (Int × (Int × Int) × Nat)} {k : Int} {v v' : Int × Int} {b : Nat} (H : CacheIs w C M (xs ++ (k, v, b) :: ys) sz h m) :
    Calls Try.prog 13 #[.pointer (some ⟨C, 0, none⟩), Value.int .i64 k, .agg #[.int .i64 v'.1, .int .i64 v'.2]] w fun e w' => e = .returned (.tuple #[]) ∧
      CacheIs w' C M ((k, v', b) :: (xs ++ ys)) sz h m ∧ Mod (fun x => x ∈ C :: (xs ++ (k, v, b) :: ys).map (·.2.2)) w w' := by
  have c1 := H.cMap
  have hlt : C < w.heap.size := H.lt C (by simp [foot])
  have hbt : b < w.heap.size := H.lt b (by simp [foot])
  have hlook := (H.alloc (.cells #[.int .i64 v'.1, .int .i64 v'.2] 28)).look_hit (k := k) (v := v) (b := b) (by simp)
  have hb := H.node (k, v, b) (by simp)
  have c2 : w.cell? ⟨b, 1, none⟩ = some (.int .i64 v.1) := hb.pre rfl
  have c3 : (w.setCell ⟨b, 1, none⟩ (.int .i64 v'.1)).cell? ⟨b, 2, none⟩ = some (.int .i64 v.2) := by rw [cell_ne (.inr (by omega))]; exact hb.pre rfl
  have f2 : w.frozen? ⟨b, 1, none⟩ = false := hb.free
  have f3 : w.frozen? ⟨b, 2, none⟩ = false := hb.free
  have hbC : b ≠ C := fun e => by have := H.nodup; rw [List.nodup_cons] at this; exact this.1 (List.mem_map.2 ⟨(k, v, b), by simp, e⟩)
  have H0 := Lib.hid H
  have hbC' := Lib.hid hbC
  clear H hb hbC
  go_enter Try.func13, Try.ntmps13
  go_wp2_with fail
  obtain ⟨wA, hwA⟩ : ∃ wA, wA = ((w.setCell ⟨b, 1, none⟩ (.int .i64 v'.1)).setCell ⟨b, 2, none⟩ (.int .i64 v'.2)).alloc (.cells #[.int .i64 v'.1, .int .i64 v'.2] 28) := ⟨_, rfl⟩
  rw [← hwA]
  have HW := Lib.hid hwA
  clear hwA
  have hb0 := H0.out.node (k, v, b) (by simp)
  have hbA : Nd wA 103 [Value.int .i64 k, .int .i64 v'.1, .int .i64 v'.2] [] b := by rw [HW.out]; exact ((hb0.setPre (i := 1) (by simp) _).setPre (i := 2) (by simp) _).alloc _
  have hrootA : Nd wA 107 [Value.int .i64 0, .int .i64 0, .int .i64 0] [.map (some M), .int .i64 sz, .int .i64 h, .int .i64 m] C := by
    rw [HW.out]; exact (H0.out.root.keep ((Below.heap_setCell _ ⟨b, 2, none⟩ _ _ (Ne.symm hbC'.out)).trans (Below.heap_setCell _ ⟨b, 1, none⟩ _ _ (Ne.symm hbC'.out)))).alloc _
  have hnodeA : ∀ x ∈ xs ++ (k, v', b) :: ys, Nd wA 103 (Value.int .i64 x.1 :: [.int .i64 x.2.1.1, .int .i64 x.2.1.2]) [] x.2.2 := fun x hx => by
    by_cases hxb : x.2.2 = b
    · have hk := H0.out.nodup
      have hxe : x = (k, v', b) := by
        rcases List.mem_append.1 hx with hx | hx
        · exfalso
          simp only [List.map_append, List.map_cons, List.nodup_cons, List.nodup_append] at hk
          exact hk.2.2.2 b (List.mem_map.2 ⟨x, hx, hxb⟩) b (by simp) rfl
        · rcases List.mem_cons.1 hx with hx | hx
          · exact hx
          · exfalso
            simp only [List.map_append, List.map_cons, List.nodup_cons, List.nodup_append] at hk
            exact hk.2.2.1.1 (List.mem_map.2 ⟨x, hx, hxb⟩)
      rw [hxe]; exact hbA
    · have hx0 : x ∈ xs ++ (k, v, b) :: ys := by
        rcases List.mem_append.1 hx with hx | hx
        · simp [hx]
        · rcases List.mem_cons.1 hx with hx | hx
          · exact absurd (by rw [hx]) hxb
          · simp [hx]
      rw [HW.out]; exact ((H0.out.node x hx0).keep ((Below.heap_setCell _ _ _ _ hxb).trans (Below.heap_setCell _ _ _ _ hxb))).alloc _
  have hlA : ∀ x ∈ C :: (List.map (·.2.2) xs ++ b :: List.map (·.2.2) ys), Lk 3 wA x := fun x hx => by
    rcases List.mem_cons.1 hx with rfl | hx
    · exact ⟨_, _, _, by rfl, hrootA⟩
    · have : x ∈ (xs ++ (k, v', b) :: ys).map (·.2.2) := by simpa using hx
      obtain ⟨y, hy, rfl⟩ := List.mem_map.1 this
      exact ⟨_, _, _, by rfl, hnodeA y hy⟩
  have hn := H0.out.nodup
  have hr : Ring 3 wA C ((xs ++ (k, v, b) :: ys).map (·.2.2)) := by rw [HW.out]; exact ((H0.out.ring.setCell (by omega) _).setCell (by omega) _).keep (fun c hc => Below.heap_alloc _ _ _ (by simpa using H0.out.lt c (by simp only [foot, List.mem_cons] at hc ⊢; rcases hc with h1 | h1; exact .inl h1; exact .inr (.inr h1))))
  rw [List.map_append, List.map_cons] at hn hr
  refine (out_call hn hlA hr).mono ?_
  rintro e1 w1 ⟨rfl, hr1, hk1, hm1⟩
  have HM := Lib.hid (And.intro hr1 (And.intro hk1 (And.intro hm1 (And.intro hrootA (And.intro hnodeA (And.intro hlA hn))))))
  clear hn hlA hr hr1 hk1 hm1 hrootA hnodeA hbA hb0
  go_wp2_with fail
  obtain ⟨hr1, hk1, hm1, hrootA, hnodeA, hlA, hn⟩ := HM.out
  have hn2 := (List.Perm.cons C (List.perm_middle (a := b) (l₁ := xs.map (·.2.2)) (l₂ := ys.map (·.2.2)))).nodup_iff.1 hn
  have hl2 : ∀ x ∈ C :: (List.map (·.2.2) xs ++ b :: List.map (·.2.2) ys), Lk 3 w1 x := fun x hx => by
    obtain ⟨t, pre, post, hp, hnd⟩ := hlA x hx
    exact ⟨t, pre, post, hp, hk1 _ _ _ _ hp hnd⟩
  refine (first_call (r := C) (e := b) (bs := List.map (·.2.2) xs ++ List.map (·.2.2) ys) ?_ ?_ ?_ ?_ hr1).mono ?_
  · simp only [List.nodup_cons, List.mem_cons] at hn2 ⊢; exact ⟨fun h1 => hn2.1 (.inr h1), hn2.2.2⟩
  · simp only [List.nodup_cons, List.mem_cons] at hn2 ⊢; rintro (h1 | h1); exact hn2.1 (.inl h1.symm); exact hn2.2.1 h1
  · intro x hx; refine hl2 x ?_; simp only [List.mem_cons, List.mem_append] at hx ⊢; rcases hx with h1 | h1 | h1; exact .inl h1; exact .inr (.inl h1); exact .inr (.inr (.inr h1))
  · exact hl2 b (by simp)
  rintro e2 w2 ⟨rfl, hr2, hk2, hm2⟩
  have e1 : List.map (·.2.2) xs ++ List.map (·.2.2) ys = (xs ++ ys).map (·.2.2) := by simp
  have e0 : List.map (·.2.2) xs ++ b :: List.map (·.2.2) ys = (xs ++ (k, v, b) :: ys).map (·.2.2) := by simp
  rw [e1] at hr2 hm2
  rw [e0] at hm1
  have hbM : M ≠ b := (H0.out.mapCells (by simp)).symm
  have hmA : wA.heap[M]? = w.heap[M]? := by rw [HW.out]; exact (Below.heap_alloc _ _ _ (by simpa using H0.out.lt M (by simp [foot]))).trans ((Below.heap_setCell _ _ _ _ hbM).trans (Below.heap_setCell _ _ _ _ hbM))
  have HF := Lib.hid (moved H0.out (v' := v') hrootA hnodeA hmA hk1 hm1 hr2 hk2 hm2)
  have HMM : Mod (fun x => x ∈ C :: (xs ++ (k, v, b) :: ys).map (·.2.2)) w w2 := by
    have h0 : Mod (fun x => x ∈ C :: (xs ++ (k, v, b) :: ys).map (·.2.2)) w wA := by rw [HW.out]; exact (((Mod.refl _ w).setCell (p := ⟨b, 1, none⟩) (.inl (by simp)) _).setCell (p := ⟨b, 2, none⟩) (.inl (by simp)) _).alloc _
    refine (h0.trans hm1 (fun x hx => .inl hx)).trans hm2 (fun x hx => .inl ?_)
    simp only [List.map_append, List.map_cons, List.mem_cons, List.mem_append] at hx ⊢
    grind
  have HMM' := Lib.hid HMM
  clear hn hn2 hl2 hr1 hk1 hm1 hrootA hnodeA hlA hr2 hk2 hm2 e1 e0 hmA HMM hbM
  go_wp2
  go_end0
  exact ⟨rfl, HF.out, HMM'.out⟩

end
end Go.Proofs.Ytepgaphhinacmaa.CacheIA
