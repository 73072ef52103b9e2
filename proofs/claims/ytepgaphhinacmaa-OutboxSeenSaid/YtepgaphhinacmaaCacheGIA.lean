/- The cache at keys int and values [2]int: Get. -/
import Derived.Test.YtepgaphhinacmaaCacheDIA
import Derived.Laws.ResultCell
namespace Go.Proofs.Ytepgaphhinacmaa.CacheIA
open Go.RowKit Go.Por

section
variable {w : World} {C M : Nat} {es : List (Int × (Int × Int) × Nat)} {sz h m : Int}

theorem CacheIs.alloc (H : CacheIs w C M es sz h m) (o : Obj) : CacheIs (w.alloc o) C M es sz h m := H.keep (fun b hb => Below.heap_alloc _ _ _ (H.lt b hb))

set_option maxHeartbeats 800000 in
theorem get_miss (H : CacheIs w C M es sz h m) {k : Int} (hk : k ∉ es.map (·.1)) :
    Calls Try.prog 12 #[.pointer (some ⟨C, 0, none⟩), .int .i64 k] w fun e w' => e = .returned (.tuple #[.agg #[.int .i64 0, .int .i64 0], .bool false]) ∧ CacheIs w' C M es sz h (wrap64 (m + 1)) ∧ Mod (fun b => b = C) w w' := by
  have c1 := H.cMap
  have c2 := H.cMiss
  have f2 : w.frozen? ⟨C, 8, none⟩ = false := H.root.free
  have hlt : C < w.heap.size := H.lt C (by simp [foot])
  have hlook := (H.alloc (.cells #[.int .i64 0, .int .i64 0] 28)).look_miss hk
  have H' := Lib.hid H
  clear H
  go_enter Try.func12, Try.ntmps12
  go_wp2
  refine bodyPost_ret (v := .tuple #[.agg #[.int .i64 0, .int .i64 0], .bool false]) (by simp [results, Try.results12, go_sem]) rfl ⟨rfl, ?_, ?_⟩
  · exact ((H'.out.setPost 3 sz h (wrap64 (m + 1)) _ rfl).alloc _).alloc _
  · exact (((Mod.refl (fun b => b = C) w).setCell (p := ⟨C, 8, none⟩) (.inl rfl) _).alloc _).alloc _

/-- Two cells written into a block of two. -/
theorem two_set {w : World} {R : Nat} {t : TypeId} {a b : Value} (h : w.heap[R]? = some (.cells #[a, b] t (0, 0))) (x y : Value) :
    ((w.setCell ⟨R, 0, none⟩ x).setCell ⟨R, 1, none⟩ y).heap[R]? = some (.cells #[x, y] t (0, 0)) := by
  have h1 := block_setCell (i := 0) h x
  have h2 := block_setCell (i := 1) h1 y
  simpa using h2

set_option maxHeartbeats 1600000 in
theorem get_hit {xs ys : List (Int × (Int × Int) × Nat)} {k : Int} {v : (Int × Int)} {b : Nat} (H : CacheIs w C M (xs ++ (k, v, b) :: ys) sz h m) :
    Calls Try.prog 12 #[.pointer (some ⟨C, 0, none⟩), .int .i64 k] w fun e w' => e = .returned (.tuple #[.agg #[.int .i64 v.1, .int .i64 v.2], .bool true]) ∧
      CacheIs w' C M ((k, v, b) :: (xs ++ ys)) sz (wrap64 (h + 1)) m ∧ Mod (fun x => x ∈ C :: (xs ++ (k, v, b) :: ys).map (·.2.2)) w w' := by
  have c1 := H.cMap
  have c2 := H.cHits
  have f2 : w.frozen? ⟨C, 7, none⟩ = false := H.root.free
  have hlt : C < w.heap.size := H.lt C (by simp [foot])
  have hlook := (H.alloc (.cells #[.int .i64 0, .int .i64 0] 28)).look_hit (k := k) (v := v) (b := b) (by simp)
  have H1 := Lib.hid ((H.setPost 2 sz (wrap64 (h + 1)) m (.int .i64 (wrap64 (h + 1))) rfl).alloc (.cells #[.int .i64 0, .int .i64 0] 28))
  have H0 := Lib.hid H
  clear H
  go_enter Try.func12, Try.ntmps12
  go_wp2_with fail
  have hn := H1.out.nodup
  have hl := H1.out.lk
  have hr := H1.out.ring
  rw [List.map_append, List.map_cons] at hn hl hr
  refine (out_call hn hl hr).mono ?_
  rintro e1 w1 ⟨rfl, hr1, hk1, hm1⟩
  have HM := Lib.hid (And.intro hr1 (And.intro hk1 hm1))
  clear hn hl hr hr1 hk1 hm1
  go_wp2_with fail
  have hn := H1.out.nodup
  rw [List.map_append, List.map_cons] at hn
  have hn2 := (List.Perm.cons C (List.perm_middle (a := b) (l₁ := xs.map (·.2.2)) (l₂ := ys.map (·.2.2)))).nodup_iff.1 hn
  have hl2 : ∀ x ∈ C :: (List.map (·.2.2) xs ++ b :: List.map (·.2.2) ys), Lk 3 w1 x := fun x hx => by
    obtain ⟨t, pre, post, hp, hnd⟩ := H1.out.lk x (by rw [List.map_append, List.map_cons]; exact hx)
    exact ⟨t, pre, post, hp, HM.out.2.1 _ _ _ _ hp hnd⟩
  refine (first_call (r := C) (e := b) (bs := List.map (·.2.2) xs ++ List.map (·.2.2) ys) ?_ ?_ ?_ ?_ HM.out.1).mono ?_
  · simp only [List.nodup_cons, List.mem_cons] at hn2 ⊢; exact ⟨fun h1 => hn2.1 (.inr h1), hn2.2.2⟩
  · simp only [List.nodup_cons, List.mem_cons] at hn2 ⊢; rintro (h1 | h1); exact hn2.1 (.inl h1.symm); exact hn2.2.1 h1
  · intro x hx; refine hl2 x ?_; simp only [List.mem_cons, List.mem_append] at hx ⊢; rcases hx with h1 | h1 | h1; exact .inl h1; exact .inr (.inl h1); exact .inr (.inr (.inr h1))
  · exact hl2 b (by simp)
  rintro e2 w2 ⟨rfl, hr2, hk2, hm2⟩
  have e1 : List.map (·.2.2) xs ++ List.map (·.2.2) ys = (xs ++ ys).map (·.2.2) := by simp
  have e0 : List.map (·.2.2) xs ++ b :: List.map (·.2.2) ys = (xs ++ (k, v, b) :: ys).map (·.2.2) := by simp
  rw [e1] at hr2 hm2
  have hm1 := HM.out.2.2
  rw [e0] at hm1
  have HF := Lib.hid (moved H1.out (v' := v) H1.out.root H1.out.node rfl HM.out.2.1 hm1 hr2 hk2 hm2)
  have hfin : ∀ x ∈ C :: (xs ++ (k, v, b) :: ys).map (·.2.2), x < w.heap.size := fun x hx => H0.out.lt x (by simp only [foot, List.mem_cons] at hx ⊢; rcases hx with h1 | h1; exact .inl h1; exact .inr (.inr h1))
  have hsub : ∀ x, x ∈ b :: C :: (xs ++ ys).map (·.2.2) → x ∈ C :: (xs ++ (k, v, b) :: ys).map (·.2.2) := fun x hx => by
    simp only [List.map_append, List.map_cons, List.mem_cons, List.mem_append] at hx ⊢
    grind
  have HMM : Mod (fun x => x ∈ C :: (xs ++ (k, v, b) :: ys).map (·.2.2)) w w2 := by
    exact ((((Mod.refl _ w).setCell (p := ⟨C, 7, none⟩) (.inl (by simp)) _).alloc _).trans hm1 (fun x hx => .inl hx)).trans hm2 (fun x hx => .inl (hsub x hx))
  have hR0 : ((w.setCell ⟨C, 7, none⟩ (.int .i64 (wrap64 (h + 1)))).alloc (.cells #[.int .i64 0, .int .i64 0] 28)).heap[w.heap.size]? = some (.cells #[.int .i64 0, .int .i64 0] 28 (0, 0)) := by
    have := block_new (w.setCell ⟨C, 7, none⟩ (.int .i64 (wrap64 (h + 1)))) (.cells #[.int .i64 0, .int .i64 0] 28)
    simpa using this
  have hR1 := hm1.old hR0 (fun h1 => by have := hfin _ h1; omega)
  have hR2 : w2.heap[w.heap.size]? = some (.cells #[.int .i64 0, .int .i64 0] 28 (0, 0)) := hm2.old hR1 (fun h1 => by have := hfin _ (hsub _ h1); omega)
  have r1 : w2.cell? ⟨w.heap.size, 0, none⟩ = some (.int .i64 0) := cell_of hR2 rfl
  have r2 : (w2.setCell ⟨w.heap.size, 0, none⟩ (.int .i64 v.1)).cell? ⟨w.heap.size, 1, none⟩ = some (.int .i64 0) := by rw [cell_ne (.inr (by omega))]; exact cell_of hR2 rfl
  have r3 : w2.frozen? ⟨w.heap.size, 0, none⟩ = false := free_of hR2
  have r4 : w2.frozen? ⟨w.heap.size, 1, none⟩ = false := free_of hR2
  have hT := two_set hR2 (.int .i64 v.1) (.int .i64 v.2)
  have r5 : ((w2.setCell ⟨w.heap.size, 0, none⟩ (.int .i64 v.1)).setCell ⟨w.heap.size, 1, none⟩ (.int .i64 v.2)).cell? ⟨w.heap.size, 0, none⟩ = some (.int .i64 v.1) := cell_of hT rfl
  have r6 : ((w2.setCell ⟨w.heap.size, 0, none⟩ (.int .i64 v.1)).setCell ⟨w.heap.size, 1, none⟩ (.int .i64 v.2)).cell? ⟨w.heap.size, 1, none⟩ = some (.int .i64 v.2) := cell_of hT rfl
  have hnd := HF.out.node (k, v, b) (by simp)
  have cv1 : w2.cell? ⟨b, 1, none⟩ = some (.int .i64 v.1) := hnd.pre rfl
  have cv2 : w2.cell? ⟨b, 2, none⟩ = some (.int .i64 v.2) := hnd.pre rfl
  have HMM' := Lib.hid (And.intro HMM hfin)
  clear hn hn2 hl2 hr2 hk2 hm2 e1 e0 hm1 HMM hfin hsub hR0 hR1 hR2 hT hnd
  go_wp2
  refine bodyPost_ret (v := .tuple #[.agg #[.int .i64 v.1, .int .i64 v.2], .bool true]) (by simp [results, Try.results12, go_sem, r5, r6]) rfl ⟨rfl, ?_, ?_⟩
  · refine HF.out.keep (fun c hc => ?_)
    have hc' : c ∈ foot C M (xs ++ (k, v, b) :: ys) := by
      simp only [foot, List.map_append, List.map_cons, List.mem_cons, List.mem_append] at hc ⊢
      grind
    have := H0.out.lt c hc'
    rw [Below.heap_setCell _ _ _ _ (show c ≠ w.heap.size by omega), Below.heap_setCell _ _ _ _ (show c ≠ w.heap.size by omega)]
  · exact (HMM'.out.1.setCell (p := ⟨w.heap.size, 0, none⟩) (.inr (Nat.le_refl _)) _).setCell (p := ⟨w.heap.size, 1, none⟩) (.inr (Nat.le_refl _)) _
end
end Go.Proofs.Ytepgaphhinacmaa.CacheIA
