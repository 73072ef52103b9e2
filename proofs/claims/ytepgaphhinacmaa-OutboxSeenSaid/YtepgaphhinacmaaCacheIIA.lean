/- The cache at keys int and values [2]int: Put of a new key. -/
import Derived.Test.YtepgaphhinacmaaCacheHIA
namespace Go.Proofs.Ytepgaphhinacmaa.CacheIA
open Go.RowKit Go.Por

section
variable {w : World} {C M : Nat} {es : List (Int × (Int × Int) × Nat)} {sz h m : Int}

set_option maxHeartbeats 800000 in
theorem put_new {k : Int} {v : Int × Int} (H : CacheIs w C M es sz h m) (hk : k ∉ es.map (·.1)) (hlen : (es.length : Int) < sz) :
    Calls Try.prog 13 #[.pointer (some ⟨C, 0, none⟩), Value.int .i64 k, .agg #[.int .i64 v.1, .int .i64 v.2]] w fun e w' => e = .returned (.tuple #[]) ∧
      ∃ b, w.heap.size ≤ b ∧ CacheIs w' C M ((k, v, b) :: es) sz h m ∧ Mod (fun x => x ∈ foot C M es) w w' := by
  have c1 := H.cMap
  have c2 := H.cSize
  have HX := H.alloc (.cells #[.int .i64 v.1, .int .i64 v.2] 28)
  have hlook := HX.look_miss hk
  have hln := len_run (w := (w.alloc (.cells #[.int .i64 v.1, .int .i64 v.2] 28)).drew) (HX.keep (fun _ _ => rfl))
  obtain ⟨o, hrun, HP⟩ := put_facts HX (v := v) hk (wA := ((w.alloc (.cells #[.int .i64 v.1, .int .i64 v.2] 28)).alloc (.cells #[Value.int .i64 k, .int .i64 v.1, .int .i64 v.2, .pointer none, .pointer none] 103)).drew) ⟨1, rfl⟩
  rw [World.size_alloc] at hrun HP
  have HQ := Lib.hid HP
  have hlt : C < w.heap.size := H.lt C (by simp [foot])
  have ht2 : ((es.length : Int) == sz) = false := by rw [beq_eq_false_iff_ne]; omega
  clear H HX HP hlen hk
  go_enter Try.func13, Try.ntmps13
  go_wp2_with fail
  go_region
  go_wp2_with fail
  obtain ⟨_, hn, hnin, hlk, hle, hr, hf⟩ := HQ.out
  refine (first_call hn hnin hlk hle hr).mono ?_
  rintro e1 w1 ⟨rfl, hr1, hk1, hm1⟩
  obtain ⟨hf1, hf2⟩ := hf w1 hr1 hk1 hm1
  have HF := Lib.hid (And.intro hf1 (((Mod.refl (fun x => x ∈ foot C M es) w).alloc (.cells #[.int .i64 v.1, .int .i64 v.2] 28)).trans' hf2))
  clear hn hnin hlk hle hr hf hr1 hk1 hm1 hf1 hf2
  go_wp2
  go_end0
  exact ⟨rfl, w.heap.size + 1, Nat.le_succ _, HF.out⟩

set_option maxHeartbeats 1600000 in
theorem put_full {k k0 : Int} {v v0 : Int × Int} {b0 : Nat} {xs : List (Int × (Int × Int) × Nat)} (H : CacheIs w C M (xs ++ [(k0, v0, b0)]) sz h m) (hk : k ∉ (xs ++ [(k0, v0, b0)]).map (·.1)) (hlen : ((xs.length : Int) + 1) = sz) :
    Calls Try.prog 13 #[.pointer (some ⟨C, 0, none⟩), Value.int .i64 k, .agg #[.int .i64 v.1, .int .i64 v.2]] w fun e w' => e = .returned (.tuple #[]) ∧
      ∃ b, w.heap.size ≤ b ∧ CacheIs w' C M ((k, v, b) :: xs) sz h m ∧ Mod (fun x => x ∈ foot C M (xs ++ [(k0, v0, b0)])) w w' := by
  have c1 := H.cMap
  have c2 := H.cSize
  have HX := H.alloc (.cells #[.int .i64 v.1, .int .i64 v.2] 28)
  have hlook := HX.look_miss hk
  have hln : ∀ ty, (Builtin.len_ #[100] ty #[.map (some M)]).run Try.prog (w.alloc (.cells #[.int .i64 v.1, .int .i64 v.2] 28)).drew = .ok (.int .i64 sz) (w.alloc (.cells #[.int .i64 v.1, .int .i64 v.2] 28)).drew := fun ty => by
    rw [len_run (w := (w.alloc (.cells #[.int .i64 v.1, .int .i64 v.2] 28)).drew) (HX.keep (fun _ _ => rfl)) ty, ← hlen]
    simp [goInt]
  have hlt0 : C < w.heap.size := H.lt C (by simp [foot])
  have hr := HX.ring
  have hr0 := H.ring
  have hn := HX.nodup
  have hl := HX.lk
  rw [List.map_append, List.map_cons, List.map_nil] at hr0
  rw [List.map_append, List.map_cons, List.map_nil] at hr hn hl
  have c3 : w.cell? ⟨C, 3, none⟩ = some (.pointer (some ⟨b0, 0, none⟩)) := ring_last hr0
  have HQ := Lib.hid (And.intro HX (And.intro hn (And.intro hl (And.intro hr (And.intro hk H)))))
  clear H HX hr hr0 hn hl hlen hk
  go_enter Try.func13, Try.ntmps13
  go_wp2_with fail
  go_region
  go_wp2_with fail
  obtain ⟨H, hn, hl, hr, hk, Hw⟩ := HQ.out
  refine (out_call (w := (w.alloc (.cells #[.int .i64 v.1, .int .i64 v.2] 28)).drew) (r := C) (e := b0) (xs := xs.map (·.2.2)) (ys := []) hn (fun b hb => by obtain ⟨t, pre, post, hp, hnd⟩ := hl b hb; exact ⟨t, pre, post, hp, hnd.drew⟩) hr.drew).mono ?_
  rintro e1 w1 ⟨rfl, hr1, hk1, hm1⟩
  have hroot1 : Nd w1 107 [Value.int .i64 0, .int .i64 0, .int .i64 0] [.map (some M), .int .i64 sz, .int .i64 h, .int .i64 m] C := hk1 _ _ _ _ (by rfl) H.root.drew
  have hnode1 : ∀ x ∈ xs ++ [(k0, v0, b0)], Nd w1 103 (Value.int .i64 x.1 :: [.int .i64 x.2.1.1, .int .i64 x.2.1.2]) [] x.2.2 := fun x hx => hk1 _ _ _ _ (by rfl) (H.node x hx).drew
  have c4 : w1.cell? ⟨C, 5, none⟩ = some (.map (some M)) := hroot1.post (i := 0) rfl
  have c5 : w1.cell? ⟨b0, 0, none⟩ = some (Value.int .i64 k0) := (hnode1 (k0, v0, b0) (by simp)).pre rfl
  have hM : ∀ b ∈ C :: (xs ++ [(k0, v0, b0)]).map (·.2.2), b ≠ M := fun b hb => H.mapCells hb
  obtain ⟨l, hl0, hx, hlen0⟩ := H.map
  have hl1 : MapIs w1.drew M (fun k => Value.int .i64 k) l := ((hl0.keep (w' := (w.alloc (.cells #[.int .i64 v.1, .int .i64 v.2] 28)).drew) rfl).mod hm1 (fun h1 => hM M (by rw [List.map_append]; exact h1) rfl)).keep (w' := w1.drew) rfl
  have hdel := fun ty : TypeId => hl1.delete (ty := ty) (t2 := 3) keyOK Try.underlying100 k0
  obtain ⟨o, hrun, hl2⟩ := hdel 0
  have hrun' : (Builtin.delete_ #[100, 3] 0 #[.map (some M), Value.int .i64 k0]).run Try.prog w1.drew = .ok (.tuple #[]) (setB w1.drew M o) := hrun
  have hB : ∀ b, b ≠ M → (setB w1.drew M o).heap[b]? = w1.heap[b]? := fun b hb => (show (setB w1.drew M o).heap[b]? = w1.drew.heap[b]? by simp [setB, Ne.symm hb])
  have hxs : xs.map (·.2.2) ++ [] = xs.map (·.2.2) := by simp
  have H2 : CacheIs (setB w1.drew M o) C M xs sz h m := {
    root := hroot1.keep (hB C (hM C (by simp)))
    node := fun x hx => (hnode1 x (by simp [hx])).keep (hB _ (hM _ (List.mem_cons_of_mem _ (List.mem_map.2 ⟨x, by simp [hx], rfl⟩))))
    nodup := by
      simp only [List.nodup_cons, List.nodup_append, List.mem_append] at hn ⊢
      exact ⟨fun h1 => hn.1 (.inl h1), hn.2.1⟩
    ring := by
      rw [hxs] at hr1
      exact hr1.keep (fun b hb => hB b (hM b (by
        simp only [List.map_append, List.mem_cons, List.mem_append] at hb ⊢
        rcases hb with h1 | h1
        · exact .inl h1
        · exact .inr (.inl h1))))
    map := by
      have hks := H.keys
      refine ⟨mdel l k0, hl2, fun q u => ?_, ?_⟩
      · rw [mem_mdel, hx]
        constructor
        · rintro ⟨hq, x, hx1, hx2, hx3⟩
          rcases List.mem_append.1 hx1 with h1 | h1
          · exact ⟨x, h1, hx2, hx3⟩
          · simp at h1; subst h1; exact absurd hx2.symm hq
        · rintro ⟨x, hx1, hx2, hx3⟩
          refine ⟨fun e => ?_, x, by simp [hx1], hx2, hx3⟩
          subst hx2
          simp only [List.map_append, List.nodup_append, List.map_cons, List.map_nil] at hks
          exact hks.2.2 x.1 (List.mem_map.2 ⟨x, hx1, rfl⟩) k0 (by simp) e
      · obtain ⟨es', cl, hq1, hq2, hq3, _⟩ := hl0
        have := length_mdel_hit hq3 ((hx k0 (ptr b0)).2 ⟨(k0, v0, b0), by simp, rfl, rfl⟩)
        simp at hlen0
        omega
    keys := by
      have hks := H.keys
      simp only [List.map_append, List.nodup_append] at hks
      exact hks.1 }
  have hk2 : k ∉ xs.map (·.1) := fun h1 => hk (by rw [List.map_append]; exact List.mem_append.2 (.inl h1))
  have hM2 : Mod (fun x => x ∈ foot C M (xs ++ [(k0, v0, b0)])) w (setB w1.drew M o) := by
    refine ((((Mod.refl _ w).alloc (.cells #[.int .i64 v.1, .int .i64 v.2] 28)).drew).trans hm1 (fun x hx => .inl ?_)).drew.trans (setB_mod w1.drew M o) (fun x hx => .inl (by rw [show x = M from hx]; simp [foot]))
    simp only [foot, List.map_append, List.map_cons, List.map_nil, List.mem_cons, List.mem_append] at hx ⊢
    grind
  have hR0 : (w.alloc (.cells #[.int .i64 v.1, .int .i64 v.2] 28)).drew.heap[w.heap.size]? = some (.cells #[.int .i64 v.1, .int .i64 v.2] 28 (0, 0)) := block_new _ _
  have hR1 : w1.heap[w.heap.size]? = some (.cells #[.int .i64 v.1, .int .i64 v.2] 28 (0, 0)) := hm1.old hR0 (fun h1 => by
    have h2 := Hw.lt w.heap.size (by
      simp only [foot, List.map_append, List.map_cons, List.map_nil, List.mem_cons, List.mem_append] at h1 ⊢
      grind)
    omega)
  have hMlt := Hw.lt M (by simp [foot])
  have hR2 : (setB w1.drew M o).heap[w.heap.size]? = some (.cells #[.int .i64 v.1, .int .i64 v.2] 28 (0, 0)) := (hB _ (by omega)).trans hR1
  have HR := Lib.hid (And.intro H2 (And.intro hk2 (And.intro hM2 hR2)))
  clear hR0 hR1 hR2 hMlt Hw H hn hl hr hk hr1 hk1 hm1 hroot1 hnode1 hM hl0 hx hlen0 hl1 hdel hrun hl2 hB hxs H2 hk2 hM2 HQ c1 c2 c3 hlook hln
  go_wp2_with fail
  go_region
  obtain ⟨w2, hw2⟩ : ∃ w2, w2 = setB w1.drew M o := ⟨_, rfl⟩
  rw [← hw2] at HR ⊢
  obtain ⟨H2, hk2, hM2, hR2⟩ := HR.out
  have r1 : w2.cell? ⟨w.heap.size, 0, none⟩ = some (.int .i64 v.1) := cell_of hR2 rfl
  have r2 : w2.cell? ⟨w.heap.size, 1, none⟩ = some (.int .i64 v.2) := cell_of hR2 rfl
  clear hw2 hrun' c4 c5 HR
  have c6 := H2.cMap
  obtain ⟨o2, hrun2, HP⟩ := put_facts H2 (v := v) hk2 (wA := (w2.alloc (.cells #[Value.int .i64 k, .int .i64 v.1, .int .i64 v.2, .pointer none, .pointer none] 103))) ⟨0, rfl⟩
  have HS := Lib.hid HP
  have hlt : C < w2.heap.size := H2.lt C (by simp [foot])
  have HM2 := Lib.hid hM2
  clear H2 HP hk2 hM2 hR2
  go_wp2_with fail
  obtain ⟨_, hn, hnin, hlk, hle, hr, hf⟩ := HS.out
  refine (first_call hn hnin hlk hle hr).mono ?_
  rintro e1 w3 ⟨rfl, hr3, hk3, hm3⟩
  have hf3 := hf w3 hr3 hk3 hm3
  have hMM : Mod (fun x => x ∈ foot C M (xs ++ [(k0, v0, b0)])) w w3 := HM2.out.trans hf3.2 (fun x hx => .inl (by
    simp only [foot, List.map_append, List.mem_cons, List.mem_append] at hx ⊢
    rcases hx with h1 | h1 | h1
    · exact .inl h1
    · exact .inr (.inl h1)
    · exact .inr (.inr (.inl h1))))
  have HF := Lib.hid (And.intro hf3.1 hMM)
  have hsz2 : w.heap.size ≤ w2.heap.size := HM2.out.size
  clear hn hnin hlk hle hr hf hr3 hk3 hm3 hf3 hMM
  go_wp2
  go_end0
  exact ⟨rfl, w2.heap.size, hsz2, HF.out⟩
end
end Go.Proofs.Ytepgaphhinacmaa.CacheIA
