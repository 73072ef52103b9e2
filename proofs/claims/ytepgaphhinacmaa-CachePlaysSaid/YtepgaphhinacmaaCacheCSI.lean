/- The cache at keys string and values int: Get. -/
import Derived.Test.YtepgaphhinacmaaCacheBSI
namespace Go.Proofs.Ytepgaphhinacmaa.CacheSI
open Go.RowKit Go.Por

theorem zeroPtr (w : World) : (zeroValue 119).run Try.prog w = .ok (.pointer none) w := by kernel_rfl

section
variable {w : World} {C M : Nat} {es : List (ByteArray × Int × Nat)} {sz h m : Int}

theorem CacheIs.look_miss (H : CacheIs w C M es sz h m) {k : ByteArray} (hk : k ∉ es.map (·.1)) :
    (Instr.lookup 118 (.map (some M)) (Value.string k) false).run Try.prog w = .ok (.pointer none) w := by
  obtain ⟨l, hl, hx, _⟩ := H.map
  have hn : k ∉ l.map Prod.fst := by
    intro h1
    obtain ⟨⟨k', v⟩, hp, rfl⟩ := List.mem_map.1 h1
    obtain ⟨x, hx1, hx2, _⟩ := (hx _ _).1 hp
    exact hk (List.mem_map.2 ⟨x, hx1, hx2⟩)
  exact hl.look_miss keyOK Try.underlying118 hn (zeroPtr w) false
theorem CacheIs.look_hit (H : CacheIs w C M es sz h m) {k : ByteArray} {v : Int} {b : Nat} (hk : (k, v, b) ∈ es) :
    (Instr.lookup 118 (.map (some M)) (Value.string k) false).run Try.prog w = .ok (.pointer (some ⟨b, 0, none⟩)) w := by
  obtain ⟨l, hl, hx, _⟩ := H.map
  exact hl.look_hit keyOK Try.underlying118 ((hx k (ptr b)).2 ⟨_, hk, rfl, rfl⟩) false

/-- A count is written. -/
theorem CacheIs.setPost (H : CacheIs w C M es sz h m) (i : Nat) (sz' h' m' : Int) (u : Value)
    (hs : [Value.map (some M), .int .i64 sz, .int .i64 h, .int .i64 m].set i u = [Value.map (some M), .int .i64 sz', .int .i64 h', .int .i64 m']) :
    CacheIs (w.setCell ⟨C, 2 + 2 + i, none⟩ u) C M es sz' h' m' where
  root := by have := H.root.setPost i u; rw [hs] at this; exact this
  node x hx := by
    have hne : x.2.2 ≠ C := by
      intro e
      have := H.nodup
      rw [← e, List.nodup_cons] at this
      exact this.1 (List.mem_map.2 ⟨x, hx, rfl⟩)
    exact (H.node x hx).keep (Below.heap_setCell _ _ _ _ hne)
  nodup := H.nodup
  ring := H.ring.setCell (by omega) u
  map := by
    obtain ⟨l, h1, h2⟩ := H.map
    exact ⟨l, h1.setCell u (H.mapCells (by simp)), h2⟩
  keys := H.keys

theorem get_miss (H : CacheIs w C M es sz h m) {k : ByteArray} (hk : k ∉ es.map (·.1)) :
    Calls Try.prog 25 #[.pointer (some ⟨C, 0, none⟩), Value.string k] w fun e w' => e = .returned (.tuple #[.int .i64 0, .bool false]) ∧ CacheIs w' C M es sz h (wrap64 (m + 1)) ∧ Mod (fun b => b = C) w w' := by
  have c1 := H.cMap
  have c2 := H.cMiss
  have f2 : w.frozen? ⟨C, 7, none⟩ = false := H.root.free
  have hlook := H.look_miss hk
  have H' := Lib.hid H
  clear H
  go_enter Try.func25, Try.ntmps25
  go_wp2
  go_ret2
  exact ⟨rfl, H'.out.setPost 3 sz h (wrap64 (m + 1)) _ rfl, (Mod.refl (fun b => b = C) w).setCell (p := ⟨C, 7, none⟩) (.inl rfl) _⟩

/-- After out and first: the entry stands ahead. -/
theorem moved {w1 w2 w3 : World} {xs ys : List (ByteArray × Int × Nat)} {k : ByteArray} {v v' : Int} {b : Nat}
    (H : CacheIs w C M (xs ++ (k, v, b) :: ys) sz h m)
    (hroot : Nd w1 125 [Value.string ByteArray.empty, Value.int .i64 0] [.map (some M), .int .i64 sz, .int .i64 h, .int .i64 m] C)
    (hnode : ∀ x ∈ xs ++ (k, v', b) :: ys, Nd w1 121 (Value.string x.1 :: [.int .i64 x.2.1]) [] x.2.2)
    (hmap : w1.heap[M]? = w.heap[M]?)
    (hk2 : ∀ t pre post b, pre.length = 2 → Nd w1 t pre post b → Nd w2 t pre post b) (hm2 : Mod (fun x => x ∈ C :: ((xs ++ (k, v, b) :: ys).map (·.2.2))) w1 w2)
    (hr3 : Ring 2 w3 C (b :: (xs ++ ys).map (·.2.2))) (hk3 : ∀ t pre post b, pre.length = 2 → Nd w2 t pre post b → Nd w3 t pre post b)
    (hm3 : Mod (fun x => x ∈ b :: C :: ((xs ++ ys).map (·.2.2))) w2 w3) : CacheIs w3 C M ((k, v', b) :: (xs ++ ys)) sz h m where
  root := hk3 _ _ _ _ (by rfl) (hk2 _ _ _ _ (by rfl) hroot)
  node x hx := by
    have : x ∈ xs ++ (k, v', b) :: ys := by
      rcases List.mem_cons.1 hx with rfl | hx
      · simp
      · rcases List.mem_append.1 hx with hx | hx <;> simp [hx]
    exact hk3 _ _ _ _ (by rfl) (hk2 _ _ _ _ (by rfl) (hnode x this))
  nodup := by
    have := H.nodup
    have hp : (C :: (xs ++ (k, v, b) :: ys).map (·.2.2)).Perm (C :: ((k, v', b) :: (xs ++ ys)).map (·.2.2)) := by
      refine List.Perm.cons _ ?_
      simp only [List.map_append, List.map_cons]
      exact List.perm_middle
    exact hp.nodup_iff.1 this
  ring := hr3
  map := by
    obtain ⟨l, h1, h2, h3⟩ := H.map
    have hM : ∀ c ∈ C :: (xs ++ (k, v, b) :: ys).map (·.2.2), c ≠ M := fun c hc => H.mapCells hc
    obtain ⟨o, hq⟩ : ∃ o, w.heap[M]? = some o := by obtain ⟨es', cl, hq, _⟩ := h1; exact ⟨_, hq⟩
    have e2 : w2.heap[M]? = w1.heap[M]? := hm2.block M (lt_block (hmap.trans hq)) (fun hx => hM M hx rfl)
    have e3 : w3.heap[M]? = w2.heap[M]? := hm3.block M (lt_block (e2.trans (hmap.trans hq))) (fun hx => by
      refine hM M ?_ rfl
      simp only [List.map_append, List.map_cons, List.mem_cons, List.mem_append] at hx ⊢
      grind)
    refine ⟨l, h1.keep (e3.trans (e2.trans hmap)), fun q u => ?_, by simp at h3 ⊢; omega⟩
    rw [h2]
    constructor
    · rintro ⟨x, hx, hx1, hx2⟩
      rcases List.mem_append.1 hx with hx | hx
      · exact ⟨x, by simp [hx], hx1, hx2⟩
      · rcases List.mem_cons.1 hx with rfl | hx
        · exact ⟨(k, v', b), by simp, hx1, hx2⟩
        · exact ⟨x, by simp [hx], hx1, hx2⟩
    · rintro ⟨x, hx, hx1, hx2⟩
      rcases List.mem_cons.1 hx with rfl | hx
      · exact ⟨(k, v, b), by simp, hx1, hx2⟩
      · rcases List.mem_append.1 hx with hx | hx
        · exact ⟨x, by simp [hx], hx1, hx2⟩
        · exact ⟨x, by simp [hx], hx1, hx2⟩
  keys := by
    have hp : ((xs ++ (k, v, b) :: ys).map (·.1)).Perm (((k, v', b) :: (xs ++ ys)).map (·.1)) := by
      simp only [List.map_append, List.map_cons]
      exact List.perm_middle
    exact hp.nodup_iff.1 H.keys

set_option maxHeartbeats 800000 in
theorem get_hit {xs ys : List (ByteArray × Int × Nat)} {k : ByteArray} {v : Int} {b : Nat} (H : CacheIs w C M (xs ++ (k, v, b) :: ys) sz h m) :
    Calls Try.prog 25 #[.pointer (some ⟨C, 0, none⟩), Value.string k] w fun e w' => e = .returned (.tuple #[.int .i64 v, .bool true]) ∧
      CacheIs w' C M ((k, v, b) :: (xs ++ ys)) sz (wrap64 (h + 1)) m ∧ Mod (fun x => x ∈ C :: (xs ++ (k, v, b) :: ys).map (·.2.2)) w w' := by
  have c1 := H.cMap
  have c2 := H.cHits
  have f2 : w.frozen? ⟨C, 6, none⟩ = false := H.root.free
  have hlook := H.look_hit (k := k) (v := v) (b := b) (by simp)
  have H1 := Lib.hid (H.setPost 2 sz (wrap64 (h + 1)) m (.int .i64 (wrap64 (h + 1))) rfl)
  have H0 := Lib.hid H
  clear H
  go_enter Try.func25, Try.ntmps25
  go_wp2_with fail
  have hn := H1.out.nodup
  have hl := H1.out.lk
  have hr := H1.out.ring
  rw [List.map_append, List.map_cons] at hn hl hr
  refine (out_call hn hl hr).mono ?_
  rintro e1 w1 ⟨rfl, hr1, hk1, hm1⟩
  have HM := Lib.hid (And.intro hr1 (And.intro hk1 hm1))
  clear hn hl hr hr1 hk1 hm1
  go_wp2_with fail
  have hn := H1.out.nodup
  rw [List.map_append, List.map_cons] at hn
  have hn2 := (List.Perm.cons C (List.perm_middle (a := b) (l₁ := xs.map (·.2.2)) (l₂ := ys.map (·.2.2)))).nodup_iff.1 hn
  have hl2 : ∀ x ∈ C :: (List.map (·.2.2) xs ++ b :: List.map (·.2.2) ys), Lk 2 w1 x := fun x hx => by
    obtain ⟨t, pre, post, hp, hnd⟩ := H1.out.lk x (by rw [List.map_append, List.map_cons]; exact hx)
    exact ⟨t, pre, post, hp, HM.out.2.1 _ _ _ _ hp hnd⟩
  refine (first_call (r := C) (e := b) (bs := List.map (·.2.2) xs ++ List.map (·.2.2) ys) ?_ ?_ ?_ ?_ HM.out.1).mono ?_
  · simp only [List.nodup_cons, List.mem_cons] at hn2 ⊢; exact ⟨fun h1 => hn2.1 (.inr h1), hn2.2.2⟩
  · simp only [List.nodup_cons, List.mem_cons] at hn2 ⊢; rintro (h1 | h1); exact hn2.1 (.inl h1.symm); exact hn2.2.1 h1
  · intro x hx; refine hl2 x ?_; simp only [List.mem_cons, List.mem_append] at hx ⊢; rcases hx with h1 | h1 | h1; exact .inl h1; exact .inr (.inl h1); exact .inr (.inr (.inr h1))
  · exact hl2 b (by simp)
  rintro e2 w2 ⟨rfl, hr2, hk2, hm2⟩
  have e1 : List.map (·.2.2) xs ++ List.map (·.2.2) ys = (xs ++ ys).map (·.2.2) := by simp
  have e0 : List.map (·.2.2) xs ++ b :: List.map (·.2.2) ys = (xs ++ (k, v, b) :: ys).map (·.2.2) := by simp
  rw [e1] at hr2 hm2
  have hm1 := HM.out.2.2
  rw [e0] at hm1
  have HF := Lib.hid (moved H1.out (v' := v) H1.out.root H1.out.node rfl HM.out.2.1 hm1 hr2 hk2 hm2)
  have HMM : Mod (fun x => x ∈ C :: (xs ++ (k, v, b) :: ys).map (·.2.2)) w w2 := by
    refine (((Mod.refl _ w).setCell (p := ⟨C, 6, none⟩) (.inl (by simp)) _).trans hm1 (fun x hx => .inl hx)).trans hm2 (fun x hx => .inl ?_)
    simp only [List.map_append, List.map_cons, List.mem_cons, List.mem_append] at hx ⊢
    grind
  have HMM' := Lib.hid HMM
  have cv : w2.cell? ⟨b, 1, none⟩ = some (.int .i64 v) := (HF.out.node (k, v, b) (by simp)).pre rfl
  clear hn hn2 hl2 hr2 hk2 hm2 e1 e0 hm1 HMM
  go_wp2
  go_ret2
  exact ⟨rfl, HF.out, HMM'.out⟩
end
end Go.Proofs.Ytepgaphhinacmaa.CacheSI
