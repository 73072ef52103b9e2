/- The cache at keys int and values [2]int: Get. -/
import Derived.Test.YtepgaphhinacmaaCacheBIA
namespace Go.Proofs.Ytepgaphhinacmaa.CacheIA
open Go.RowKit Go.Por

theorem zeroPtr (w : World) : (zeroValue 101).run Try.prog w = .ok (.pointer none) w := by kernel_rfl

section
variable {w : World} {C M : Nat} {es : List (Int × (Int × Int) × Nat)} {sz h m : Int}

theorem CacheIs.look_miss (H : CacheIs w C M es sz h m) {k : Int} (hk : k ∉ es.map (·.1)) :
    (Instr.lookup 100 (.map (some M)) (Value.int .i64 k) false).run Try.prog w = .ok (.pointer none) w := by
  obtain ⟨l, hl, hx, _⟩ := H.map
  have hn : k ∉ l.map Prod.fst := by
    intro h1
    obtain ⟨⟨k', v⟩, hp, rfl⟩ := List.mem_map.1 h1
    obtain ⟨x, hx1, hx2, _⟩ := (hx _ _).1 hp
    exact hk (List.mem_map.2 ⟨x, hx1, hx2⟩)
  exact hl.look_miss keyOK Try.underlying100 hn (zeroPtr w) false
theorem CacheIs.look_hit (H : CacheIs w C M es sz h m) {k : Int} {v : (Int × Int)} {b : Nat} (hk : (k, v, b) ∈ es) :
    (Instr.lookup 100 (.map (some M)) (Value.int .i64 k) false).run Try.prog w = .ok (.pointer (some ⟨b, 0, none⟩)) w := by
  obtain ⟨l, hl, hx, _⟩ := H.map
  exact hl.look_hit keyOK Try.underlying100 ((hx k (ptr b)).2 ⟨_, hk, rfl, rfl⟩) false

/-- A count is written. -/
theorem CacheIs.setPost (H : CacheIs w C M es sz h m) (i : Nat) (sz' h' m' : Int) (u : Value)
    (hs : [Value.map (some M), .int .i64 sz, .int .i64 h, .int .i64 m].set i u = [Value.map (some M), .int .i64 sz', .int .i64 h', .int .i64 m']) :
    CacheIs (w.setCell ⟨C, 3 + 2 + i, none⟩ u) C M es sz' h' m' where
  root := by have := H.root.setPost i u; rw [hs] at this; exact this
  node x hx := by
    have hne : x.2.2 ≠ C := by
      intro e
      have := H.nodup
      rw [← e, List.nodup_cons] at this
      exact this.1 (List.mem_map.2 ⟨x, hx, rfl⟩)
    exact (H.node x hx).keep (Below.heap_setCell _ _ _ _ hne)
  nodup := H.nodup
  ring := H.ring.setCell (by omega) u
  map := by
    obtain ⟨l, h1, h2⟩ := H.map
    exact ⟨l, h1.setCell u (H.mapCells (by simp)), h2⟩
  keys := H.keys


/-- After out and first: the entry stands ahead. -/
theorem moved {w1 w2 w3 : World} {xs ys : List (Int × (Int × Int) × Nat)} {k : Int} {v v' : (Int × Int)} {b : Nat}
    (H : CacheIs w C M (xs ++ (k, v, b) :: ys) sz h m)
    (hroot : Nd w1 107 [Value.int .i64 0, .int .i64 0, .int .i64 0] [.map (some M), .int .i64 sz, .int .i64 h, .int .i64 m] C)
    (hnode : ∀ x ∈ xs ++ (k, v', b) :: ys, Nd w1 103 (Value.int .i64 x.1 :: [.int .i64 x.2.1.1, .int .i64 x.2.1.2]) [] x.2.2)
    (hmap : w1.heap[M]? = w.heap[M]?)
    (hk2 : ∀ t pre post b, pre.length = 3 → Nd w1 t pre post b → Nd w2 t pre post b) (hm2 : Mod (fun x => x ∈ C :: ((xs ++ (k, v, b) :: ys).map (·.2.2))) w1 w2)
    (hr3 : Ring 3 w3 C (b :: (xs ++ ys).map (·.2.2))) (hk3 : ∀ t pre post b, pre.length = 3 → Nd w2 t pre post b → Nd w3 t pre post b)
    (hm3 : Mod (fun x => x ∈ b :: C :: ((xs ++ ys).map (·.2.2))) w2 w3) : CacheIs w3 C M ((k, v', b) :: (xs ++ ys)) sz h m where
  root := hk3 _ _ _ _ (by rfl) (hk2 _ _ _ _ (by rfl) hroot)
  node x hx := by
    have : x ∈ xs ++ (k, v', b) :: ys := by
      rcases List.mem_cons.1 hx with rfl | hx
      · simp
      · rcases List.mem_append.1 hx with hx | hx <;> simp [hx]
    exact hk3 _ _ _ _ (by rfl) (hk2 _ _ _ _ (by rfl) (hnode x this))
  nodup := by
    have := H.nodup
    have hp : (C :: (xs ++ (k, v, b) :: ys).map (·.2.2)).Perm (C :: ((k, v', b) :: (xs ++ ys)).map (·.2.2)) := by
      refine List.Perm.cons _ ?_
      simp only [List.map_append, List.map_cons]
      exact List.perm_middle
    exact hp.nodup_iff.1 this
  ring := hr3
  map := by
    obtain ⟨l, h1, h2, h3⟩ := H.map
    have hM : ∀ c ∈ C :: (xs ++ (k, v, b) :: ys).map (·.2.2), c ≠ M := fun c hc => H.mapCells hc
    obtain ⟨o, hq⟩ : ∃ o, w.heap[M]? = some o := by obtain ⟨es', cl, hq, _⟩ := h1; exact ⟨_, hq⟩
    have e2 : w2.heap[M]? = w1.heap[M]? := hm2.block M (lt_block (hmap.trans hq)) (fun hx => hM M hx rfl)
    have e3 : w3.heap[M]? = w2.heap[M]? := hm3.block M (lt_block (e2.trans (hmap.trans hq))) (fun hx => by
      refine hM M ?_ rfl
      simp only [List.map_append, List.map_cons, List.mem_cons, List.mem_append] at hx ⊢
      grind)
    refine ⟨l, h1.keep (e3.trans (e2.trans hmap)), fun q u => ?_, by simp at h3 ⊢; omega⟩
    rw [h2]
    constructor
    · rintro ⟨x, hx, hx1, hx2⟩
      rcases List.mem_append.1 hx with hx | hx
      · exact ⟨x, by simp [hx], hx1, hx2⟩
      · rcases List.mem_cons.1 hx with rfl | hx
        · exact ⟨(k, v', b), by simp, hx1, hx2⟩
        · exact ⟨x, by simp [hx], hx1, hx2⟩
    · rintro ⟨x, hx, hx1, hx2⟩
      rcases List.mem_cons.1 hx with rfl | hx
      · exact ⟨(k, v, b), by simp, hx1, hx2⟩
      · rcases List.mem_append.1 hx with hx | hx
        · exact ⟨x, by simp [hx], hx1, hx2⟩
        · exact ⟨x, by simp [hx], hx1, hx2⟩
  keys := by
    have hp : ((xs ++ (k, v, b) :: ys).map (·.1)).Perm (((k, v', b) :: (xs ++ ys)).map (·.1)) := by
      simp only [List.map_append, List.map_cons]
      exact List.perm_middle
    exact hp.nodup_iff.1 H.keys

end
end Go.Proofs.Ytepgaphhinacmaa.CacheIA
