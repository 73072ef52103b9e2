/- The cache at keys int and values [2]int: Put. -/
import Derived.Test.YtepgaphhinacmaaCacheCIA
namespace Go.Proofs.Ytepgaphhinacmaa.CacheIA
open Go.RowKit Go.Por

theorem ring_last {po : Nat} {w : World} {r b : Nat} {bs : List Nat} (h : Ring po w r (bs ++ [b])) : w.cell? ⟨r, po, none⟩ = some (ptr b) := by
  unfold Ring at h
  have e : r :: (bs ++ [b]) ++ [r] = (r :: bs) ++ b :: [r] := by simp
  rw [e, chn_append] at h
  exact h.2.1.2

section
variable {w : World} {C M : Nat} {es : List (Int × (Int × Int) × Nat)} {sz h m : Int}

/-- A new entry stands ahead. -/
theorem added {w2 w3 : World} {k : Int} {v : (Int × Int)} {b : Nat} {l : List (Int × Value)}
    (hroot : Nd w2 107 [Value.int .i64 0, .int .i64 0, .int .i64 0] [.map (some M), .int .i64 sz, .int .i64 h, .int .i64 m] C)
    (hnode : ∀ x ∈ (k, v, b) :: es, Nd w2 103 (Value.int .i64 x.1 :: [.int .i64 x.2.1.1, .int .i64 x.2.1.2]) [] x.2.2)
    (hnd : (C :: b :: es.map (·.2.2)).Nodup) (hkeys : (k :: es.map (·.1)).Nodup)
    (hl : MapIs w2 M (fun k => Value.int .i64 k) l) (hx : ∀ q u, (q, u) ∈ l ↔ ∃ x ∈ (k, v, b) :: es, x.1 = q ∧ u = ptr x.2.2) (hlen : l.length = es.length + 1)
    (hr3 : Ring 3 w3 C (b :: es.map (·.2.2))) (hk3 : ∀ t pre post b, pre.length = 3 → Nd w2 t pre post b → Nd w3 t pre post b)
    (hm3 : Mod (fun x => x ∈ b :: C :: es.map (·.2.2)) w2 w3) : CacheIs w3 C M ((k, v, b) :: es) sz h m where
  root := hk3 _ _ _ _ (by rfl) hroot
  node x hx := hk3 _ _ _ _ (by rfl) (hnode x hx)
  nodup := hnd
  ring := hr3
  map := by
    refine ⟨l, hl.mod hm3 (fun hM => ?_), hx, by simpa using hlen⟩
    have : ∃ t pre post, Nd w2 t pre post M := by
      rcases List.mem_cons.1 hM with e | hM
      · exact ⟨_, _, _, by rw [e]; exact hnode (k, v, b) (by simp)⟩
      rcases List.mem_cons.1 hM with e | hM
      · exact ⟨_, _, _, by rw [e]; exact hroot⟩
      · obtain ⟨x, hx, rfl⟩ := List.mem_map.1 hM
        exact ⟨_, _, _, hnode x (by simp [hx])⟩
    obtain ⟨t, pre, post, p, n, hc⟩ := this
    obtain ⟨es', cl, hq, _⟩ := hl
    rw [hc] at hq
    simp at hq
  keys := hkeys


theorem len_run (H : CacheIs w C M es sz h m) (ty : TypeId) :
    (Builtin.len_ #[100] ty #[.map (some M)]).run Try.prog w = .ok (goInt es.length) w := by
  obtain ⟨l, hl, _, hlen⟩ := H.map
  rw [← hlen]; exact hl.len (ty := ty) Try.underlying100

/-- All that putting a new entry asks and gives; wA is the world in which its block has been made. -/
theorem put_facts (H : CacheIs w C M es sz h m) {k : Int} {v : (Int × Int)} (hk : k ∉ es.map (·.1)) {wA : World} (hwA : ∃ n, wA = (w.alloc (.cells #[Value.int .i64 k, .int .i64 v.1, .int .i64 v.2, .pointer none, .pointer none] 103)).drewN n) :
    ∃ o, (Instr.mapUpdate 100 (.map (some M)) (Value.int .i64 k) (.pointer (some ⟨w.heap.size, 0, none⟩))).run Try.prog wA = .ok () (setB wA M o) ∧
      (setB wA M o).cell? ⟨C, 5, none⟩ = some (.map (some M)) ∧
      (C :: es.map (·.2.2)).Nodup ∧ w.heap.size ∉ C :: es.map (·.2.2) ∧ (∀ b ∈ C :: es.map (·.2.2), Lk 3 (setB wA M o) b) ∧ Lk 3 (setB wA M o) w.heap.size ∧ Ring 3 (setB wA M o) C (es.map (·.2.2)) ∧
      ∀ w1, Ring 3 w1 C (w.heap.size :: es.map (·.2.2)) → (∀ t pre post b, pre.length = 3 → Nd (setB wA M o) t pre post b → Nd w1 t pre post b) →
        Mod (fun x => x ∈ w.heap.size :: C :: es.map (·.2.2)) (setB wA M o) w1 → CacheIs w1 C M ((k, v, w.heap.size) :: es) sz h m ∧ Mod (fun x => x ∈ foot C M es) w w1 := by
  obtain ⟨n, hwA⟩ := hwA
  have hA : ∀ b, b < w.heap.size → wA.heap[b]? = w.heap[b]? := fun b hb => by rw [hwA]; exact Below.heap_alloc _ _ _ hb
  have HA : CacheIs wA C M es sz h m := H.keep (fun b hb => hA b (H.lt b hb))
  obtain ⟨l, hl, hx, hl2⟩ := HA.map
  obtain ⟨o, hrun, hl3⟩ := hl.store keyOK Try.underlying100 k (ptr w.heap.size)
  have hCM : C ≠ M := HA.mapCells (by simp)
  have hMA : M < wA.heap.size := HA.lt M (by simp [foot])
  have hB : ∀ b, b ≠ M → (setB wA M o).heap[b]? = wA.heap[b]? := fun b hb => by simp [setB, Ne.symm hb]
  have hnew : wA.heap[w.heap.size]? = some (.cells #[Value.int .i64 k, .int .i64 v.1, .int .i64 v.2, .pointer none, .pointer none] 103 (0, 0)) := by
    rw [hwA]; exact block_new _ _
  have hbig : ∀ b ∈ foot C M es, b < w.heap.size := H.lt
  have hbM : w.heap.size ≠ M := by have := hbig M (by simp [foot]); omega
  have hroot : Nd (setB wA M o) 107 [Value.int .i64 0, .int .i64 0, .int .i64 0] [.map (some M), .int .i64 sz, .int .i64 h, .int .i64 m] C := HA.root.keep (hB C hCM)
  have hnode : ∀ x ∈ (k, v, w.heap.size) :: es, Nd (setB wA M o) 103 (Value.int .i64 x.1 :: [.int .i64 x.2.1.1, .int .i64 x.2.1.2]) [] x.2.2 := fun x hx => by
    rcases List.mem_cons.1 hx with rfl | hx
    · exact ⟨_, _, (hB _ hbM).trans hnew⟩
    · exact (HA.node x hx).keep (hB _ (HA.mapCells (by simp only [List.mem_cons]; exact .inr (List.mem_map.2 ⟨x, hx, rfl⟩))))
  have hnin : w.heap.size ∉ C :: es.map (·.2.2) := fun h1 => by
    have := hbig w.heap.size (by simp only [foot, List.mem_cons] at h1 ⊢; rcases h1 with h1 | h1; exact .inl h1; exact .inr (.inr h1)); omega
  have hr : Ring 3 (setB wA M o) C (es.map (·.2.2)) := HA.ring.keep (fun b hb => hB b (HA.mapCells hb))
  have hlk : ∀ b ∈ C :: es.map (·.2.2), Lk 3 (setB wA M o) b := fun b hb => by
    rcases List.mem_cons.1 hb with rfl | hb
    · exact ⟨_, _, _, by rfl, hroot⟩
    · obtain ⟨x, hx, rfl⟩ := List.mem_map.1 hb
      exact ⟨_, _, _, by rfl, hnode x (by simp [hx])⟩
  have hle : Lk 3 (setB wA M o) w.heap.size := ⟨_, _, _, by rfl, hnode (k, v, w.heap.size) (by simp)⟩
  have hkn : k ∉ l.map Prod.fst := by
    intro h1
    obtain ⟨⟨k', u⟩, hp, rfl⟩ := List.mem_map.1 h1
    obtain ⟨x, hx1, hx2, _⟩ := (hx _ _).1 hp
    exact hk (List.mem_map.2 ⟨x, hx1, hx2⟩)
  refine ⟨o, hrun, hroot.post (i := 0) rfl, H.nodup, hnin, hlk, hle, hr, fun w1 hr1 hk1 hm1 => ⟨added (k := k) (v := v) (b := w.heap.size) hroot hnode (by
      have := H.nodup
      simp only [List.nodup_cons, List.mem_cons] at this hnin ⊢
      exact ⟨fun h1 => by rcases h1 with h1 | h1; exact hnin (.inl h1.symm); exact this.1 h1, fun h1 => hnin (.inr h1), this.2⟩)
    (by simp only [List.nodup_cons]; exact ⟨hk, H.keys⟩) hl3 (fun q u => by
      rw [mem_mput, hx]
      constructor
      · rintro (⟨rfl, rfl⟩ | ⟨_, x, hx1, hx2, hx3⟩)
        · exact ⟨(q, v, w.heap.size), by simp, rfl, rfl⟩
        · exact ⟨x, by simp [hx1], hx2, hx3⟩
      · rintro ⟨x, hx1, hx2, hx3⟩
        rcases List.mem_cons.1 hx1 with rfl | hx1
        · exact .inl ⟨hx2.symm, hx3⟩
        · exact .inr ⟨fun e => hk (List.mem_map.2 ⟨x, hx1, hx2.trans e⟩), x, hx1, hx2, hx3⟩) (by rw [length_mput_new hkn, hl2]) hr1 hk1 hm1, ?_⟩⟩
  have hm0 : Mod (fun x => x ∈ foot C M es) w wA := by rw [hwA]; exact ((Mod.refl _ w).alloc _).drewN _
  refine (hm0.trans (setB_mod wA M o) (fun x hx => .inl (by rw [show x = M from hx]; simp [foot]))).trans hm1 (fun x hx => ?_)
  simp only [List.mem_cons, foot] at hx ⊢
  rcases hx with hx | hx | hx
  · exact .inr (by omega)
  · exact .inl (.inl hx)
  · exact .inl (.inr (.inr hx))


end
end Go.Proofs.Ytepgaphhinacmaa.CacheIA
