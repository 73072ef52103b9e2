/- The cache at keys string and values int: what it is in memory; New, Len, Counts. -/
import Derived.Test.YtepgaphhinacmaaCacheASI
import Derived.Test.YtepgaphhinacmaaPtr
import Derived.BigQuiet
namespace Go.Proofs.Ytepgaphhinacmaa.CacheSI
open Go.RowKit Go.Por

/-- Block C is a cache, block M its map; es: keys, values and blocks, the one used last first. -/
structure CacheIs (w : World) (C M : Nat) (es : List (ByteArray × Int × Nat)) (sz h m : Int) : Prop where
  root : Nd w 125 [Value.string ByteArray.empty, Value.int .i64 0] [.map (some M), .int .i64 sz, .int .i64 h, .int .i64 m] C
  node : ∀ x ∈ es, Nd w 121 (Value.string x.1 :: [.int .i64 x.2.1]) [] x.2.2
  nodup : (C :: es.map (·.2.2)).Nodup
  ring : Ring 2 w C (es.map (·.2.2))
  map : ∃ l, MapIs w M (fun k => Value.string k) l ∧ (∀ k v, (k, v) ∈ l ↔ ∃ x ∈ es, x.1 = k ∧ v = ptr x.2.2) ∧ l.length = es.length
  keys : (es.map (·.1)).Nodup

theorem keyOK : KeyOK Try.prog 9 ByteArray (fun k => Value.string k) := KeyOK.str Try.underlying9

section
variable {w : World} {C M : Nat} {es : List (ByteArray × Int × Nat)} {sz h m : Int}

/-- The blocks of a cache. -/
def foot (C M : Nat) (es : List (ByteArray × Int × Nat)) : List Nat := C :: M :: es.map (·.2.2)

theorem CacheIs.lk (H : CacheIs w C M es sz h m) : ∀ b ∈ C :: es.map (·.2.2), Lk 2 w b := by
  intro b hb
  rcases List.mem_cons.1 hb with rfl | hb
  · exact ⟨_, _, _, by rfl, H.root⟩
  · obtain ⟨x, hx, rfl⟩ := List.mem_map.1 hb
    exact ⟨_, _, _, by rfl, H.node x hx⟩
theorem CacheIs.mapCells (H : CacheIs w C M es sz h m) {b : Nat} (hb : b ∈ C :: es.map (·.2.2)) : b ≠ M := by
  obtain ⟨t, pre, post, _, p, n, hc⟩ := H.lk b hb
  obtain ⟨l, ⟨es', cl, hm, _⟩, _⟩ := H.map
  intro e
  subst e
  rw [hc] at hm
  simp at hm
theorem CacheIs.lt (H : CacheIs w C M es sz h m) : ∀ b ∈ foot C M es, b < w.heap.size := by
  intro b hb
  obtain ⟨l, hl, _⟩ := H.map
  rcases List.mem_cons.1 hb with rfl | hb
  · exact H.root.lt
  rcases List.mem_cons.1 hb with rfl | hb
  · exact hl.lt
  · obtain ⟨x, hx, rfl⟩ := List.mem_map.1 hb
    exact (H.node x hx).lt
/-- It stays where its blocks stay. -/
theorem CacheIs.keep (H : CacheIs w C M es sz h m) {w' : World} (hb : ∀ b ∈ foot C M es, w'.heap[b]? = w.heap[b]?) : CacheIs w' C M es sz h m where
  root := H.root.keep (hb C (by simp [foot]))
  node x hx := (H.node x hx).keep (hb _ (by simp only [foot, List.mem_cons]; exact .inr (.inr (List.mem_map.2 ⟨x, hx, rfl⟩))))
  nodup := H.nodup
  ring := H.ring.keep (fun b hb' => hb b (by simp only [foot, List.mem_cons] at hb' ⊢; rcases hb' with h | h; exact .inl h; exact .inr (.inr h)))
  map := by
    obtain ⟨l, h1, h2⟩ := H.map
    exact ⟨l, h1.keep (hb M (by simp [foot])), h2⟩
  keys := H.keys
theorem CacheIs.mod (H : CacheIs w C M es sz h m) {S : Nat → Prop} {w' : World} (hm : Mod S w w') (hn : ∀ b ∈ foot C M es, ¬ S b) : CacheIs w' C M es sz h m :=
  H.keep (fun b hb => hm.block b (H.lt b hb) (hn b hb))
theorem CacheIs.cMap (H : CacheIs w C M es sz h m) : w.cell? ⟨C, 4, none⟩ = some (.map (some M)) := H.root.post (i := 0) rfl
theorem CacheIs.cSize (H : CacheIs w C M es sz h m) : w.cell? ⟨C, 5, none⟩ = some (.int .i64 sz) := H.root.post (i := 1) rfl
theorem CacheIs.cHits (H : CacheIs w C M es sz h m) : w.cell? ⟨C, 6, none⟩ = some (.int .i64 h) := H.root.post (i := 2) rfl
theorem CacheIs.cMiss (H : CacheIs w C M es sz h m) : w.cell? ⟨C, 7, none⟩ = some (.int .i64 m) := H.root.post (i := 3) rfl
end

theorem new_bad (n : Int) (w : World) (hn : n < 1 ∨ 4096 < n) :
    Calls Try.prog 22 #[.int .i64 n] w fun e w' => e = .returned (.tuple #[.pointer none, .int .i64 1]) ∧ w = w' := by
  rcases hn with h | h
  · go_enter Try.func22, Try.ntmps22
    go_wp2
    go_ret2
    exact ⟨rfl, rfl⟩
  · have h2 : ¬ n < 1 := by omega
    go_enter Try.func22, Try.ntmps22
    go_wp2
    go_ret2
    exact ⟨rfl, rfl⟩

set_option maxHeartbeats 400000 in
theorem new_raw (n : Int) (w : World) (h1 : 1 ≤ n) (h2 : n ≤ 4096) :
    Calls Try.prog 22 #[.int .i64 n] w fun e w' => e = .returned (.tuple #[.pointer (some ⟨w.heap.size + 1, 0, none⟩), .int .i64 0]) ∧
      w' = ((w.alloc (.map #[] 0)).alloc (.cells ([Value.string ByteArray.empty, Value.int .i64 0] ++ [ptr (w.heap.size + 1), ptr (w.heap.size + 1), .map (some w.heap.size), .int .i64 n, .int .i64 0, .int .i64 0]).toArray 125)).drew := by
  have hmm := @run_makeMap Try.prog
  go_enter Try.func22, Try.ntmps22
  go_wp2
  go_region
  all_goals go_wp2
  all_goals go_ret2
  all_goals exact ⟨rfl, rfl⟩

theorem new_good (n : Int) (w : World) (h1 : 1 ≤ n) (h2 : n ≤ 4096) :
    Calls Try.prog 22 #[.int .i64 n] w fun e w' => ∃ C M, e = .returned (.tuple #[.pointer (some ⟨C, 0, none⟩), .int .i64 0]) ∧
      CacheIs w' C M [] n 0 0 ∧ w.heap.size ≤ C ∧ w.heap.size ≤ M ∧ Below w.heap.size w w' := by
  refine (new_raw n w h1 h2).mono ?_
  rintro e w' ⟨rfl, rfl⟩
  have hC : ((w.alloc (.map #[] 0)).alloc (.cells ([Value.string ByteArray.empty, Value.int .i64 0] ++ [ptr (w.heap.size + 1), ptr (w.heap.size + 1), .map (some w.heap.size), .int .i64 n, .int .i64 0, .int .i64 0]).toArray 125)).heap[w.heap.size + 1]? =
      some (.cells ([Value.string ByteArray.empty, Value.int .i64 0] ++ [ptr (w.heap.size + 1), ptr (w.heap.size + 1), .map (some w.heap.size), .int .i64 n, .int .i64 0, .int .i64 0]).toArray 125 (0, 0)) := by
    have := block_new (w.alloc (.map #[] 0)) (.cells ([Value.string ByteArray.empty, Value.int .i64 0] ++ [ptr (w.heap.size + 1), ptr (w.heap.size + 1), .map (some w.heap.size), .int .i64 n, .int .i64 0, .int .i64 0]).toArray 125)
    simpa using this
  refine ⟨w.heap.size + 1, w.heap.size, rfl, ⟨⟨_, _, hC⟩, by simp, by simp, ⟨⟨cell_of hC rfl, cell_of hC rfl⟩, trivial⟩, ⟨[], (MapIs.made w _).alloc _, by simp, rfl⟩, by simp⟩, by omega, by omega, ?_⟩
  exact ((((Below.refl _ w).alloc (Nat.le_refl _) _).alloc (by simp) _)).drew

theorem len_any {w : World} {C M : Nat} {es : List (ByteArray × Int × Nat)} {sz h m : Int} (H : CacheIs w C M es sz h m) :
    Calls Try.prog 33 #[.pointer (some ⟨C, 0, none⟩)] w fun e w' => e = .returned (goInt es.length) ∧ w = w' := by
  have c := H.cMap
  obtain ⟨l, hl, _, hlen⟩ := H.map
  have hr := fun ty : TypeId => hl.len (ty := ty) Try.underlying118
  rw [hlen] at hr
  clear hlen hl
  go_enter Try.func33, Try.ntmps33
  go_wp2
  go_ret
  exact ⟨rfl, rfl⟩

theorem counts_any {w : World} {C M : Nat} {es : List (ByteArray × Int × Nat)} {sz h m : Int} (H : CacheIs w C M es sz h m) :
    Calls Try.prog 34 #[.pointer (some ⟨C, 0, none⟩)] w fun e w' => e = .returned (.tuple #[.int .i64 h, .int .i64 m]) ∧ ∃ n, w' = w.drewN n := by
  have c1 := H.cHits
  have c2 := H.cMiss
  clear H
  go_enter Try.func34, Try.ntmps34
  go_wp2
  go_region
  all_goals go_wp2
  all_goals go_ret2
  all_goals exact ⟨rfl, 1, rfl⟩
end Go.Proofs.Ytepgaphhinacmaa.CacheSI
