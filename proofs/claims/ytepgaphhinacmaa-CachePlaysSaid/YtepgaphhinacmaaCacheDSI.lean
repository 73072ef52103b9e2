/- The cache at keys string and values int: Put. -/
import Derived.Test.YtepgaphhinacmaaCacheCSI
namespace Go.Proofs.Ytepgaphhinacmaa.CacheSI
open Go.RowKit Go.Por

theorem ring_last {po : Nat} {w : World} {r b : Nat} {bs : List Nat} (h : Ring po w r (bs ++ [b])) : w.cell? ⟨r, po, none⟩ = some (ptr b) := by
  unfold Ring at h
  have e : r :: (bs ++ [b]) ++ [r] = (r :: bs) ++ b :: [r] := by simp
  rw [e, chn_append] at h
  exact h.2.1.2

section
variable {w : World} {C M : Nat} {es : List (ByteArray × Int × Nat)} {sz h m : Int}

/-- A new entry stands ahead. -/
theorem added {w2 w3 : World} {k : ByteArray} {v : Int} {b : Nat} {l : List (ByteArray × Value)}
    (hroot : Nd w2 125 [Value.string ByteArray.empty, Value.int .i64 0] [.map (some M), .int .i64 sz, .int .i64 h, .int .i64 m] C)
    (hnode : ∀ x ∈ (k, v, b) :: es, Nd w2 121 (Value.string x.1 :: [.int .i64 x.2.1]) [] x.2.2)
    (hnd : (C :: b :: es.map (·.2.2)).Nodup) (hkeys : (k :: es.map (·.1)).Nodup)
    (hl : MapIs w2 M (fun k => Value.string k) l) (hx : ∀ q u, (q, u) ∈ l ↔ ∃ x ∈ (k, v, b) :: es, x.1 = q ∧ u = ptr x.2.2) (hlen : l.length = es.length + 1)
    (hr3 : Ring 2 w3 C (b :: es.map (·.2.2))) (hk3 : ∀ t pre post b, pre.length = 2 → Nd w2 t pre post b → Nd w3 t pre post b)
    (hm3 : Mod (fun x => x ∈ b :: C :: es.map (·.2.2)) w2 w3) : CacheIs w3 C M ((k, v, b) :: es) sz h m where
  root := hk3 _ _ _ _ (by rfl) hroot
  node x hx := hk3 _ _ _ _ (by rfl) (hnode x hx)
  nodup := hnd
  ring := hr3
  map := by
    refine ⟨l, hl.mod hm3 (fun hM => ?_), hx, by simpa using hlen⟩
    have : ∃ t pre post, Nd w2 t pre post M := by
      rcases List.mem_cons.1 hM with e | hM
      · exact ⟨_, _, _, by rw [e]; exact hnode (k, v, b) (by simp)⟩
      rcases List.mem_cons.1 hM with e | hM
      · exact ⟨_, _, _, by rw [e]; exact hroot⟩
      · obtain ⟨x, hx, rfl⟩ := List.mem_map.1 hM
        exact ⟨_, _, _, hnode x (by simp [hx])⟩
    obtain ⟨t, pre, post, p, n, hc⟩ := this
    obtain ⟨es', cl, hq, _⟩ := hl
    rw [hc] at hq
    simp at hq
  keys := hkeys

set_option maxHeartbeats 800000 in
theorem put_hit {xs ys : List (ByteArray × Int × Nat)} {k : ByteArray} {v v' : Int} {b : Nat} (H : CacheIs w C M (xs ++ (k, v, b) :: ys) sz h m) :
    Calls Try.prog 27 #[.pointer (some ⟨C, 0, none⟩), Value.string k, .int .i64 v'] w fun e w' => e = .returned (.tuple #[]) ∧
      CacheIs w' C M ((k, v', b) :: (xs ++ ys)) sz h m ∧ Mod (fun x => x ∈ C :: (xs ++ (k, v, b) :: ys).map (·.2.2)) w w' := by
  have c1 := H.cMap
  have hlook := H.look_hit (k := k) (v := v) (b := b) (by simp)
  have hb := H.node (k, v, b) (by simp)
  have c2 : w.cell? ⟨b, 1, none⟩ = some (.int .i64 v) := hb.pre rfl
  have f2 : w.frozen? ⟨b, 1, none⟩ = false := hb.free
  have hbC : b ≠ C := fun e => by have := H.nodup; rw [List.nodup_cons] at this; exact this.1 (List.mem_map.2 ⟨(k, v, b), by simp, e⟩)
  have H0 := Lib.hid H
  have hbC' := Lib.hid hbC
  clear H hb hbC
  go_enter Try.func27, Try.ntmps27
  go_wp2_with fail
  obtain ⟨wA, hwA⟩ : ∃ wA, wA = w.setCell ⟨b, 1, none⟩ (.int .i64 v') := ⟨_, rfl⟩
  rw [← hwA]
  have HW := Lib.hid hwA
  clear hwA
  have hb0 := H0.out.node (k, v, b) (by simp)
  have hbA : Nd wA 121 [Value.string k, .int .i64 v'] [] b := by rw [HW.out]; exact hb0.setPre (i := 1) (by simp) _
  have hrootA : Nd wA 125 [Value.string ByteArray.empty, Value.int .i64 0] [.map (some M), .int .i64 sz, .int .i64 h, .int .i64 m] C := by
    rw [HW.out]; exact H0.out.root.keep (Below.heap_setCell _ _ _ _ (Ne.symm hbC'.out))
  have hnodeA : ∀ x ∈ xs ++ (k, v', b) :: ys, Nd wA 121 (Value.string x.1 :: [.int .i64 x.2.1]) [] x.2.2 := fun x hx => by
    by_cases hxb : x.2.2 = b
    · have hk := H0.out.nodup
      have hxe : x = (k, v', b) := by
        rcases List.mem_append.1 hx with hx | hx
        · exfalso
          simp only [List.map_append, List.map_cons, List.nodup_cons, List.nodup_append] at hk
          exact hk.2.2.2 b (List.mem_map.2 ⟨x, hx, hxb⟩) b (by simp) rfl
        · rcases List.mem_cons.1 hx with hx | hx
          · exact hx
          · exfalso
            simp only [List.map_append, List.map_cons, List.nodup_cons, List.nodup_append] at hk
            exact hk.2.2.1.1 (List.mem_map.2 ⟨x, hx, hxb⟩)
      rw [hxe]; exact hbA
    · have hx0 : x ∈ xs ++ (k, v, b) :: ys := by
        rcases List.mem_append.1 hx with hx | hx
        · simp [hx]
        · rcases List.mem_cons.1 hx with hx | hx
          · exact absurd (by rw [hx]) hxb
          · simp [hx]
      rw [HW.out]; exact (H0.out.node x hx0).keep (Below.heap_setCell _ _ _ _ hxb)
  have hlA : ∀ x ∈ C :: (List.map (·.2.2) xs ++ b :: List.map (·.2.2) ys), Lk 2 wA x := fun x hx => by
    rcases List.mem_cons.1 hx with rfl | hx
    · exact ⟨_, _, _, by rfl, hrootA⟩
    · have : x ∈ (xs ++ (k, v', b) :: ys).map (·.2.2) := by simpa using hx
      obtain ⟨y, hy, rfl⟩ := List.mem_map.1 this
      exact ⟨_, _, _, by rfl, hnodeA y hy⟩
  have hn := H0.out.nodup
  have hr : Ring 2 wA C ((xs ++ (k, v, b) :: ys).map (·.2.2)) := by rw [HW.out]; exact H0.out.ring.setCell (by omega) _
  rw [List.map_append, List.map_cons] at hn hr
  refine (out_call hn hlA hr).mono ?_
  rintro e1 w1 ⟨rfl, hr1, hk1, hm1⟩
  have HM := Lib.hid (And.intro hr1 (And.intro hk1 (And.intro hm1 (And.intro hrootA (And.intro hnodeA (And.intro hlA hn))))))
  clear hn hlA hr hr1 hk1 hm1 hrootA hnodeA hbA hb0
  go_wp2_with fail
  obtain ⟨hr1, hk1, hm1, hrootA, hnodeA, hlA, hn⟩ := HM.out
  have hn2 := (List.Perm.cons C (List.perm_middle (a := b) (l₁ := xs.map (·.2.2)) (l₂ := ys.map (·.2.2)))).nodup_iff.1 hn
  have hl2 : ∀ x ∈ C :: (List.map (·.2.2) xs ++ b :: List.map (·.2.2) ys), Lk 2 w1 x := fun x hx => by
    obtain ⟨t, pre, post, hp, hnd⟩ := hlA x hx
    exact ⟨t, pre, post, hp, hk1 _ _ _ _ hp hnd⟩
  refine (first_call (r := C) (e := b) (bs := List.map (·.2.2) xs ++ List.map (·.2.2) ys) ?_ ?_ ?_ ?_ hr1).mono ?_
  · simp only [List.nodup_cons, List.mem_cons] at hn2 ⊢; exact ⟨fun h1 => hn2.1 (.inr h1), hn2.2.2⟩
  · simp only [List.nodup_cons, List.mem_cons] at hn2 ⊢; rintro (h1 | h1); exact hn2.1 (.inl h1.symm); exact hn2.2.1 h1
  · intro x hx; refine hl2 x ?_; simp only [List.mem_cons, List.mem_append] at hx ⊢; rcases hx with h1 | h1 | h1; exact .inl h1; exact .inr (.inl h1); exact .inr (.inr (.inr h1))
  · exact hl2 b (by simp)
  rintro e2 w2 ⟨rfl, hr2, hk2, hm2⟩
  have e1 : List.map (·.2.2) xs ++ List.map (·.2.2) ys = (xs ++ ys).map (·.2.2) := by simp
  have e0 : List.map (·.2.2) xs ++ b :: List.map (·.2.2) ys = (xs ++ (k, v, b) :: ys).map (·.2.2) := by simp
  rw [e1] at hr2 hm2
  rw [e0] at hm1
  have hmA : wA.heap[M]? = w.heap[M]? := by rw [HW.out]; exact Below.heap_setCell _ _ _ _ (H0.out.mapCells (by simp)).symm
  have HF := Lib.hid (moved H0.out (v' := v') hrootA hnodeA hmA hk1 hm1 hr2 hk2 hm2)
  have HMM : Mod (fun x => x ∈ C :: (xs ++ (k, v, b) :: ys).map (·.2.2)) w w2 := by
    have h0 : Mod (fun x => x ∈ C :: (xs ++ (k, v, b) :: ys).map (·.2.2)) w wA := by rw [HW.out]; exact (Mod.refl _ w).setCell (p := ⟨b, 1, none⟩) (.inl (by simp)) _
    refine (h0.trans hm1 (fun x hx => .inl hx)).trans hm2 (fun x hx => .inl ?_)
    simp only [List.map_append, List.map_cons, List.mem_cons, List.mem_append] at hx ⊢
    grind
  have HMM' := Lib.hid HMM
  clear hn hn2 hl2 hr1 hk1 hm1 hrootA hnodeA hlA hr2 hk2 hm2 e1 e0 hmA HMM
  go_wp2
  go_end0
  exact ⟨rfl, HF.out, HMM'.out⟩

theorem len_run (H : CacheIs w C M es sz h m) (ty : TypeId) :
    (Builtin.len_ #[118] ty #[.map (some M)]).run Try.prog w = .ok (goInt es.length) w := by
  obtain ⟨l, hl, _, hlen⟩ := H.map
  rw [← hlen]; exact hl.len (ty := ty) Try.underlying118

/-- All that putting a new entry asks and gives; wA is the world in which its block has been made. -/
theorem put_facts (H : CacheIs w C M es sz h m) {k : ByteArray} {v : Int} (hk : k ∉ es.map (·.1)) {wA : World} (hwA : ∃ n, wA = (w.alloc (.cells #[Value.string k, .int .i64 v, .pointer none, .pointer none] 121)).drewN n) :
    ∃ o, (Instr.mapUpdate 118 (.map (some M)) (Value.string k) (.pointer (some ⟨w.heap.size, 0, none⟩))).run Try.prog wA = .ok () (setB wA M o) ∧
      (setB wA M o).cell? ⟨C, 4, none⟩ = some (.map (some M)) ∧
      (C :: es.map (·.2.2)).Nodup ∧ w.heap.size ∉ C :: es.map (·.2.2) ∧ (∀ b ∈ C :: es.map (·.2.2), Lk 2 (setB wA M o) b) ∧ Lk 2 (setB wA M o) w.heap.size ∧ Ring 2 (setB wA M o) C (es.map (·.2.2)) ∧
      ∀ w1, Ring 2 w1 C (w.heap.size :: es.map (·.2.2)) → (∀ t pre post b, pre.length = 2 → Nd (setB wA M o) t pre post b → Nd w1 t pre post b) →
        Mod (fun x => x ∈ w.heap.size :: C :: es.map (·.2.2)) (setB wA M o) w1 → CacheIs w1 C M ((k, v, w.heap.size) :: es) sz h m ∧ Mod (fun x => x ∈ foot C M es) w w1 := by
  obtain ⟨n, hwA⟩ := hwA
  have hA : ∀ b, b < w.heap.size → wA.heap[b]? = w.heap[b]? := fun b hb => by rw [hwA]; exact Below.heap_alloc _ _ _ hb
  have HA : CacheIs wA C M es sz h m := H.keep (fun b hb => hA b (H.lt b hb))
  obtain ⟨l, hl, hx, hl2⟩ := HA.map
  obtain ⟨o, hrun, hl3⟩ := hl.store keyOK Try.underlying118 k (ptr w.heap.size)
  have hCM : C ≠ M := HA.mapCells (by simp)
  have hMA : M < wA.heap.size := HA.lt M (by simp [foot])
  have hB : ∀ b, b ≠ M → (setB wA M o).heap[b]? = wA.heap[b]? := fun b hb => by simp [setB, Ne.symm hb]
  have hnew : wA.heap[w.heap.size]? = some (.cells #[Value.string k, .int .i64 v, .pointer none, .pointer none] 121 (0, 0)) := by
    rw [hwA]; exact block_new _ _
  have hbig : ∀ b ∈ foot C M es, b < w.heap.size := H.lt
  have hbM : w.heap.size ≠ M := by have := hbig M (by simp [foot]); omega
  have hroot : Nd (setB wA M o) 125 [Value.string ByteArray.empty, Value.int .i64 0] [.map (some M), .int .i64 sz, .int .i64 h, .int .i64 m] C := HA.root.keep (hB C hCM)
  have hnode : ∀ x ∈ (k, v, w.heap.size) :: es, Nd (setB wA M o) 121 (Value.string x.1 :: [.int .i64 x.2.1]) [] x.2.2 := fun x hx => by
    rcases List.mem_cons.1 hx with rfl | hx
    · exact ⟨_, _, (hB _ hbM).trans hnew⟩
    · exact (HA.node x hx).keep (hB _ (HA.mapCells (by simp only [List.mem_cons]; exact .inr (List.mem_map.2 ⟨x, hx, rfl⟩))))
  have hnin : w.heap.size ∉ C :: es.map (·.2.2) := fun h1 => by
    have := hbig w.heap.size (by simp only [foot, List.mem_cons] at h1 ⊢; rcases h1 with h1 | h1; exact .inl h1; exact .inr (.inr h1)); omega
  have hr : Ring 2 (setB wA M o) C (es.map (·.2.2)) := HA.ring.keep (fun b hb => hB b (HA.mapCells hb))
  have hlk : ∀ b ∈ C :: es.map (·.2.2), Lk 2 (setB wA M o) b := fun b hb => by
    rcases List.mem_cons.1 hb with rfl | hb
    · exact ⟨_, _, _, by rfl, hroot⟩
    · obtain ⟨x, hx, rfl⟩ := List.mem_map.1 hb
      exact ⟨_, _, _, by rfl, hnode x (by simp [hx])⟩
  have hle : Lk 2 (setB wA M o) w.heap.size := ⟨_, _, _, by rfl, hnode (k, v, w.heap.size) (by simp)⟩
  have hkn : k ∉ l.map Prod.fst := by
    intro h1
    obtain ⟨⟨k', u⟩, hp, rfl⟩ := List.mem_map.1 h1
    obtain ⟨x, hx1, hx2, _⟩ := (hx _ _).1 hp
    exact hk (List.mem_map.2 ⟨x, hx1, hx2⟩)
  refine ⟨o, hrun, hroot.post (i := 0) rfl, H.nodup, hnin, hlk, hle, hr, fun w1 hr1 hk1 hm1 => ⟨added (k := k) (v := v) (b := w.heap.size) hroot hnode (by
      have := H.nodup
      simp only [List.nodup_cons, List.mem_cons] at this hnin ⊢
      exact ⟨fun h1 => by rcases h1 with h1 | h1; exact hnin (.inl h1.symm); exact this.1 h1, fun h1 => hnin (.inr h1), this.2⟩)
    (by simp only [List.nodup_cons]; exact ⟨hk, H.keys⟩) hl3 (fun q u => by
      rw [mem_mput, hx]
      constructor
      · rintro (⟨rfl, rfl⟩ | ⟨_, x, hx1, hx2, hx3⟩)
        · exact ⟨(q, v, w.heap.size), by simp, rfl, rfl⟩
        · exact ⟨x, by simp [hx1], hx2, hx3⟩
      · rintro ⟨x, hx1, hx2, hx3⟩
        rcases List.mem_cons.1 hx1 with rfl | hx1
        · exact .inl ⟨hx2.symm, hx3⟩
        · exact .inr ⟨fun e => hk (List.mem_map.2 ⟨x, hx1, hx2.trans e⟩), x, hx1, hx2, hx3⟩) (by rw [length_mput_new hkn, hl2]) hr1 hk1 hm1, ?_⟩⟩
  have hm0 : Mod (fun x => x ∈ foot C M es) w wA := by rw [hwA]; exact ((Mod.refl _ w).alloc _).drewN _
  refine (hm0.trans (setB_mod wA M o) (fun x hx => .inl (by rw [show x = M from hx]; simp [foot]))).trans hm1 (fun x hx => ?_)
  simp only [List.mem_cons, foot] at hx ⊢
  rcases hx with hx | hx | hx
  · exact .inr (by omega)
  · exact .inl (.inl hx)
  · exact .inl (.inr (.inr hx))

set_option maxHeartbeats 800000 in
theorem put_new {k : ByteArray} {v : Int} (H : CacheIs w C M es sz h m) (hk : k ∉ es.map (·.1)) (hlen : (es.length : Int) < sz) :
    Calls Try.prog 27 #[.pointer (some ⟨C, 0, none⟩), Value.string k, .int .i64 v] w fun e w' => e = .returned (.tuple #[]) ∧
      ∃ b, w.heap.size ≤ b ∧ CacheIs w' C M ((k, v, b) :: es) sz h m ∧ Mod (fun x => x ∈ foot C M es) w w' := by
  have c1 := H.cMap
  have c2 := H.cSize
  have hlook := H.look_miss hk
  have hln := len_run (w := w.drew) (H.keep (fun _ _ => rfl))
  obtain ⟨o, hrun, HP⟩ := put_facts H (v := v) hk (wA := (w.alloc (.cells #[Value.string k, .int .i64 v, .pointer none, .pointer none] 121)).drew) ⟨1, rfl⟩
  have HQ := Lib.hid HP
  have hlt : C < w.heap.size := H.lt C (by simp [foot])
  have ht2 : ((es.length : Int) == sz) = false := by rw [beq_eq_false_iff_ne]; omega
  clear H HP hlen hk
  go_enter Try.func27, Try.ntmps27
  go_wp2_with fail
  go_region
  go_wp2_with fail
  obtain ⟨_, hn, hnin, hlk, hle, hr, hf⟩ := HQ.out
  refine (first_call hn hnin hlk hle hr).mono ?_
  rintro e1 w1 ⟨rfl, hr1, hk1, hm1⟩
  have HF := Lib.hid (hf w1 hr1 hk1 hm1)
  clear hn hnin hlk hle hr hf hr1 hk1 hm1
  go_wp2
  go_end0
  exact ⟨rfl, w.heap.size, Nat.le_refl _, HF.out⟩

set_option maxHeartbeats 1600000 in
theorem put_full {k k0 : ByteArray} {v v0 : Int} {b0 : Nat} {xs : List (ByteArray × Int × Nat)} (H : CacheIs w C M (xs ++ [(k0, v0, b0)]) sz h m) (hk : k ∉ (xs ++ [(k0, v0, b0)]).map (·.1)) (hlen : ((xs.length : Int) + 1) = sz) :
    Calls Try.prog 27 #[.pointer (some ⟨C, 0, none⟩), Value.string k, .int .i64 v] w fun e w' => e = .returned (.tuple #[]) ∧
      ∃ b, w.heap.size ≤ b ∧ CacheIs w' C M ((k, v, b) :: xs) sz h m ∧ Mod (fun x => x ∈ foot C M (xs ++ [(k0, v0, b0)])) w w' := by
  have c1 := H.cMap
  have c2 := H.cSize
  have hlook := H.look_miss hk
  have hln : ∀ ty, (Builtin.len_ #[118] ty #[.map (some M)]).run Try.prog w.drew = .ok (.int .i64 sz) w.drew := fun ty => by
    rw [len_run (w := w.drew) (H.keep (fun _ _ => rfl)) ty, ← hlen]
    simp [goInt]
  have hr := H.ring
  have hn := H.nodup
  have hl := H.lk
  rw [List.map_append, List.map_cons, List.map_nil] at hr hn hl
  have c3 : w.cell? ⟨C, 2, none⟩ = some (.pointer (some ⟨b0, 0, none⟩)) := ring_last hr
  have HQ := Lib.hid (And.intro H (And.intro hn (And.intro hl (And.intro hr hk))))
  clear H hr hn hl hlen hk
  go_enter Try.func27, Try.ntmps27
  go_wp2_with fail
  go_region
  go_wp2_with fail
  obtain ⟨H, hn, hl, hr, hk⟩ := HQ.out
  refine (out_call (w := w.drew) (r := C) (e := b0) (xs := xs.map (·.2.2)) (ys := []) hn (fun b hb => by obtain ⟨t, pre, post, hp, hnd⟩ := hl b hb; exact ⟨t, pre, post, hp, hnd.drew⟩) hr.drew).mono ?_
  rintro e1 w1 ⟨rfl, hr1, hk1, hm1⟩
  have hroot1 : Nd w1 125 [Value.string ByteArray.empty, Value.int .i64 0] [.map (some M), .int .i64 sz, .int .i64 h, .int .i64 m] C := hk1 _ _ _ _ (by rfl) H.root.drew
  have hnode1 : ∀ x ∈ xs ++ [(k0, v0, b0)], Nd w1 121 (Value.string x.1 :: [.int .i64 x.2.1]) [] x.2.2 := fun x hx => hk1 _ _ _ _ (by rfl) (H.node x hx).drew
  have c4 : w1.cell? ⟨C, 4, none⟩ = some (.map (some M)) := hroot1.post (i := 0) rfl
  have c5 : w1.cell? ⟨b0, 0, none⟩ = some (Value.string k0) := (hnode1 (k0, v0, b0) (by simp)).pre rfl
  have hM : ∀ b ∈ C :: (xs ++ [(k0, v0, b0)]).map (·.2.2), b ≠ M := fun b hb => H.mapCells hb
  obtain ⟨l, hl0, hx, hlen0⟩ := H.map
  have hl1 : MapIs w1.drew M (fun k => Value.string k) l := ((hl0.keep (w' := w.drew) rfl).mod hm1 (fun h1 => hM M (by rw [List.map_append]; exact h1) rfl)).keep (w' := w1.drew) rfl
  have hdel := fun ty : TypeId => hl1.delete (ty := ty) (t2 := 9) keyOK Try.underlying118 k0
  obtain ⟨o, hrun, hl2⟩ := hdel 0
  have hrun' : (Builtin.delete_ #[118, 9] 0 #[.map (some M), Value.string k0]).run Try.prog w1.drew = .ok (.tuple #[]) (setB w1.drew M o) := hrun
  have hB : ∀ b, b ≠ M → (setB w1.drew M o).heap[b]? = w1.heap[b]? := fun b hb => (show (setB w1.drew M o).heap[b]? = w1.drew.heap[b]? by simp [setB, Ne.symm hb])
  have hxs : xs.map (·.2.2) ++ [] = xs.map (·.2.2) := by simp
  have H2 : CacheIs (setB w1.drew M o) C M xs sz h m := {
    root := hroot1.keep (hB C (hM C (by simp)))
    node := fun x hx => (hnode1 x (by simp [hx])).keep (hB _ (hM _ (List.mem_cons_of_mem _ (List.mem_map.2 ⟨x, by simp [hx], rfl⟩))))
    nodup := by
      simp only [List.nodup_cons, List.nodup_append, List.mem_append] at hn ⊢
      exact ⟨fun h1 => hn.1 (.inl h1), hn.2.1⟩
    ring := by
      rw [hxs] at hr1
      exact hr1.keep (fun b hb => hB b (hM b (by
        simp only [List.map_append, List.mem_cons, List.mem_append] at hb ⊢
        rcases hb with h1 | h1
        · exact .inl h1
        · exact .inr (.inl h1))))
    map := by
      have hks := H.keys
      refine ⟨mdel l k0, hl2, fun q u => ?_, ?_⟩
      · rw [mem_mdel, hx]
        constructor
        · rintro ⟨hq, x, hx1, hx2, hx3⟩
          rcases List.mem_append.1 hx1 with h1 | h1
          · exact ⟨x, h1, hx2, hx3⟩
          · simp at h1; subst h1; exact absurd hx2.symm hq
        · rintro ⟨x, hx1, hx2, hx3⟩
          refine ⟨fun e => ?_, x, by simp [hx1], hx2, hx3⟩
          subst hx2
          simp only [List.map_append, List.nodup_append, List.map_cons, List.map_nil] at hks
          exact hks.2.2 x.1 (List.mem_map.2 ⟨x, hx1, rfl⟩) k0 (by simp) e
      · obtain ⟨es', cl, hq1, hq2, hq3, _⟩ := hl0
        have := length_mdel_hit hq3 ((hx k0 (ptr b0)).2 ⟨(k0, v0, b0), by simp, rfl, rfl⟩)
        simp at hlen0
        omega
    keys := by
      have hks := H.keys
      simp only [List.map_append, List.nodup_append] at hks
      exact hks.1 }
  have hk2 : k ∉ xs.map (·.1) := fun h1 => hk (by rw [List.map_append]; exact List.mem_append.2 (.inl h1))
  have hM2 : Mod (fun x => x ∈ foot C M (xs ++ [(k0, v0, b0)])) w (setB w1.drew M o) := by
    refine (((Mod.refl _ w).drew).trans hm1 (fun x hx => .inl ?_)).drew.trans (setB_mod w1.drew M o) (fun x hx => .inl (by rw [show x = M from hx]; simp [foot]))
    simp only [foot, List.map_append, List.map_cons, List.map_nil, List.mem_cons, List.mem_append] at hx ⊢
    grind
  have HR := Lib.hid (And.intro H2 (And.intro hk2 hM2))
  clear H hn hl hr hk hr1 hk1 hm1 hroot1 hnode1 hM hl0 hx hlen0 hl1 hdel hrun hl2 hB hxs H2 hk2 hM2 HQ c1 c2 c3 hlook hln
  go_wp2_with fail
  go_region
  obtain ⟨w2, hw2⟩ : ∃ w2, w2 = setB w1.drew M o := ⟨_, rfl⟩
  rw [← hw2] at HR ⊢
  obtain ⟨H2, hk2, hM2⟩ := HR.out
  clear hw2 hrun' c4 c5 HR
  have c6 := H2.cMap
  obtain ⟨o2, hrun2, HP⟩ := put_facts H2 (v := v) hk2 (wA := (w2.alloc (.cells #[Value.string k, .int .i64 v, .pointer none, .pointer none] 121))) ⟨0, rfl⟩
  have HS := Lib.hid HP
  have hlt : C < w2.heap.size := H2.lt C (by simp [foot])
  have HM2 := Lib.hid hM2
  clear H2 HP hk2 hM2
  go_wp2_with fail
  obtain ⟨_, hn, hnin, hlk, hle, hr, hf⟩ := HS.out
  refine (first_call hn hnin hlk hle hr).mono ?_
  rintro e1 w3 ⟨rfl, hr3, hk3, hm3⟩
  have hf3 := hf w3 hr3 hk3 hm3
  have hMM : Mod (fun x => x ∈ foot C M (xs ++ [(k0, v0, b0)])) w w3 := HM2.out.trans hf3.2 (fun x hx => .inl (by
    simp only [foot, List.map_append, List.mem_cons, List.mem_append] at hx ⊢
    rcases hx with h1 | h1 | h1
    · exact .inl h1
    · exact .inr (.inl h1)
    · exact .inr (.inr (.inl h1))))
  have HF := Lib.hid (And.intro hf3.1 hMM)
  have hsz2 : w.heap.size ≤ w2.heap.size := HM2.out.size
  clear hn hnin hlk hle hr hf hr3 hk3 hm3 hf3 hMM
  go_wp2
  go_end0
  exact ⟨rfl, w2.heap.size, hsz2, HF.out⟩
end
end Go.Proofs.Ytepgaphhinacmaa.CacheSI
