/- Table.Move and the document's, plain, the document's Check. -/
import Derived.Test.YtjccngahpafcaaaDoorRingD
namespace Go.Proofs.YtjccngahpafcaaaDoor.RingF
open Go.RowKit Go.Por

theorem infoR : (Tryd.prog.info? 41).map (·.size) = some 17 := by kernel_rfl
theorem infoT' (e : Int) {os : List Int} (h : os.length = 16) : (Tryd.prog.info? 24).map (·.size) = some (tcells e os).size := by rw [tcells_size h]; exact infoT
theorem infoR' (e : Int) {os : List Int} (h : os.length = 16) : (Tryd.prog.info? 41).map (·.size) = some (tcells e os).size := by rw [tcells_size h]; exact infoR
/-- Two results: a row in memory, and a slot. -/
theorem results_cell2 {P : Program} {fn : Func} {p q : Tmp} {ty : TypeId} (h : fn.results = #[.cell p ty, .tmp q]) (tmps : Array Value) (w : World) (g : Nat) (t : TypeId) (cs : Array Value) (fr : Nat × Nat) (d : TypeDesc) (u : Value)
    (hp : tmps.getD p undef = .pointer (some ⟨g, 0, none⟩)) (hq : tmps.getD q undef = u) (hg : w.heap[g]? = some (.cells cs t fr))
    (hu : P.underlying ty = some d) (hd : (match d with | .struct _ | .array _ _ => true | _ => false) = true) (hi : (P.info? ty).map (·.size) = some cs.size) :
    (results fn tmps).run P w = .ok (.tuple #[.agg cs, u]) w := by
  have hp' : tmps[p]?.getD undef = .pointer (some ⟨g, 0, none⟩) := by simpa using hp
  have hq' : tmps[q]?.getD undef = u := by simpa using hq
  simp [results, h, hp', hq', asAddr, run_loadVar_row w g t ty cs fr d hg hu hd hi]

/-- What a move comes nd: its error's number, the epoch, the owners. -/
def mvBad (e slot nd : Int) : Prop := slot < 0 ∨ 15 < slot ∨ nd < 0 ∨ 7 < nd ∨ e < 0 ∨ 1125899906842623 < e
instance (e slot nd : Int) : Decidable (mvBad e slot nd) := by unfold mvBad; infer_instance
def mvCode (e : Int) (os : List Int) (slot nd : Int) : Int := if mvBad e slot nd then 1 else if os.getD slot.toNat 0 = nd then 5 else 0
def mvE (e : Int) (os : List Int) (slot nd : Int) : Int := if mvCode e os slot nd = 0 then e + 1 else 0
def mvO (e : Int) (os : List Int) (slot nd : Int) : List Int := if mvCode e os slot nd = 0 then os.set slot.toNat nd else List.replicate 16 0
theorem mvO_length (e : Int) {os : List Int} (slot nd : Int) (h : os.length = 16) : (mvO e os slot nd).length = 16 := by
  unfold mvO; split
  · rw [List.length_set]; exact h
  · simp
theorem setb {w : World} {b : Nat} {t : TypeId} (h : w.heap[b]? = some (.cells (tcells 0 (List.replicate 16 0)) t (0, 0))) {os' : List Int} (e' : Int) (hl : os'.length = 16) :
    (w.setCells b 0 (tcells e' os').toList).heap[b]? = some (.cells (tcells e' os') t (0, 0)) := by
  have := setCells_whole h (vs := (tcells e' os').toList) (by rw [Array.length_toList, tcells_size hl, tcells_size (by simp)])
  rwa [Array.toArray_toList] at this
theorem belows {w W : World} {B : Nat} {vs : List Value} (h : Below w.heap.size w W) (hB : w.heap.size = B) : Below w.heap.size w (W.setCells (B + 1) 0 vs) :=
  h.trans ((Mod.setCells (S := fun x => x = B + 1) (.inl rfl) vs 0 (Mod.refl _ W)).to_below h.size (fun x hx => by rw [show x = B + 1 from hx]; omega))
theorem zeros16 : tcells 0 (List.replicate 16 0) = #[.int .i64 0, .int .i64 0, .int .i64 0, .int .i64 0, .int .i64 0, .int .i64 0, .int .i64 0, .int .i64 0, .int .i64 0, .int .i64 0, .int .i64 0, .int .i64 0, .int .i64 0, .int .i64 0, .int .i64 0, .int .i64 0, .int .i64 0] := rfl

set_option maxRecDepth 100000 in
set_option maxHeartbeats 1600000 in
theorem move_bad (e : Int) (os : List Int) (slot nd : Int) (w : World) (h : mvBad e slot nd) :
    Calls Tryd.prog 10 #[tval e os, .int .i64 slot, .int .i64 nd] w fun x w' => x = .returned (.tuple #[tval 0 (List.replicate 16 0), .int .i64 1]) ∧ Below w.heap.size w w' := by
  have HH := Lib.hid h
  clear h
  unfold tval
  go_enter Tryd.func10, Tryd.ntmps10
  go_upto_region 1 with fail
  obtain ⟨B, hB⟩ : ∃ B, w.heap.size = B := ⟨_, rfl⟩
  generalize hW2 : (w.alloc (.cells (tcells e os) 24)).alloc (.cells #[.int .i64 0, .int .i64 0, .int .i64 0, .int .i64 0, .int .i64 0, .int .i64 0, .int .i64 0, .int .i64 0, .int .i64 0, .int .i64 0, .int .i64 0, .int .i64 0, .int .i64 0, .int .i64 0, .int .i64 0, .int .i64 0, .int .i64 0] 24) = W2 at *
  rw [hB]
  have hr0 : W2.heap[B]? = some (.cells (tcells e os) 24 (0, 0)) := by
    rw [← hW2, ← hB]; exact block_alloc (block_new w _) _
  have hr1 : W2.heap[B + 1]? = some (.cells (tcells 0 (List.replicate 16 0)) 24 (0, 0)) := by
    rw [← hW2, ← hB, zeros16]
    have := block_new (w.alloc (.cells (tcells e os) 24)) (.cells #[.int .i64 0, .int .i64 0, .int .i64 0, .int .i64 0, .int .i64 0, .int .i64 0, .int .i64 0, .int .i64 0, .int .i64 0, .int .i64 0, .int .i64 0, .int .i64 0, .int .i64 0, .int .i64 0, .int .i64 0, .int .i64 0, .int .i64 0] 24)
    rw [World.size_alloc] at this
    exact this
  have hb2 : Below w.heap.size w W2 := by rw [← hW2]; exact ((Below.refl _ w).alloc (Nat.le_refl _) _).alloc (by simp) _
  have HW := Lib.hid (And.intro hr0 (And.intro hr1 (And.intro hb2 hB)))
  clear hr0 hr1 hb2 hW2 hB
  have c0 : W2.cell? ⟨B, 0, none⟩ = some (.int .i64 e) := cell_of HW.out.1 (tcells_zero e os)
  go_wp2_with (first
    | (refine wpList_store_mid rfl 24 (.tmp 6) (.tmp 33) rfl (B + 1) 0 (tcells 0 (List.replicate 16 0)) rfl rfl (there_block HW.out.2.1 (Nat.le_refl _)) (infoT' 0 (by simp)) (tcells_one _ _) ?_))
  all_goals first
    | (exfalso; have h := HH.out; unfold mvBad at h; omega)
    | (exact bodyPost_ret (results_cell2 Tryd.results10 _ _ (B + 1) _ (tcells 0 (List.replicate 16 0)) _ _ (.int .i64 1) (by rfl) (by rfl) (setb HW.out.2.1 0 (by simp)) Tryd.underlying24 rfl (infoT' 0 (by simp))) rfl ⟨rfl, belows HW.out.2.2.1 HW.out.2.2.2⟩)

set_option maxRecDepth 100000 in
set_option maxHeartbeats 1600000 in
theorem move_twice (e : Int) (os : List Int) (k : Nat) (nd : Int) (w : World) (h : ¬ mvBad e (k : Int) nd) (hk : os[k]? = some nd) :
    Calls Tryd.prog 10 #[tval e os, .int .i64 (k : Int), .int .i64 nd] w fun x w' => x = .returned (.tuple #[tval 0 (List.replicate 16 0), .int .i64 5]) ∧ Below w.heap.size w w' := by
  have b0 : (0 : Int) ≤ (k : Int) := by omega
  have b1 : (k : Int) < 16 := by unfold mvBad at h; omega
  have b2 : (0 : Int) ≤ nd := by unfold mvBad at h; omega
  have b3 : nd < 8 := by unfold mvBad at h; omega
  have b4 : (0 : Int) ≤ e := by unfold mvBad at h; omega
  have b5 : e < 1125899906842624 := by unfold mvBad at h; omega
  have HH := Lib.hid hk
  clear h hk
  unfold tval
  go_enter Tryd.func10, Tryd.ntmps10
  go_upto_region 1 with fail
  obtain ⟨B, hB⟩ : ∃ B, w.heap.size = B := ⟨_, rfl⟩
  generalize hW2 : (w.alloc (.cells (tcells e os) 24)).alloc (.cells #[.int .i64 0, .int .i64 0, .int .i64 0, .int .i64 0, .int .i64 0, .int .i64 0, .int .i64 0, .int .i64 0, .int .i64 0, .int .i64 0, .int .i64 0, .int .i64 0, .int .i64 0, .int .i64 0, .int .i64 0, .int .i64 0, .int .i64 0] 24) = W2 at *
  rw [hB]
  have hr0 : W2.heap[B]? = some (.cells (tcells e os) 24 (0, 0)) := by
    rw [← hW2, ← hB]; exact block_alloc (block_new w _) _
  have hr1 : W2.heap[B + 1]? = some (.cells (tcells 0 (List.replicate 16 0)) 24 (0, 0)) := by
    rw [← hW2, ← hB, zeros16]
    have := block_new (w.alloc (.cells (tcells e os) 24)) (.cells #[.int .i64 0, .int .i64 0, .int .i64 0, .int .i64 0, .int .i64 0, .int .i64 0, .int .i64 0, .int .i64 0, .int .i64 0, .int .i64 0, .int .i64 0, .int .i64 0, .int .i64 0, .int .i64 0, .int .i64 0, .int .i64 0, .int .i64 0] 24)
    rw [World.size_alloc] at this
    exact this
  have hb2 : Below w.heap.size w W2 := by rw [← hW2]; exact ((Below.refl _ w).alloc (Nat.le_refl _) _).alloc (by simp) _
  have HW := Lib.hid (And.intro hr0 (And.intro hr1 (And.intro hb2 hB)))
  clear hr0 hr1 hb2 hW2 hB
  have c0 : W2.cell? ⟨B, 0, none⟩ = some (.int .i64 e) := cell_of HW.out.1 (tcells_zero e os)
  have c1 : W2.cell? ⟨B, 1 + k, none⟩ = some (.int .i64 nd) := cell_of HW.out.1 (tcells_at e HH.out)
  have q : (nd == nd) = true := by simp
  go_wp2_with (first
    | (refine wpList_store_mid rfl 24 (.tmp 6) (.tmp 41) rfl (B + 1) 0 (tcells 0 (List.replicate 16 0)) rfl rfl (there_block HW.out.2.1 (Nat.le_refl _)) (infoT' 0 (by simp)) (tcells_one _ _) ?_))
  exact bodyPost_ret (results_cell2 Tryd.results10 _ _ (B + 1) _ (tcells 0 (List.replicate 16 0)) _ _ (.int .i64 5) (by rfl) (by rfl) (setb HW.out.2.1 0 (by simp)) Tryd.underlying24 rfl (infoT' 0 (by simp))) rfl ⟨rfl, belows HW.out.2.2.1 HW.out.2.2.2⟩

set_option maxRecDepth 100000 in
set_option maxHeartbeats 1600000 in
theorem move_good (e : Int) (os : List Int) (hl : os.length = 16) (k : Nat) (nd y : Int) (w : World) (h : ¬ mvBad e (k : Int) nd) (hk : os[k]? = some y) (hy : y ≠ nd) :
    Calls Tryd.prog 10 #[tval e os, .int .i64 (k : Int), .int .i64 nd] w fun x w' => x = .returned (.tuple #[tval (e + 1) (os.set k nd), .int .i64 0]) ∧ Below w.heap.size w w' := by
  have b0 : (0 : Int) ≤ (k : Int) := by omega
  have b1 : (k : Int) < 16 := by unfold mvBad at h; omega
  have b2 : (0 : Int) ≤ nd := by unfold mvBad at h; omega
  have b3 : nd < 8 := by unfold mvBad at h; omega
  have b4 : (0 : Int) ≤ e := by unfold mvBad at h; omega
  have b5 : e < 1125899906842624 := by unfold mvBad at h; omega
  have q : (y == nd) = false := by rw [beq_eq_false_iff_ne]; exact hy
  have hl2 : (os.set k nd).length = 16 := by rw [List.length_set]; exact hl
  have HH := Lib.hid (And.intro hk (And.intro hl2 hl))
  clear h hk hy hl2 hl
  unfold tval
  go_enter Tryd.func10, Tryd.ntmps10
  go_upto_region 1 with fail
  obtain ⟨B, hB⟩ : ∃ B, w.heap.size = B := ⟨_, rfl⟩
  generalize hW2 : (w.alloc (.cells (tcells e os) 24)).alloc (.cells #[.int .i64 0, .int .i64 0, .int .i64 0, .int .i64 0, .int .i64 0, .int .i64 0, .int .i64 0, .int .i64 0, .int .i64 0, .int .i64 0, .int .i64 0, .int .i64 0, .int .i64 0, .int .i64 0, .int .i64 0, .int .i64 0, .int .i64 0] 24) = W2 at *
  rw [hB]
  have hr0 : W2.heap[B]? = some (.cells (tcells e os) 24 (0, 0)) := by
    rw [← hW2, ← hB]; exact block_alloc (block_new w _) _
  have hr1 : W2.heap[B + 1]? = some (.cells (tcells 0 (List.replicate 16 0)) 24 (0, 0)) := by
    rw [← hW2, ← hB, zeros16]
    have := block_new (w.alloc (.cells (tcells e os) 24)) (.cells #[.int .i64 0, .int .i64 0, .int .i64 0, .int .i64 0, .int .i64 0, .int .i64 0, .int .i64 0, .int .i64 0, .int .i64 0, .int .i64 0, .int .i64 0, .int .i64 0, .int .i64 0, .int .i64 0, .int .i64 0, .int .i64 0, .int .i64 0] 24)
    rw [World.size_alloc] at this
    exact this
  have hb2 : Below w.heap.size w W2 := by rw [← hW2]; exact ((Below.refl _ w).alloc (Nat.le_refl _) _).alloc (by simp) _
  have HW := Lib.hid (And.intro hr0 (And.intro hr1 (And.intro hb2 hB)))
  clear hr0 hr1 hb2 hW2 hB
  have c0 : W2.cell? ⟨B, 0, none⟩ = some (.int .i64 e) := cell_of HW.out.1 (tcells_zero e os)
  have c1 : W2.cell? ⟨B, 1 + k, none⟩ = some (.int .i64 y) := cell_of HW.out.1 (tcells_at e HH.out.1)
  have cf := fun i => free_of (i := i) HW.out.1
  have hB2 : B < W2.heap.size := lt_block HW.out.1
  have hb3 : ((W2.setCell ⟨B, 0, none⟩ (.int .i64 (e + 1))).setCell ⟨B, 1 + k, none⟩ (.int .i64 nd)).heap[B]? = some (.cells (tcells (e + 1) (os.set k nd)) 24 (0, 0)) := by
    have h := block_setCell (block_setCell HW.out.1 (i := 0) (.int .i64 (e + 1))) (i := 1 + k) (.int .i64 nd)
    rw [tcells_set0, tcells_set] at h
    exact h
  have hb4 : ((W2.setCell ⟨B, 0, none⟩ (.int .i64 (e + 1))).setCell ⟨B, 1 + k, none⟩ (.int .i64 nd)).heap[B + 1]? = some (.cells (tcells 0 (List.replicate 16 0)) 24 (0, 0)) :=
    block_setCell_ne (block_setCell_ne HW.out.2.1 (by omega) _) (by omega) _
  have H3 := Lib.hid (And.intro hb3 hb4)
  clear hb3 hb4
  go_wp2_with (first
    | (refine wpList_load_row rfl 24 (.tmp 3) rfl B rfl _ (tcells (e + 1) (os.set k nd)) _ _ H3.out.1 Tryd.underlying24 rfl (infoT' _ HH.out.2.1) ?_)
    | (refine wpList_store_mid rfl 24 (.tmp 6) (.tmp 50) rfl (B + 1) 0 (tcells (e + 1) (os.set k nd)) rfl rfl (there_block H3.out.2 (by rw [tcells_size HH.out.2.1, tcells_size (by simp)]; exact Nat.le_refl _)) (infoT' _ HH.out.2.1) (tcells_one _ _) ?_))
  exact bodyPost_ret (results_cell2 Tryd.results10 _ _ (B + 1) _ (tcells (e + 1) (os.set k nd)) _ _ (.int .i64 0) (by rfl) (by rfl) (setb H3.out.2 _ HH.out.2.1) Tryd.underlying24 rfl (infoT' _ HH.out.2.1)) rfl
    ⟨rfl, belows ((HW.out.2.2.1.setCell (p := ⟨B, 0, none⟩) (Nat.le_of_eq HW.out.2.2.2) _).setCell (p := ⟨B, 1 + k, none⟩) (Nat.le_of_eq HW.out.2.2.2) _) HW.out.2.2.2⟩

set_option maxRecDepth 100000 in
set_option maxHeartbeats 1600000 in
theorem rmove_bad (e : Int) (os : List Int) (slot nd : Int) (w : World) (h : mvBad e slot nd) :
    Calls Tryd.prog 16 #[tval e os, .int .i64 slot, .int .i64 nd] w fun x w' => x = .returned (.tuple #[tval 0 (List.replicate 16 0), .int .i64 1]) ∧ Below w.heap.size w w' := by
  have HH := Lib.hid h
  clear h
  unfold tval
  go_enter Tryd.func16, Tryd.ntmps16
  go_upto_region 1 with fail
  obtain ⟨B, hB⟩ : ∃ B, w.heap.size = B := ⟨_, rfl⟩
  generalize hW2 : (w.alloc (.cells (tcells e os) 41)).alloc (.cells #[.int .i64 0, .int .i64 0, .int .i64 0, .int .i64 0, .int .i64 0, .int .i64 0, .int .i64 0, .int .i64 0, .int .i64 0, .int .i64 0, .int .i64 0, .int .i64 0, .int .i64 0, .int .i64 0, .int .i64 0, .int .i64 0, .int .i64 0] 41) = W2 at *
  rw [hB]
  have hr0 : W2.heap[B]? = some (.cells (tcells e os) 41 (0, 0)) := by
    rw [← hW2, ← hB]; exact block_alloc (block_new w _) _
  have hr1 : W2.heap[B + 1]? = some (.cells (tcells 0 (List.replicate 16 0)) 41 (0, 0)) := by
    rw [← hW2, ← hB, zeros16]
    have := block_new (w.alloc (.cells (tcells e os) 41)) (.cells #[.int .i64 0, .int .i64 0, .int .i64 0, .int .i64 0, .int .i64 0, .int .i64 0, .int .i64 0, .int .i64 0, .int .i64 0, .int .i64 0, .int .i64 0, .int .i64 0, .int .i64 0, .int .i64 0, .int .i64 0, .int .i64 0, .int .i64 0] 41)
    rw [World.size_alloc] at this
    exact this
  have hb2 : Below w.heap.size w W2 := by rw [← hW2]; exact ((Below.refl _ w).alloc (Nat.le_refl _) _).alloc (by simp) _
  have HW := Lib.hid (And.intro hr0 (And.intro hr1 (And.intro hb2 hB)))
  clear hr0 hr1 hb2 hW2 hB
  have c0 : W2.cell? ⟨B, 0, none⟩ = some (.int .i64 e) := cell_of HW.out.1 (tcells_zero e os)
  go_wp2_with (first
    | (refine wpList_store_mid rfl 41 (.tmp 6) (.tmp 32) rfl (B + 1) 0 (tcells 0 (List.replicate 16 0)) rfl rfl (there_block HW.out.2.1 (Nat.le_refl _)) (infoR' 0 (by simp)) (tcells_one _ _) ?_))
  all_goals first
    | (exfalso; have h := HH.out; unfold mvBad at h; omega)
    | (exact bodyPost_ret (results_cell2 Tryd.results16 _ _ (B + 1) _ (tcells 0 (List.replicate 16 0)) _ _ (.int .i64 1) (by rfl) (by rfl) (setb HW.out.2.1 0 (by simp)) Tryd.underlying41 rfl (infoR' 0 (by simp))) rfl ⟨rfl, belows HW.out.2.2.1 HW.out.2.2.2⟩)

set_option maxRecDepth 100000 in
set_option maxHeartbeats 1600000 in
theorem rmove_twice (e : Int) (os : List Int) (k : Nat) (nd : Int) (w : World) (h : ¬ mvBad e (k : Int) nd) (hk : os[k]? = some nd) :
    Calls Tryd.prog 16 #[tval e os, .int .i64 (k : Int), .int .i64 nd] w fun x w' => x = .returned (.tuple #[tval 0 (List.replicate 16 0), .int .i64 5]) ∧ Below w.heap.size w w' := by
  have b0 : (0 : Int) ≤ (k : Int) := by omega
  have b1 : (k : Int) < 16 := by unfold mvBad at h; omega
  have b2 : (0 : Int) ≤ nd := by unfold mvBad at h; omega
  have b3 : nd < 8 := by unfold mvBad at h; omega
  have b4 : (0 : Int) ≤ e := by unfold mvBad at h; omega
  have b5 : e < 1125899906842624 := by unfold mvBad at h; omega
  have HH := Lib.hid hk
  clear h hk
  unfold tval
  go_enter Tryd.func16, Tryd.ntmps16
  go_upto_region 1 with fail
  obtain ⟨B, hB⟩ : ∃ B, w.heap.size = B := ⟨_, rfl⟩
  generalize hW2 : (w.alloc (.cells (tcells e os) 41)).alloc (.cells #[.int .i64 0, .int .i64 0, .int .i64 0, .int .i64 0, .int .i64 0, .int .i64 0, .int .i64 0, .int .i64 0, .int .i64 0, .int .i64 0, .int .i64 0, .int .i64 0, .int .i64 0, .int .i64 0, .int .i64 0, .int .i64 0, .int .i64 0] 41) = W2 at *
  rw [hB]
  have hr0 : W2.heap[B]? = some (.cells (tcells e os) 41 (0, 0)) := by
    rw [← hW2, ← hB]; exact block_alloc (block_new w _) _
  have hr1 : W2.heap[B + 1]? = some (.cells (tcells 0 (List.replicate 16 0)) 41 (0, 0)) := by
    rw [← hW2, ← hB, zeros16]
    have := block_new (w.alloc (.cells (tcells e os) 41)) (.cells #[.int .i64 0, .int .i64 0, .int .i64 0, .int .i64 0, .int .i64 0, .int .i64 0, .int .i64 0, .int .i64 0, .int .i64 0, .int .i64 0, .int .i64 0, .int .i64 0, .int .i64 0, .int .i64 0, .int .i64 0, .int .i64 0, .int .i64 0] 41)
    rw [World.size_alloc] at this
    exact this
  have hb2 : Below w.heap.size w W2 := by rw [← hW2]; exact ((Below.refl _ w).alloc (Nat.le_refl _) _).alloc (by simp) _
  have HW := Lib.hid (And.intro hr0 (And.intro hr1 (And.intro hb2 hB)))
  clear hr0 hr1 hb2 hW2 hB
  have c0 : W2.cell? ⟨B, 0, none⟩ = some (.int .i64 e) := cell_of HW.out.1 (tcells_zero e os)
  have c1 : W2.cell? ⟨B, 1 + k, none⟩ = some (.int .i64 nd) := cell_of HW.out.1 (tcells_at e HH.out)
  have q : (nd == nd) = true := by simp
  go_wp2_with (first
    | (refine wpList_store_mid rfl 41 (.tmp 6) (.tmp 39) rfl (B + 1) 0 (tcells 0 (List.replicate 16 0)) rfl rfl (there_block HW.out.2.1 (Nat.le_refl _)) (infoR' 0 (by simp)) (tcells_one _ _) ?_))
  exact bodyPost_ret (results_cell2 Tryd.results16 _ _ (B + 1) _ (tcells 0 (List.replicate 16 0)) _ _ (.int .i64 5) (by rfl) (by rfl) (setb HW.out.2.1 0 (by simp)) Tryd.underlying41 rfl (infoR' 0 (by simp))) rfl ⟨rfl, belows HW.out.2.2.1 HW.out.2.2.2⟩

set_option maxRecDepth 100000 in
set_option maxHeartbeats 1600000 in
theorem rmove_good (e : Int) (os : List Int) (hl : os.length = 16) (k : Nat) (nd y : Int) (w : World) (h : ¬ mvBad e (k : Int) nd) (hk : os[k]? = some y) (hy : y ≠ nd) :
    Calls Tryd.prog 16 #[tval e os, .int .i64 (k : Int), .int .i64 nd] w fun x w' => x = .returned (.tuple #[tval (e + 1) (os.set k nd), .int .i64 0]) ∧ Below w.heap.size w w' := by
  have b0 : (0 : Int) ≤ (k : Int) := by omega
  have b1 : (k : Int) < 16 := by unfold mvBad at h; omega
  have b2 : (0 : Int) ≤ nd := by unfold mvBad at h; omega
  have b3 : nd < 8 := by unfold mvBad at h; omega
  have b4 : (0 : Int) ≤ e := by unfold mvBad at h; omega
  have b5 : e < 1125899906842624 := by unfold mvBad at h; omega
  have q : (y == nd) = false := by rw [beq_eq_false_iff_ne]; exact hy
  have hl2 : (os.set k nd).length = 16 := by rw [List.length_set]; exact hl
  have HH := Lib.hid (And.intro hk (And.intro hl2 hl))
  clear h hk hy hl2 hl
  unfold tval
  go_enter Tryd.func16, Tryd.ntmps16
  go_upto_region 1 with fail
  obtain ⟨B, hB⟩ : ∃ B, w.heap.size = B := ⟨_, rfl⟩
  generalize hW2 : (w.alloc (.cells (tcells e os) 41)).alloc (.cells #[.int .i64 0, .int .i64 0, .int .i64 0, .int .i64 0, .int .i64 0, .int .i64 0, .int .i64 0, .int .i64 0, .int .i64 0, .int .i64 0, .int .i64 0, .int .i64 0, .int .i64 0, .int .i64 0, .int .i64 0, .int .i64 0, .int .i64 0] 41) = W2 at *
  rw [hB]
  have hr0 : W2.heap[B]? = some (.cells (tcells e os) 41 (0, 0)) := by
    rw [← hW2, ← hB]; exact block_alloc (block_new w _) _
  have hr1 : W2.heap[B + 1]? = some (.cells (tcells 0 (List.replicate 16 0)) 41 (0, 0)) := by
    rw [← hW2, ← hB, zeros16]
    have := block_new (w.alloc (.cells (tcells e os) 41)) (.cells #[.int .i64 0, .int .i64 0, .int .i64 0, .int .i64 0, .int .i64 0, .int .i64 0, .int .i64 0, .int .i64 0, .int .i64 0, .int .i64 0, .int .i64 0, .int .i64 0, .int .i64 0, .int .i64 0, .int .i64 0, .int .i64 0, .int .i64 0] 41)
    rw [World.size_alloc] at this
    exact this
  have hb2 : Below w.heap.size w W2 := by rw [← hW2]; exact ((Below.refl _ w).alloc (Nat.le_refl _) _).alloc (by simp) _
  have HW := Lib.hid (And.intro hr0 (And.intro hr1 (And.intro hb2 hB)))
  clear hr0 hr1 hb2 hW2 hB
  have c0 : W2.cell? ⟨B, 0, none⟩ = some (.int .i64 e) := cell_of HW.out.1 (tcells_zero e os)
  have c1 : W2.cell? ⟨B, 1 + k, none⟩ = some (.int .i64 y) := cell_of HW.out.1 (tcells_at e HH.out.1)
  have cf := fun i => free_of (i := i) HW.out.1
  have hB2 : B < W2.heap.size := lt_block HW.out.1
  have hb3 : ((W2.setCell ⟨B, 0, none⟩ (.int .i64 (e + 1))).setCell ⟨B, 1 + k, none⟩ (.int .i64 nd)).heap[B]? = some (.cells (tcells (e + 1) (os.set k nd)) 41 (0, 0)) := by
    have h := block_setCell (block_setCell HW.out.1 (i := 0) (.int .i64 (e + 1))) (i := 1 + k) (.int .i64 nd)
    rw [tcells_set0, tcells_set] at h
    exact h
  have hb4 : ((W2.setCell ⟨B, 0, none⟩ (.int .i64 (e + 1))).setCell ⟨B, 1 + k, none⟩ (.int .i64 nd)).heap[B + 1]? = some (.cells (tcells 0 (List.replicate 16 0)) 41 (0, 0)) :=
    block_setCell_ne (block_setCell_ne HW.out.2.1 (by omega) _) (by omega) _
  have H3 := Lib.hid (And.intro hb3 hb4)
  clear hb3 hb4
  go_wp2_with (first
    | (refine wpList_load_row rfl 41 (.tmp 3) rfl B rfl _ (tcells (e + 1) (os.set k nd)) _ _ H3.out.1 Tryd.underlying41 rfl (infoR' _ HH.out.2.1) ?_)
    | (refine wpList_store_mid rfl 41 (.tmp 6) (.tmp 48) rfl (B + 1) 0 (tcells (e + 1) (os.set k nd)) rfl rfl (there_block H3.out.2 (by rw [tcells_size HH.out.2.1, tcells_size (by simp)]; exact Nat.le_refl _)) (infoR' _ HH.out.2.1) (tcells_one _ _) ?_))
  exact bodyPost_ret (results_cell2 Tryd.results16 _ _ (B + 1) _ (tcells (e + 1) (os.set k nd)) _ _ (.int .i64 0) (by rfl) (by rfl) (setb H3.out.2 _ HH.out.2.1) Tryd.underlying41 rfl (infoR' _ HH.out.2.1)) rfl
    ⟨rfl, belows ((HW.out.2.2.1.setCell (p := ⟨B, 0, none⟩) (Nat.le_of_eq HW.out.2.2.2) _).setCell (p := ⟨B, 1 + k, none⟩) (Nat.le_of_eq HW.out.2.2.2) _) HW.out.2.2.2⟩

end Go.Proofs.YtjccngahpafcaaaDoor.RingF
