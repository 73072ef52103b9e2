/- Table.Owner, plain, Check and the document's. -/
import Derived.Test.YtjccngahpafcaaaDoorRingW
namespace Go.Proofs.YtjccngahpafcaaaDoor.RingF
open Go.RowKit Go.Por Go.Sort

set_option maxHeartbeats 800000 in
theorem owner_any (e : Int) (os : List Int) (hl : os.length = 16) (s : ByteArray) (hs : s.size ≤ 9223372036854775807) (x : Int) (hx : os[place s % 16]? = some x) (w : World) :
    Calls Tryd.prog 20 #[tval e os, .string s] w fun r w' => r = .returned (.int .i64 x) ∧ Below w.heap.size w w' := by
  obtain ⟨m, hm⟩ : ∃ m, place s % 16 = m := ⟨_, rfl⟩
  have hm16 : (m : Int) < 16 := by omega
  rw [hm] at hx
  have HH := Lib.hid (And.intro hx hm)
  clear hx hm hl
  unfold tval
  go_enter Tryd.func20, Tryd.ntmps20
  go_upto_region 1 with fail
  obtain ⟨B, hB⟩ : ∃ B, w.heap.size = B := ⟨_, rfl⟩
  generalize hW2 : w.alloc (.cells (tcells e os) 24) = W2 at *
  rw [hB]
  have hr1 : W2.heap[B]? = some (.cells (tcells e os) 24 (0, 0)) := by rw [← hW2, ← hB]; exact block_new w _
  have hb2 : Below w.heap.size w W2 := by rw [← hW2]; exact (Below.refl _ w).alloc (Nat.le_refl _) _
  have HW := Lib.hid (And.intro hr1 hb2)
  clear hr1 hb2 hW2 hB
  go_wp2_with fail
  refine (slot_any s hs _).mono ?_
  rintro r w3 ⟨rfl, hm3, hz3⟩
  rw [HH.out.2]
  have c1 : w3.cell? ⟨B, 1 + m, none⟩ = some (.int .i64 x) := cell_of (hm3.old HW.out.1 id) (tcells_at e HH.out.1)
  have HE := Lib.hid (HW.out.2.trans (hm3.to_below HW.out.2.size (fun x h => h.elim)))
  clear hm3 hz3
  go_wp2
  go_ret
  exact ⟨rfl, HE.out⟩

theorem list16 {os : List Int} (h : os.length = 16) : ∃ o0 o1 o2 o3 o4 o5 o6 o7 o8 o9 o10 o11 o12 o13 o14 o15 : Int, os = [o0, o1, o2, o3, o4, o5, o6, o7, o8, o9, o10, o11, o12, o13, o14, o15] := by
  match os, h with
  | [o0, o1, o2, o3, o4, o5, o6, o7, o8, o9, o10, o11, o12, o13, o14, o15], _ => exact ⟨o0, o1, o2, o3, o4, o5, o6, o7, o8, o9, o10, o11, o12, o13, o14, o15, rfl⟩

theorem wpList_build_as {P : Program} {ops : Array Oper} {rest : List Oper} {o : Oper} {a : Act} {w : World} {Q : Exit → Act → World → Prop} (hg : o.guard = none) (t : TypeId) (parts : Array (Nat × Operand)) (ho : o.op = .build t parts) (ps : List (Nat × Value)) (cells : Array Value)
    (hp0 : (parts.toList.map fun (i, x) => (i, a.eval x)) = ps) (hf : P.built t ps = some cells) (h : wpList P ops Q rest (a.put o.dst (.agg cells)) w) : wpList P ops Q (o :: rest) a w := by
  have hp : (parts.map fun (i, x) => (i, a.eval x)).toList = ps := by rw [Array.toList_map]; exact hp0
  exact wpList_build hg t parts ho (by rw [hp, hf]; rfl) (by rw [hp, hf]; exact h)
theorem builtR (e : Int) {os : List Int} (hl : os.length = 16) : Tryd.prog.built 41 [(0, .int .i64 e), (1, .agg (os.map (Value.int .i64)).toArray)] = some (tcells e os) := by
  obtain ⟨o0, o1, o2, o3, o4, o5, o6, o7, o8, o9, o10, o11, o12, o13, o14, o15, rfl⟩ := list16 hl
  kernel_rfl
theorem builtT (e : Int) {os : List Int} (hl : os.length = 16) : Tryd.prog.built 24 [(0, .int .i64 e), (1, .agg (os.map (Value.int .i64)).toArray)] = some (tcells e os) := by
  obtain ⟨o0, o1, o2, o3, o4, o5, o6, o7, o8, o9, o10, o11, o12, o13, o14, o15, rfl⟩ := list16 hl
  kernel_rfl
theorem results_cell1 {P : Program} {fn : Func} {p : Tmp} {ty : TypeId} (h : fn.results = #[.cell p ty]) (tmps : Array Value) (w : World) (g : Nat) (t : TypeId) (cs : Array Value) (fr : Nat × Nat) (d : TypeDesc)
    (hp : tmps.getD p undef = .pointer (some ⟨g, 0, none⟩)) (hg : w.heap[g]? = some (.cells cs t fr))
    (hu : P.underlying ty = some d) (hd : (match d with | .struct _ | .array _ _ => true | _ => false) = true) (hi : (P.info? ty).map (·.size) = some cs.size) :
    (results fn tmps).run P w = .ok (.agg cs) w := results_cell_row h tmps w g t cs fr d hp hg hu hd hi

set_option maxRecDepth 100000 in
set_option maxHeartbeats 800000 in
theorem plain_any (e : Int) (os : List Int) (hl : os.length = 16) (w : World) :
    Calls Tryd.prog 17 #[tval e os] w fun r w' => r = .returned (tval e os) ∧ Below w.heap.size w w' := by
  have hinf : (Tryd.prog.info? 22).map (·.size) = some (os.map (Value.int .i64)).length := by rw [List.length_map, hl]; exact infoA
  have HL := Lib.hid (And.intro hl hinf)
  clear hl hinf
  unfold tval
  go_enter Tryd.func17, Tryd.ntmps17
  go_upto_region 1 with fail
  obtain ⟨B, hB⟩ : ∃ B, w.heap.size = B := ⟨_, rfl⟩
  generalize hW2 : (w.alloc (.cells (tcells e os) 24)).alloc (.cells #[.int .i64 0, .int .i64 0, .int .i64 0, .int .i64 0, .int .i64 0, .int .i64 0, .int .i64 0, .int .i64 0, .int .i64 0, .int .i64 0, .int .i64 0, .int .i64 0, .int .i64 0, .int .i64 0, .int .i64 0, .int .i64 0, .int .i64 0] 41) = W2 at *
  rw [hB]
  have hr0 : W2.heap[B]? = some (.cells (tcells e os) 24 (0, 0)) := by
    rw [← hW2, ← hB]; exact block_alloc (block_new w _) _
  have hr1 : W2.heap[B + 1]? = some (.cells (tcells 0 (List.replicate 16 0)) 41 (0, 0)) := by
    rw [← hW2, ← hB, zeros16]
    have := block_new (w.alloc (.cells (tcells e os) 24)) (.cells #[.int .i64 0, .int .i64 0, .int .i64 0, .int .i64 0, .int .i64 0, .int .i64 0, .int .i64 0, .int .i64 0, .int .i64 0, .int .i64 0, .int .i64 0, .int .i64 0, .int .i64 0, .int .i64 0, .int .i64 0, .int .i64 0, .int .i64 0] 41)
    rw [World.size_alloc] at this
    exact this
  have hb2 : Below w.heap.size w W2 := by rw [← hW2]; exact ((Below.refl _ w).alloc (Nat.le_refl _) _).alloc (by simp) _
  have HW := Lib.hid (And.intro hr0 (And.intro hr1 (And.intro hb2 hB)))
  clear hr0 hr1 hb2 hW2 hB
  have c0 : W2.cell? ⟨B, 0, none⟩ = some (.int .i64 e) := cell_of HW.out.1 (tcells_zero e os)
  go_wp2_with (first
    | (refine wpList_load_mid rfl 22 (.tmp 5) rfl B 1 rfl (os.map (Value.int .i64)) _ (range_owners HW.out.1) Tryd.underlying22 rfl HL.out.2 ?_; refine wpList_build_as rfl 41 #[(0, .tmp 4), (1, .tmp 6)] rfl [(0, .int .i64 e), (1, .agg (os.map (Value.int .i64)).toArray)] (tcells e os) rfl (builtR e HL.out.1) ?_; refine wpList_store_mid rfl 41 (.tmp 2) (.tmp 7) rfl (B + 1) 0 (tcells e os) rfl rfl (there_block HW.out.2.1 (by rw [tcells_size HL.out.1, tcells_size (by simp)]; exact Nat.le_refl _)) (infoR' _ HL.out.1) (tcells_one _ _) ?_))
  exact bodyPost_ret (results_cell1 Tryd.results17 _ _ (B + 1) _ (tcells e os) _ _ (by rfl) (setb HW.out.2.1 _ HL.out.1) Tryd.underlying41 rfl (infoR' _ HL.out.1)) rfl ⟨rfl, belows HW.out.2.2.1 HW.out.2.2.2⟩
end Go.Proofs.YtjccngahpafcaaaDoor.RingF
