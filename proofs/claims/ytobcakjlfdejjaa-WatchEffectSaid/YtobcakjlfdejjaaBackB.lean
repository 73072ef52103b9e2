/- watch.Back. -/
import Derived.Test.YtobcakjlfdejjaaBackA
set_option linter.unusedVariables false
set_option linter.unusedSimpArgs false
namespace Go.Proofs.Ytobcakjlfdejjaa.Back
open Go.RowKit Go.Por Go.Sort Go.Shelf Go.Proofs.Ytobcakjlfdejjaa.Watch

attribute [local go_sem] Oper.semAt_some

theorem wpListIn_push {F : Fence} {n : Nat} {P : Program} {α : Type} {t E : TypeId} {f : α → List Value} {c bytes : Nat} {w : World} {v : Value} {l : List α} {ops : Array Oper} {rest : List Oper} {o : Oper} {a : Act} {Q : Exit → Act → World → Prop} (H : Elem P t E f c bytes) (hgd : o.guard = none) (s x0 : Operand)
    (ho : o.op = .call { callee := .builtin .append, args := #[s, x0], argTypes := #[t, t] }) (hs : a.eval s = v) (hown : OwnS f c w E v l) (B : Nat) (x : α) (hx : a.eval x0 = .slice (some ⟨B, 0, none⟩) 1 1)
    (hB : w.heap[B]? = some (.cells (f x).toArray E (0, 0))) (hb : (l.length + 1) * bytes ≤ 140737488355328) (h63 : l.length + 1 ≤ maxLen)
    (h : ∀ v' w', OwnS f c w' E v' (l ++ [x]) → Mod (fun k => some k = v.ownBlock) w w' → (∀ k, v'.ownBlock = some k → v.ownBlock = some k ∨ w.heap.size ≤ k) → wpListIn F n P ops Q rest (a.put o.dst v') w') : wpListIn F n P ops Q (o :: rest) a w := by
  refine wpListIn_plain hgd fun K hK' => ?_
  obtain ⟨v', w', hrun, r1, r2, r3⟩ := run_push H o.type hown hB hb h63
  unfold Oper.wpIn
  refine ⟨?_, ?_⟩
  · simp [Oper.about, ho, resolve, Target.leads, Sem.run_pure]
  · rw [Oper.semAt_plain F _ _ (by rw [ho]; intro c hc'; cases hc')]
    simp [execOp, ho, resolve, invoke, builtin, hs, hx, hrun, Result.andThen]
    exact hK' _ _ (h v' w' r1 r2 r3)
/-- A change undone. -/
def flipC (c : Chg) : Chg := (c.1, !c.2.1, c.2.2)
def backL (cs : List Chg) : List Chg := cs.reverse.map flipC
def Iv (w : World) (O : Nat) (pre : List (Nat × Chg)) (W : World) : Prop := ∃ v, BoxC W O v (pre.map (fun p => flipC p.2)) ∧ (∀ k, v.ownBlock = some k → O + 2 ≤ k) ∧ Below O w W ∧ O + 2 ≤ W.heap.size
theorem own_cells {α : Type} {f : α → List Value} {c : Nat} {w : World} {E : TypeId} {v : Value} {l : List α} (h : OwnS f c w E v l) {k : Nat} (hk : v.ownBlock = some k) {o : Obj} (ho : w.heap[k]? = some o) (hc : o.isCells = false) : False := by
  rcases h.form with ⟨rfl, _⟩ | ⟨g, cap, rfl, _, _⟩
  · simp [Value.ownBlock] at hk
  · obtain ⟨cur, h1, _⟩ := h.block
    simp only [Value.ownBlock, Option.some.injEq] at hk
    subst hk
    rw [h1] at ho
    cases ho
    simp [Obj.isCells] at hc
theorem own_lt {α : Type} {f : α → List Value} {c : Nat} {w : World} {E : TypeId} {v : Value} {l : List α} (h : OwnS f c w E v l) {k : Nat} (hk : v.ownBlock = some k) : k < w.heap.size := by
  rcases h.form with ⟨rfl, _⟩ | ⟨g, cap, rfl, _, _⟩
  · simp [Value.ownBlock] at hk
  · simp only [Value.ownBlock, Option.some.injEq] at hk
    rw [← hk]
    exact h.lt
theorem Iv_own (w : World) (O : Nat) : OwnFrom (O + 2) (Iv w O) := by
  rintro s A B row ⟨v, hb, hv, hbel, hsz⟩ hg hr
  have hne : row ≠ some O := fun e => by have := (hr O e).1; omega
  refine ⟨v, ⟨(hg.block O (lt_block hb.box) (fun e => hne e.symm)).trans hb.box, hb.own.mod (Mod.of_grown hg) (fun k hk e => ?_)⟩, hv, hbel.trans ((Mod.of_grown hg).to_below (by omega) (fun k e => by have := (hr k e.symm).1; omega)), by have := hg.size; omega⟩
  obtain ⟨_, o, ho, hc⟩ := hr k e.symm
  exact own_cells hb.own hk ho hc
theorem keepsFrom_mod {S : Nat → Prop} {W W' : World} (B : Nat) (hm : Mod S W W') (hS : ∀ k o, S k → W.heap[k]? = some o → o.isCells = true) : KeepsFrom B W W' :=
  ⟨hm.size, fun k o _ hk ho => (hm.block k (lt_block hk) (fun h => by rw [hS k o h hk] at ho; cases ho)).trans hk⟩

set_option maxRecDepth 100000 in
set_option maxHeartbeats 4000000 in
theorem back_in (F : Fence) (n : Nat) (hf0 : F.fn 16) (hf1 : F.fn 39) (hf2 : F.fn 53) (hro : F.round = none) (hn : 6 ≤ n) {w : World} {v : Value} {cs : List Chg} (hr : ReadS chgC 5 w v cs) (hb : (cs.length + 1) * 64 ≤ 140737488355328) :
    CallsIn F n Try.prog 16 #[v] w fun e W' => ∃ v', e = .returned v' ∧ OwnS chgC 5 W' 43 v' (backL cs) ∧ Below w.heap.size w W' ∧ ∀ k, v'.ownBlock = some k → w.heap.size ≤ k := by
  have h1 : 1 ≤ n := by omega
  obtain ⟨ao, cap, rfl, hlen⟩ := hr.form
  obtain ⟨O, hO⟩ : ∃ O, w.heap.size = O := ⟨_, rfl⟩
  obtain ⟨m, hm⟩ : ∃ m, cs.length = m := ⟨_, rfl⟩
  rw [hm] at hr ⊢
  rw [hO]
  have HH := Lib.hid (And.intro hr (And.intro hb (And.intro hlen (And.intro hO hm))))
  clear hr hb hlen
  refine callsIn_of_wp_marks Try.func16 rfl hf0 ?_ hro
  simp only [Try.ntmps16, List.size_toArray, List.length_cons, List.length_nil, Nat.reduceAdd, Nat.reduceSub, Array.replicate_succ, Array.replicate_zero, List.push_toArray, List.append_toArray, List.nil_append, List.cons_append]
  gi_wp2_with (gi_at_call 39; refine (backward_in F (n - 1) hf1 hro _ _ _ _).mono ?_; rintro e w' ⟨rfl, rfl⟩)
  have hb1 := block_alloc (block_new w (.cells #[.slice none 0 0] 25)) (.cells #[.slice ao m cap] 25)
  have hb2 := block_new (w.alloc (.cells #[.slice none 0 0] 25)) (.cells #[.slice ao m cap] 25)
  rw [hO] at hb1
  rw [World.size_alloc, hO] at hb2
  have hsz : ((w.alloc (.cells #[.slice none 0 0] 25)).alloc (.cells #[.slice ao m cap] 25)).heap.size = O + 2 := by simp [hO]
  have hB0 : Below O w ((w.alloc (.cells #[.slice none 0 0] 25)).alloc (.cells #[.slice ao m cap] 25)) := ((Below.refl _ w).alloc (by omega) _).alloc (by simp; omega) _
  have hread : ReadS chgC 5 ((w.alloc (.cells #[.slice none 0 0] 25)).alloc (.cells #[.slice ao m cap] 25)) (.slice ao m cap) cs := HH.out.1.mod (S := fun _ => False) (by decide) chgC_len (((Mod.refl _ w).alloc _).alloc _) (fun _ _ h => h)
  generalize hW0 : (w.alloc (.cells #[.slice none 0 0] 25)).alloc (.cells #[.slice ao m cap] 25) = W0 at *
  clear hW0
  refine wpIn_rangeFunc_ownH (α := Nat × Chg) hro h1 (gf := 53) (lb := #[.pointer (some ⟨O + 1, 0, none⟩)]) rfl hf2 (enters_of Try.func53 (by kernel_rfl) rfl)
    (back_stops F (n - 1) hf2 hro (by omega) (O + 1) O (.slice ao m cap) cs W0 (by have := room64 (Nat.le_refl cs.length) HH.out.2.1; omega) (by omega) (by omega) (cell_of hb2 rfl) hread (fun b o mm c e hpos => by
      obtain ⟨x0, hx0⟩ : ∃ x, cs[0]? = some x := ⟨_, List.getElem?_eq_getElem hpos⟩
      obtain ⟨b2, o2, e2, _, hl2⟩ := HH.out.1.lt (by decide) chgC_len hx0
      simp only [Value.slice.injEq] at e
      rw [e2] at e
      cases e.1
      omega))
    (fun h k => KB.trans h k) (fun W l o o' hl h hc hw => ⟨belowK_b (by omega) W l o o' hl h hc hw, (belowK_b (n₀ := O + 2) (by omega) W l o o' hl h hc hw).block (O + 1) (by omega)⟩) (Below.refl _ _) (fun _ => rfl)
    (Iv w O) (fun _ _ _ => False) (by rw [hsz]; exact Iv_own w O) (fun _ _ _ _ _ hs _ _ => hs)
    ⟨_, ⟨hb1, OwnS.nil _ _ _ _⟩, fun k h => by simp [Value.ownBlock] at h, hB0, by omega⟩
    (fun x a' W => ∃ X, O + 2 ≤ X ∧ W.heap[X]? = some (.cells (chgC x.2).toArray 43 (0, 0)) ∧ (∀ v, W.heap[O]? = some (.cells #[v] 25 (0, 0)) → v.ownBlock ≠ some X) ∧ a' = { tmps := #[.slice ao m cap, undef, .slice none 0 0, .pointer (some ⟨O, 0, none⟩), undef, .pointer (some ⟨X, 0, none⟩), .slice ao m cap, .func (.func 53) #[] #[.pointer (some ⟨O + 1, 0, none⟩)], .int .i64 (x.1 : Int), .agg (chgC x.2).toArray, undef, undef, undef, undef, undef, undef, undef, undef, undef, undef, undef], defers := [] })
    (fun x a' _ A B row hs hg hr => by
      obtain ⟨X, g1, g2, g3, g4⟩ := hs
      have hne : row ≠ some X := fun e => by
        obtain ⟨_, o, ho, hc⟩ := hr X e
        rw [g2] at ho
        cases ho
        simp [Obj.isCells] at hc
      have hO2 : B.heap[O]? = A.heap[O]? := hg.block O (by have := lt_block g2; omega) (fun e => by have := (hr O e.symm).1; omega)
      exact ⟨X, g1, (hg.block X (lt_block g2) (fun e => hne e.symm)).trans g2, fun v h => g3 v (by rw [← hO2]; exact h), g4⟩)
    ?assign ?body ?done ?stop
  case assign =>
    rintro l pre ⟨i, rev, del, x0, x1, x2⟩ W K ⟨v, hbx, hv, hbel, hs2⟩ hK
    simp only [encP, chgC]
    gi_wp2
    refine hK _ _ ((KeepsOthers.alloc _ _).from _) ⟨(Below.refl O W).alloc (by omega) _, Below.heap_alloc _ _ _ (by omega)⟩ ⟨v, ⟨block_alloc hbx.box _, hbx.own.mod ((Mod.refl (fun _ => False) W).alloc _) (fun _ _ h => h)⟩, hv, hbel.alloc (by omega) _, by simp; omega⟩ ⟨W.heap.size, hs2, block_new _ _, fun v2 h2 e => ?_, rfl⟩
    have h3 := block_alloc hbx.box (.cells #[.int .i64 rev, .bool del, .string x0, .string x1, .string x2] 43)
    rw [h3] at h2
    simp only [Option.some.injEq, Obj.cells.injEq, Array.mk.injEq, List.cons.injEq, and_true] at h2
    rw [← h2] at e
    exact Nat.lt_irrefl _ (own_lt hbx.own e)
  case body =>
    rintro l pre ⟨i, rev, del, x0, x1, x2⟩ a' W hl ⟨r, hr⟩ ⟨v, hbx, hv, hbel, hs2⟩ ⟨X, g1, g2, g3, rfl⟩ hlt
    have c0 : W.cell? ⟨X, 0, none⟩ = some (.int .i64 rev) := cell_of g2 rfl
    have c1 : W.cell? ⟨X, 1, none⟩ = some (.bool del) := cell_of g2 rfl
    have c2 : W.cell? ⟨X, 2, none⟩ = some (.string x0) := cell_of g2 rfl
    have c3 : W.cell? ⟨X, 3, none⟩ = some (.string x1) := cell_of g2 rfl
    have c4 : W.cell? ⟨X, 4, none⟩ = some (.string x2) := cell_of g2 rfl
    have cf := free_of (i := 1) g2
    have cO : W.cell? ⟨O, 0, none⟩ = some v := cell_of hbx.box rfl
    have hXO : ¬ X = O := by omega
    have hOX : ¬ O = X := by omega
    have hroom := room64 (a := pre.length) (n := cs.length) (by omega) HH.out.2.1
    have hlen2 : (pre.map (fun p => flipC p.2)).length = pre.length := List.length_map _
    have HB := Lib.hid (And.intro hbx (And.intro hv (And.intro hbel (And.intro hs2 (And.intro g2 (And.intro g1 (And.intro (g3 v hbx.box) (And.intro hroom hlen2))))))))
    clear hbx hv hbel hs2 g2 g1 g3 hroom hlen2 hlt hr hl
    have hoo := OwnS.mod HB.out.1.own (((Mod.refl (fun x => x = X) W).setCell (p := ⟨X, 1, none⟩) (.inl rfl) (.bool (!del))).alloc (.cells #[.int .i64 rev, .bool (!del), .string x0, .string x1, .string x2] 43)) (fun k hk e => HB.out.2.2.2.2.2.2.1 (by rw [hk, show k = X from e]))
    gi_wp2_with (gi_at_builtin; refine wpListIn_push elemChg rfl _ _ rfl rfl hoo W.heap.size (rev, !del, x0, x1, x2) rfl ?c1 ?c2 ?c3 ?_)
    case c1 =>
      have := block_new (W.setCell ⟨X, 1, none⟩ (.bool (!del))) (.cells #[.int .i64 rev, .bool (!del), .string x0, .string x1, .string x2] 43)
      rw [World.size_setCell] at this
      exact (Array.getElem?_eq_some_iff.1 this).2
    case c2 => exact HB.out.2.2.2.2.2.2.2.1.1
    case c3 => exact HB.out.2.2.2.2.2.2.2.1.2.1
    intro v' w' hown' hm' hb'
    obtain ⟨ao', n', cap', rfl, hn'⟩ := hown'.sl
    clear hn' hoo
    obtain ⟨hbx, hv, hbel, hs2, g2, g1, g3, hroom, hlen2⟩ := HB.out
    have hO5 : w'.heap[O]? = some (.cells #[v] 25 (0, 0)) := hm'.old (block_alloc (block_setCell_ne hbx.box hOX _) _) (fun e => own_ne hbx.own hbx.box (by decide) e.symm)
    have cO5 : w'.cell? ⟨O, 0, none⟩ = some v := cell_of hO5 rfl
    have fO5 := free_of (i := 0) hO5
    have HC := Lib.hid (And.intro hown' (And.intro hm' (And.intro hb' hO5)))
    clear hown' hm' hb' hO5 hbx hv hbel hs2 g2 g1 g3 hroom hlen2
    gi_wp2
    obtain ⟨hbx, hv, hbel, hs2, g2, g1, g3, hroom, hlen2⟩ := HB.out
    obtain ⟨hown', hm', hb', hO5⟩ := HC.out
    have hsz1 := hm'.size
    simp only [World.size_alloc, World.size_setCell] at hsz1 hb'
    have hmall : Mod (fun k => k = X ∨ some k = v.ownBlock ∨ k = O) W (w'.setCell ⟨O, 0, none⟩ (.slice ao' n' cap')) := by
      refine Mod.setCell (Mod.trans (((Mod.refl (fun k => k = X ∨ some k = v.ownBlock ∨ k = O) W).setCell (p := ⟨X, 1, none⟩) (.inl (.inl rfl)) _).alloc _) hm' (fun k hk => .inl (.inr (.inl hk)))) (.inl (.inr (.inr rfl))) _
    have hne' : (Value.slice ao' n' cap').ownBlock ≠ some O := fun e => by
      rcases hb' O e with h | h
      · exact own_ne hbx.own hbx.box (by decide) h
      · omega
    refine ⟨keepsFrom_mod _ hmall (fun k o hS ho => ?_), ⟨hmall.to_below (by omega) (fun k hS => ?_), ?_⟩, _, ⟨block_setCell hO5 _, ?_⟩, fun k hk => ?_, hbel.trans (hmall.to_below (by omega) (fun k hS => ?_)), by simp only [World.size_setCell]; omega⟩
    · cases hcc : o.isCells with
      | true => rfl
      | false =>
        rcases hS with rfl | hS | rfl
        · rw [g2] at ho; cases ho; simp [Obj.isCells] at hcc
        · exact (own_cells hbx.own hS.symm ho hcc).elim
        · rw [hbx.box] at ho; cases ho; simp [Obj.isCells] at hcc
    · rcases hS with rfl | hS | rfl
      · omega
      · have := hv k hS.symm; omega
      · omega
    · refine hmall.block (O + 1) (by omega) (fun hS => ?_)
      rcases hS with h | h | h
      · omega
      · have := hv _ h.symm; omega
      · omega
    · rw [List.map_append]
      exact hown'.mod (S := fun k => k = O) ((Mod.refl (fun k => k = O) w').setCell (p := ⟨O, 0, none⟩) (.inl rfl) _) (fun k hk e => hne' (by rw [hk, show k = O from e]))
    · rcases hb' k hk with h | h
      · exact hv k h
      · omega
    · rcases hS with rfl | hS | rfl
      · omega
      · have := hv k hS.symm; omega
      · omega
  case done =>
    rintro D ys W hD hys ⟨v, hbx, hv, hbel, hs2⟩ hK
    have cO : W.cell? ⟨O, 0, none⟩ = some v := cell_of hbx.box rfl
    have HB := Lib.hid (And.intro hbx (And.intro hv (And.intro hbel hs2)))
    clear hbx hv hbel hs2
    gi_wp2
    refine ⟨by simp, .inl ⟨_, _, rfl, run_takeDeferred hK, ?_⟩⟩
    have hI := (Iv_own w O).putObj (l := D) (.deferred none) ⟨v, HB.out⟩ (by omega) hK rfl
    obtain ⟨v2, hb2, hv2, hbel2, hs3⟩ := hI
    have hv : v2 = v := by
      have h3 := (belowK_b (n₀ := O + 1) (w := W0) (by omega) W D _ (.deferred none) (by omega) hK rfl rfl).block O (by omega)
      have h4 := hb2.box
      rw [h3, HB.out.1.box] at h4
      simp only [Option.some.injEq, Obj.cells.injEq, Array.mk.injEq, List.cons.injEq, and_true] at h4
      exact h4.symm
    subst hv
    have hmap : ys.map (fun p => flipC p.2) = backL cs := by
      unfold backL
      rw [← hys, List.map_map]
      rfl
    have ho := hb2.own
    rw [hmap] at ho
    exact ⟨_, results_tmp rfl _ _ _, v2, rfl, ho, hbel2, fun k hk => by have := hv2 k hk; omega⟩
  case stop =>
    rintro D c pre W _ _ h _
    exact h.elim

/-- watch.Back: the changes undone, the last first; new memory. -/
theorem back_any {w : World} {v : Value} {cs : List Chg} (hr : ReadS chgC 5 w v cs) (hb : (cs.length + 1) * 64 ≤ 140737488355328) :
    Calls Try.prog 16 #[v] w fun e W' => ∃ v', e = .returned v' ∧ OwnS chgC 5 W' 43 v' (backL cs) ∧ Below w.heap.size w W' ∧ ∀ k, v'.ownBlock = some k → w.heap.size ≤ k :=
  (callsIn_wide (n := 6)).1 (back_in Fence.wide 6 trivial trivial trivial rfl (Nat.le_refl _) hr hb)
end Go.Proofs.Ytobcakjlfdejjaa.Back
