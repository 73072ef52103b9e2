/- The law WatchTells of the watch, where what came in is of bulk at most 1048576: what raw rows say changes between two revisions, and what is there at one, is the document's. -/
import Derived.Test.YtobcakjlfdejjaaRows
import Derived.WalkKit
import Derived.ProofKit
import Derived.OpenShut
import Derived.ShutString
import Derived.JoinedCond
import Derived.ChangeOld
import Derived.Below
import Derived.SizedLaws
import Derived.Test.YtobcakjlfdejjaaTeA
import Derived.Test.YtobcakjlfdejjaaTeB
import Derived.Test.YtobcakjlfdejjaaTeC
import Derived.Test.YtobcakjlfdejjaaTeD
import Derived.Test.YtobcakjlfdejjaaTeE
import Derived.Test.YtobcakjlfdejjaaTeF
import Derived.Test.YtobcakjlfdejjaaTeG
import Derived.Test.YtobcakjlfdejjaaTeH
import Derived.Test.YtobcakjlfdejjaaTeI
import Derived.Test.YtobcakjlfdejjaaTeJ
import Derived.Test.YtobcakjlfdejjaaTeK
import Derived.Test.YtobcakjlfdejjaaTeL
import Derived.Test.YtobcakjlfdejjaaTeM
import Derived.Test.YtobcakjlfdejjaaTeN
import Derived.Test.YtobcakjlfdejjaaTeO
import Derived.Test.YtobcakjlfdejjaaTeP
import Derived.Test.YtobcakjlfdejjaaTeQ
import Derived.Test.YtobcakjlfdejjaaTeR
import Derived.Test.YtobcakjlfdejjaaTeS
import Derived.Test.YtobcakjlfdejjaaTeT
import Derived.Test.YtobcakjlfdejjaaTeU
import Derived.Test.YtobcakjlfdejjaaTeV
import Derived.Test.YtobcakjlfdejjaaTeW
import Derived.Test.YtobcakjlfdejjaaTeX
import Derived.Test.YtobcakjlfdejjaaTeY
import Derived.Test.YtobcakjlfdejjaaTeZ
import Derived.Test.YtobcakjlfdejjaaTeAA
import Derived.Test.YtobcakjlfdejjaaTeAB
import Derived.Test.YtobcakjlfdejjaaTeAC
import Derived.Test.YtobcakjlfdejjaaTeAD
section
set_option linter.unusedVariables false
set_option linter.unusedSimpArgs false
namespace Go.Proofs.Ytobcakjlfdejjaa.Watch
open Go.RowKit Go.Por Go.Sort

theorem stab_perm {α : Type} [DecidableEq α] {lt : α → α → Bool} (h : SWO lt) {a b : List α} (k : Stab.Stab lt a b) : b.Perm a := List.perm_iff_count.2 fun x => by
  have e := congrArg (List.count x) (k x)
  rwa [List.count_filter (Stab.eqv_refl h x), List.count_filter (Stab.eqv_refl h x)] at e

structure Ris (s : Int × List Chg) (n : Nat) : Prop where
  low : 0 ≤ s.1
  pair : s.2.Pairwise (fun x y => x.1 < y.1)
  each : ∀ c ∈ s.2, 0 < c.1 ∧ c.1 ≤ 1125899906842624
  under : ∀ c ∈ s.2, c.1 ≤ s.1
  len : s.2.length ≤ n
end Go.Proofs.Ytobcakjlfdejjaa.Watch
end
section
set_option linter.unusedVariables false
set_option linter.unusedSimpArgs false
namespace Go.Proofs.Ytobcakjlfdejjaa.WatchTells
open Go.RowKit Go.Por Go.Sort Go.Proofs.Ytobcakjlfdejjaa.Watch Go.Proofs.YtobcakjlfdejjaaW.PrintWords Go.Proofs.Ytobcakjlfdejjaa.PWatchTells Go.Proofs.Ytobcakjlfdejjaa.PWatchTellsR

theorem kR (w : World) (x : RowT) : k39.K w (spR x) (rowC x) := k39_mk w (spR x)
theorem kC (w : World) (x : Chg) : k43.K w (spC x) (chgC x) := k43_mk w (spC x)
def spT' (x : SpT) : List Value := [.string x.f0, .string x.f1, .string x.f2]
theorem mT (w : World) (base : Nat) (ok : Nat → Prop) (x : SpT) (cs : List Value) : k37.M w base ok x cs ↔ cs = spT' x := ⟨fun h => k37_openM h, fun h => by rw [h]; exact k37_mkM w base ok x⟩
theorem own_T {w : World} {base : Nat} {ok : Nat → Prop} {v : Value} {l : List Tup} (h : Kd.R k37 37 w base ok v (l.map spT)) : OwnS tupC 3 w 37 v l ∧ ∀ k, v.ownBlock = some k → base ≤ k :=
  own_of_R (by rfl) mT (fun x => by rfl) (fun x => by rfl) h
theorem own_cap {α : Type} {f : α → List Value} {c : Nat} {w : World} {E : TypeId} {v : Value} {l : List α} (h : OwnS f c w E v l) : ∃ ao cap, v = .slice ao l.length cap ∧ l.length ≤ cap := by
  rcases h.form with ⟨rfl, rfl⟩ | ⟨g, cap, rfl, h1, _⟩
  · exact ⟨none, 0, rfl, Nat.le_refl _⟩
  · exact ⟨_, cap, rfl, h1⟩
theorem same_any {w : World} {E : TypeId} {v u : Value} {a b : List Chg} (ha : OwnS chgC 5 w E v a) {base : Nat} {ok : Nat → Prop} (hb : Kd.R k59 59 w base ok u (b.map spD)) (hl : a.length < 2199023255552) :
    Calls Try.prog 9 #[v, u] w fun e w' => e = .returned (.bool (decide (a = b))) ∧ Below w.heap.size w w' := by
  obtain ⟨ao, cp, rfl, hcp⟩ := own_cap ha
  obtain ⟨A, cap, rfl, hc, hC⟩ := Kd.R_reads hb
  have h1 : Kd.C k43 w ao (a.map spC).length (a.map spC) := C_of_read (by rfl) kC chgC_len (ha.read chgC_len)
  have h := porterlaw22_same.calls (a.length + 1) ao cp (a.map spC) A cap (b.map spD) (decide (a = b)) w h1 (by rw [List.length_map]; exact hcp) hC hc (same_f a b hl (Nat.lt_succ_self _))
  rw [List.length_map (f := spC)] at h
  exact h
theorem changes2_any {w : World} {ao : Option Addr} {n cap : Nat} {rows : List RowT} (hr : ReadS rowC 5 w (.slice ao n cap) rows) (hc : n ≤ cap) (hl : 2 * rows.length + 2 < 2199023255552) (fr up : Int) :
    Calls Try.prog 11 #[.slice ao n cap, .int .i64 fr, .int .i64 up] w fun e w' => ∃ v l, e = .returned v ∧ Kd.R k59 59 w' w.heap.size (fun _ => True) v (l.map spD) ∧ Stab.Sorted (ltOf ccmp) l ∧ Stab.Stab (ltOf ccmp) (outL fr up rows) l ∧ Below w.heap.size w w' := by
  obtain ⟨ao', cap', h1, h2⟩ := hr.form
  simp only [Value.slice.injEq] at h1
  obtain ⟨rfl, rfl, rfl⟩ := h1
  obtain ⟨r, e, s1, s2⟩ := changes_f rows fr up hl (Nat.lt_succ_self _)
  have hC : Kd.C k39 w ao (rows.map spR).length (rows.map spR) := C_of_read (by rfl) kR rowC_len' hr
  have h := porterref22_Changes.calls _ ao cap (rows.map spR) fr up (r.map spD) w hC (by rw [List.length_map]; exact hc) e
  rw [List.length_map (f := spR)] at h
  refine h.mono ?_
  rintro e w' ⟨v, rfl, h1, h2⟩
  exact ⟨v, r, rfl, h1, s1, s2, h2⟩
theorem at2_any {w : World} {ao : Option Addr} {n cap : Nat} {rows : List RowT} (hr : ReadS rowC 5 w (.slice ao n cap) rows) (hc : n ≤ cap) (hl : 2 * rows.length + 2 < 2199023255552) (wm rev : Int) :
    Calls Try.prog 14 #[.agg #[.slice ao n cap, .int .i64 wm], .int .i64 rev] w fun e w' => ∃ v, e = .returned v ∧ OwnS tupC 3 w' 37 v (atL rows rev) ∧ Below w.heap.size w w' := by
  obtain ⟨ao', cap', h1, h2⟩ := hr.form
  simp only [Value.slice.injEq] at h1
  obtain ⟨rfl, rfl, rfl⟩ := h1
  have hC : Kd.C k39 w ao (rows.map spR).length (rows.map spR) := C_of_read (by rfl) kR rowC_len' hr
  have h := porterref07_At.calls _ ao cap (rows.map spR) wm rev ((atL rows rev).map spT) w hC (by rw [List.length_map]; exact hc) (at_f rows rev wm (by omega) (Nat.lt_succ_self _))
  rw [List.length_map (f := spR)] at h
  refine h.mono ?_
  rintro e w' ⟨v, rfl, h1, h2⟩
  exact ⟨v, rfl, (own_T h1).1, h2⟩

theorem outL_small (rows : List RowT) (fr up : Int) : (outL fr up rows).length ≤ 2 * rows.length := by
  unfold outL
  induction rows with
  | nil => simp
  | cons r rows ih =>
    rw [List.flatMap_cons, List.length_append, List.length_cons]
    have h1 : (rowAdd fr up r).length ≤ 2 := by
      unfold rowAdd
      have h2 := addL_length fr up r.2.1 false r.1
      have h3 := addL_length fr up r.2.2 true r.1
      split
      · simp
      · rw [List.length_append]
        split
        · omega
        · simp; omega
    omega
set_option maxRecDepth 100000 in
set_option maxHeartbeats 4000000 in
theorem row {W : World} (v : Value) (rows : List RowT) (h : SliceIs 5 (fun _ cs x => cs = rowC x) W v rows) (hz : rows.length ≤ 1048576 ∧ CapOk v) (fr up : Int) :
    Calls Try.prog 3 #[v, .int .i64 fr, .int .i64 up] W fun e w' => e = .returned (.bool true) ∧ Below W.heap.size W w' := by
  have h' : ReadS rowC 5 W v rows := h
  obtain ⟨hn, hcap⟩ := hz
  have hout := outL_small rows fr up
  obtain ⟨ao, cap, rfl, hlen⟩ := h'.form
  have hc := hcap _ _ _ rfl
  obtain ⟨n, hn'⟩ : ∃ n, rows.length = n := ⟨_, rfl⟩
  have hr0 := h'
  rw [hn'] at h' hc ⊢
  have HH := Lib.hid (And.intro h' (And.intro hn (And.intro hout hc)))
  clear h h' hn hout hlen hn' hcap hc hr0
  go_enter Try.func3, Try.ntmps3
  go_wp2_with fail
  refine (awake_any W).mono ?_
  rintro e w1 ⟨rfl, hb1⟩
  have H1 := Lib.hid (And.intro hb1 (HH.out.1.mod (by decide) rowC_len' (Mod.of_below hb1 (fun _ => False)) (fun _ _ h => h)))
  clear hb1
  go_wp2_with fail
  refine (changes_any H1.out.2 fr up (by have := HH.out; omega)).mono ?_
  rintro e w2 ⟨v2, l2, rfl, hso2, hst2, hown2, hb2, _⟩
  have hlen2 := (stab_perm chgSwo hst2).length_eq
  have H2 := Lib.hid (And.intro (H1.out.1.trans (hb2.mono H1.out.1.size)) (And.intro (H1.out.2.mod (by decide) rowC_len' (Mod.of_below hb2 (fun _ => False)) (fun _ _ h => h)) (And.intro hso2 (And.intro hst2 (And.intro hown2 hlen2)))))
  clear hb2 hso2 hst2 hown2 hlen2
  go_wp2_with fail
  refine (changes2_any H2.out.2.1 HH.out.2.2.2 (by have := HH.out; omega) fr up).mono ?_
  rintro e w3 ⟨v3, l3, rfl, hR3, hso3, hst3, hb3⟩
  have he : l2 = l3 := Stab.uniq chgSwo l2 l3 H2.out.2.2.1 hso3 (H2.out.2.2.2.1.symm.trans hst3)
  subst he
  have H3 := Lib.hid (And.intro (H2.out.1.trans (hb3.mono H2.out.1.size)) (And.intro (H2.out.2.1.mod (by decide) rowC_len' (Mod.of_below hb3 (fun _ => False)) (fun _ _ h => h)) (And.intro hR3 (And.intro (H2.out.2.2.2.2.1.mod (S := fun _ => False) (Mod.of_below hb3 (fun _ => False)) (fun _ _ h => h)) H2.out.2.2.2.2.2))))
  clear hb3 hR3 hso3 hst3
  go_wp2_with fail
  refine (same_any H3.out.2.2.2.1 H3.out.2.2.1 (by have := HH.out; have := H3.out.2.2.2.2; omega)).mono ?_
  rintro e w4 ⟨rfl, hb4⟩
  rw [decide_eq_true (rfl : l2 = l2)]
  have H4 := Lib.hid (And.intro (H3.out.1.trans (hb4.mono H3.out.1.size)) (H3.out.2.1.mod (by decide) rowC_len' (Mod.of_below hb4 (fun _ => False)) (fun _ _ h => h)))
  clear hb4
  go_wp2_with fail
  refine (at_any H4.out.2 up (by have := HH.out; omega)).mono ?_
  rintro e w5 ⟨v5, rfl, hown5, hb5, _⟩
  have H5 := Lib.hid (And.intro (H4.out.1.trans (hb5.mono H4.out.1.size)) (And.intro (H4.out.2.mod (by decide) rowC_len' (Mod.of_below hb5 (fun _ => False)) (fun _ _ h => h)) hown5))
  clear hb5 hown5
  go_wp2_with fail
  refine (at2_any H5.out.2.1 HH.out.2.2.2 (by have := HH.out; omega) 0 up).mono ?_
  rintro e w6 ⟨v6, rfl, hown6, hb6⟩
  have H6 := Lib.hid (And.intro (H5.out.1.trans (hb6.mono H5.out.1.size)) (And.intro (H5.out.2.2.mod (S := fun _ => False) (Mod.of_below hb6 (fun _ => False)) (fun _ _ h => h)) hown6))
  clear hb6 hown6
  go_wp2_with fail
  refine (tuples_any (H6.out.2.1.read tupC_len) (H6.out.2.2.read tupC_len)).mono ?_
  rintro e w7 ⟨rfl, hm7⟩
  rw [decide_eq_true (rfl : atL rows up = atL rows up)]
  have H7 := Lib.hid (H6.out.1.trans ((hm7.to_below (Nat.le_refl _) (fun _ h => h.elim)).mono H6.out.1.size))
  clear hm7
  go_wp2
  go_ret
  exact ⟨rfl, H7.out⟩
end Go.Proofs.Ytobcakjlfdejjaa.WatchTells
end
section
set_option linter.unusedVariables false
set_option linter.unusedSimpArgs false
namespace Go.Proofs.Ytobcakjlfdejjaa.watchTells
open Go.ChangeShapes Go.WideShapes Go.ChangeAt Go.RowKit
open Go.ChangeMaps (open_string shut_string)

theorem own : ownKnob Try.prog.godebug = none := by kernel_rfl
theorem laidOut : laidOutB Try.prog = true := by kernel_rfl

set_option maxRecDepth 100000 in
theorem lifted (os : Os) (started : os.Started) (H : Type) (enc : TypeId × Value → H) (F : Stop.Interp) :
    ReturnsInHanded {} Try.checked os 3 .any ((Rows.OpenSpec.upto Rows.watchTellsSpec).pre6 enc Try.prog Try.f3 Rows.watchTellsUptoRow.domain false) (((Rows.OpenSpec.upto Rows.watchTellsSpec).at F).post enc Try.prog Try.f3 false true false false) := by
  refine returnsInHanded_of_cond (C := Try.checked) (s := Rows.OpenSpec.upto Rows.watchTellsSpec) (k := Rows.uptoSmall) rfl own started (by kernel_rfl) Try.func3
    (OpenSpec.witness (enc := enc) (C := Try.checked) (s := Rows.OpenSpec.upto Rows.watchTellsSpec) (k := Rows.uptoSmall) rfl false ⟨#[], #[.slice none 0 0, .int .i64 0, .int .i64 0], []⟩ 8 (by kernel_rfl) (by kernel_rfl) (by kernel_rfl)
      (x := ([.nil, .lit (.int .i64 0), .lit (.int .i64 0)], [], [])) (by kernel_rfl) rfl (by kernel_rfl)) ?_
  intro W base args ds gs before hval0 hW _ hk _
  have hval : ∀ (j : Nat) t v, Try.f3.params[j]? = some t → args[j]? = some v → Value.okWide Try.prog W .any base t v := hval0
  have hW' := hW
  obtain ⟨p, q, hA0, hV, rfl, hfz, hnd⟩ := hW
  have hA : DataW.TrodAll enc Try.prog W 0 (fun _ => true) true Try.f3.params.toList args.toList ds p := hA0
  rw [Try.params3] at hA hval
  obtain ⟨v0, vs0, d0, ds0, p0, q0, hargs, rfl, rfl, h0, r0⟩ := trodAll_cons hA
  obtain ⟨v1, vs1, d1, ds1, p1, q1, rfl, rfl, rfl, h1, r1⟩ := trodAll_cons r0
  obtain ⟨v2, vs2, d2, ds2, p2, q2, rfl, rfl, rfl, h2, r2⟩ := trodAll_cons r1
  obtain ⟨rfl, rfl, rfl⟩ := trodAll_nil r2
  obtain rfl : args = #[v0, v1, v2] := by cases args; simp_all
  obtain ⟨rfl, rfl⟩ := trodVars_none hV
  obtain ⟨b0, len0, cap0, rfl⟩ := okWide_slice Try.underlying22 (hval 0 22 v0 rfl rfl)
  have k0 := h0
  have lt0 : ∀ x ∈ p0, x.block < W.heap.size := by obtain ⟨m, hm⟩ := k0; exact DataW.trod_lt m _ _ _ hm
  obtain ⟨fuel0, hf0⟩ := h0
  obtain ⟨e0, a0, hcs0, s0⟩ := Go.Proofs.Ytobcakjlfdejjaa.Watch.open_rows hf0
  simp only [Value.cells, List.cons.injEq, and_true] at hcs0
  subst hcs0
  have z0 := Go.Proofs.Ytobcakjlfdejjaa.Watch.rows_bulk hk (by simp) k0 s0
  obtain ⟨a1, rfl, hd1, rfl, w1⟩ := open_int Try.underlying2 (hval 1 2 v1 rfl rfl) h1
  obtain ⟨a2, rfl, hd2, rfl, w2⟩ := open_int Try.underlying2 (hval 2 2 v2 rfl rfl) h2
  subst hd1
  subst hd2
  clear hA0 hval0
  refine (Go.Proofs.Ytobcakjlfdejjaa.WatchTells.row _ a0 s0 z0 a1 a2).mono fun e W' ⟨he, bel⟩ => ?_
  subst he
  exact ⟨_, rfl, _, _, _, [], _, [], hW', trodAll_mk1 (shut_bool Try.underlying4 _), (trodAll_cons_mk (Below.trod laidOut (by kernel_rfl) (of_decide_eq_true (by kernel_rfl)) k0 bel lt0) (trodAll_cons_mk (shut_int Try.underlying2 w1) (trodAll_cons_mk (shut_int Try.underlying2 w2) trodAll_mk0))), rfl, bel.frame _, fun h => by cases h⟩

theorem over : Rows.watchTellsUptoRow.holds Try.pinned (Rows.OpenSpec.upto Rows.watchTellsSpec) :=
  OpenClaim.holds_of_cond 3 Try.f3 rfl rfl rfl rfl rfl rfl rfl ⟨rfl, rfl, rfl, rfl, rfl⟩ rfl rfl rfl rfl rfl (by kernel_rfl) Try.func3 (by kernel_rfl)
    (of_decide_eq_true (by kernel_rfl)) (by unfold Func.isWrapper; first | (rw [if_pos (by decide +kernel)]; kernel_rfl) | (rw [if_neg (by decide +kernel)]; exact ⟨rfl, rfl⟩))
    (fun os started H enc _ F => lifted os started H enc F)

theorem proved : Rows.WatchTellsUptoSaid := over
#print axioms proved
end Go.Proofs.Ytobcakjlfdejjaa.watchTells
end
