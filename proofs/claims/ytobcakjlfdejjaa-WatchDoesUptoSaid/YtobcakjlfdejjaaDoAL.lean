/- The law WatchDoes of the watch, where what came in is of bulk at most 1048576: raw changes done to raw tuples, the rows that they make, and what leads from tuples to others, are the document's. -/
import Derived.Test.YtobcakjlfdejjaaRows
import Derived.WalkKit
import Derived.ProofKit
import Derived.OpenShut
import Derived.ShutString
import Derived.JoinedCond
import Derived.ChangeOld
import Derived.Below
import Derived.SizedLaws
import Derived.Test.YtobcakjlfdejjaaDoA
import Derived.Test.YtobcakjlfdejjaaDoB
import Derived.Test.YtobcakjlfdejjaaDoC
import Derived.Test.YtobcakjlfdejjaaDoD
import Derived.Test.YtobcakjlfdejjaaDoE
import Derived.Test.YtobcakjlfdejjaaDoF
import Derived.Test.YtobcakjlfdejjaaDoG
import Derived.Test.YtobcakjlfdejjaaDoH
import Derived.Test.YtobcakjlfdejjaaDoI
import Derived.Test.YtobcakjlfdejjaaDoJ
import Derived.Test.YtobcakjlfdejjaaDoK
import Derived.Test.YtobcakjlfdejjaaDoL
import Derived.Test.YtobcakjlfdejjaaDoM
import Derived.Test.YtobcakjlfdejjaaDoN
import Derived.Test.YtobcakjlfdejjaaDoO
import Derived.Test.YtobcakjlfdejjaaDoP
import Derived.Test.YtobcakjlfdejjaaDoQ
import Derived.Test.YtobcakjlfdejjaaDoR
import Derived.Test.YtobcakjlfdejjaaDoS
import Derived.Test.YtobcakjlfdejjaaDoT
import Derived.Test.YtobcakjlfdejjaaDoU
import Derived.Test.YtobcakjlfdejjaaDoV
import Derived.Test.YtobcakjlfdejjaaDoW
import Derived.Test.YtobcakjlfdejjaaDoX
import Derived.Test.YtobcakjlfdejjaaDoY
import Derived.Test.YtobcakjlfdejjaaDoZ
import Derived.Test.YtobcakjlfdejjaaDoAA
import Derived.Test.YtobcakjlfdejjaaDoAB
import Derived.Test.YtobcakjlfdejjaaDoAC
import Derived.Test.YtobcakjlfdejjaaDoAD
import Derived.Test.YtobcakjlfdejjaaDoAE
import Derived.Test.YtobcakjlfdejjaaDoAF
import Derived.Test.YtobcakjlfdejjaaDoAG
import Derived.Test.YtobcakjlfdejjaaDoAH
import Derived.Test.YtobcakjlfdejjaaDoAI
import Derived.Test.YtobcakjlfdejjaaDoAJ
import Derived.Test.YtobcakjlfdejjaaDoAK
section
set_option linter.unusedVariables false
set_option linter.unusedSimpArgs false
namespace Go.Proofs.Ytobcakjlfdejjaa.WatchDoes
open Go.RowKit Go.Por Go.Sort Go.Proofs.Ytobcakjlfdejjaa.Watch Go.Proofs.YtobcakjlfdejjaaW.PrintWords Go.Proofs.Ytobcakjlfdejjaa.PWatchDoes Go.Proofs.Ytobcakjlfdejjaa.PWatchDoesR

theorem kT (w : World) (x : Tup) : k37.K w (spT x) (tupC x) := k37_mk w (spT x)
theorem kC (w : World) (x : Chg) : k43.K w (spC x) (chgC x) := k43_mk w (spC x)
def spT' (x : SpT) : List Value := [.string x.f0, .string x.f1, .string x.f2]
def spR' (x : SpR) : List Value := [.string x.f0.f0, .string x.f0.f1, .string x.f0.f2, .int .i64 x.f1, .int .i64 x.f2]
def spM' (x : SpM) : List Value := [.bool x.f0, .string x.f1.f0, .string x.f1.f1, .string x.f1.f2]
theorem mT (w : World) (base : Nat) (ok : Nat → Prop) (x : SpT) (cs : List Value) : k37.M w base ok x cs ↔ cs = spT' x := ⟨fun h => k37_openM h, fun h => by rw [h]; exact k37_mkM w base ok x⟩
theorem mR (w : World) (base : Nat) (ok : Nat → Prop) (x : SpR) (cs : List Value) : k39.M w base ok x cs ↔ cs = spR' x := ⟨fun h => k39_openM h, fun h => by rw [h]; exact k39_mkM w base ok x⟩
theorem mM (w : World) (base : Nat) (ok : Nat → Prop) (x : SpM) (cs : List Value) : k41.M w base ok x cs ↔ cs = spM' x := ⟨fun h => k41_openM h, fun h => by rw [h]; exact k41_mkM w base ok x⟩
theorem own_T {w : World} {base : Nat} {ok : Nat → Prop} {v : Value} {l : List Tup} (h : Kd.R k37 37 w base ok v (l.map spT)) : OwnS tupC 3 w 37 v l :=
  (own_of_R (by rfl) mT (fun x => by rfl) (fun x => by rfl) h).1
theorem own_R {w : World} {base : Nat} {ok : Nat → Prop} {v : Value} {l : List RowT} (h : Kd.R k39 39 w base ok v (l.map spR)) : OwnS rowC 5 w 39 v l :=
  (own_of_R (by rfl) mR (fun x => by rfl) (fun x => by rfl) h).1
theorem own_M {w : World} {base : Nat} {ok : Nat → Prop} {v : Value} {l : List Mut} (h : Kd.R k41 41 w base ok v (l.map spM)) : OwnS mutC 4 w 41 v l :=
  (own_of_R (by rfl) mM (fun x => by rfl) (fun x => by rfl) h).1
theorem readT {w : World} {ao : Option Addr} {n cap : Nat} {l : List Tup} (h : ReadS tupC 3 w (.slice ao n cap) l) : Kd.C k37 w ao n (l.map spT) ∧ n = (l.map spT).length := by
  obtain ⟨ao', cap', h1, h2⟩ := h.form
  simp only [Value.slice.injEq] at h1
  obtain ⟨rfl, rfl, rfl⟩ := h1
  have h3 : Kd.C k37 w ao (l.map spT).length (l.map spT) := C_of_read (by rfl) kT tupC_len h
  rw [List.length_map] at h3 ⊢
  exact ⟨h3, rfl⟩
theorem readC {w : World} {ao : Option Addr} {n cap : Nat} {l : List Chg} (h : ReadS chgC 5 w (.slice ao n cap) l) : Kd.C k43 w ao n (l.map spC) ∧ n = (l.map spC).length := by
  obtain ⟨ao', cap', h1, h2⟩ := h.form
  simp only [Value.slice.injEq] at h1
  obtain ⟨rfl, rfl, rfl⟩ := h1
  have h3 : Kd.C k43 w ao (l.map spC).length (l.map spC) := C_of_read (by rfl) kC chgC_len h
  rw [List.length_map] at h3 ⊢
  exact ⟨h3, rfl⟩
theorem plain_any {w : World} {ao : Option Addr} {n cap : Nat} {l : List Chg} (h : ReadS chgC 5 w (.slice ao n cap) l) (hc : n ≤ cap) (hl : l.length < 2199023255552) :
    Calls Try.prog 19 #[.slice ao n cap] w fun e w' => ∃ A n' c, e = .returned (.slice A n' c) ∧ Kd.C k59 w' A n' (l.map spD) ∧ n' = (l.map spD).length ∧ n' ≤ c ∧ Below w.heap.size w w' := by
  obtain ⟨h1, h2⟩ := readC h
  subst h2
  refine (porterlaw22_plain.calls _ ao cap (l.map spC) (l.map spD) w h1 hc (plain_f l hl (Nat.lt_succ_self _))).mono ?_
  rintro e w' ⟨v, rfl, hR, hb⟩
  obtain ⟨A, c, rfl, hle, hC⟩ := Kd.R_reads hR
  exact ⟨A, _, c, rfl, hC, rfl, hle, hb⟩
theorem play2_any {w : World} {ao A : Option Addr} {n cap m c : Nat} {ts : List Tup} {cs : List Chg} (h : ReadS tupC 3 w (.slice ao n cap) ts) (hc : n ≤ cap) (hC : Kd.C k59 w A m (cs.map spD)) (hm : m = (cs.map spD).length) (hmc : m ≤ c) (hb : ts.length + cs.length + 1 < 2932031007402) :
    Calls Try.prog 20 #[.slice ao n cap, .slice A m c] w fun e w' => ∃ v, e = .returned v ∧ OwnS tupC 3 w' 37 v (playL ts cs) ∧ Below w.heap.size w w' := by
  obtain ⟨h1, h2⟩ := readT h
  subst h2 hm
  obtain ⟨k, e⟩ := play_f ts cs hb
  refine (porterref22_Play.calls k ao cap (ts.map spT) A c (cs.map spD) _ w h1 hc hC hmc e).mono ?_
  rintro e w' ⟨v, rfl, hR, hb⟩
  exact ⟨v, rfl, own_T hR, hb⟩
theorem rows2_any {w : World} {A : Option Addr} {m c : Nat} {cs : List Chg} (hC : Kd.C k59 w A m (cs.map spD)) (hm : m = (cs.map spD).length) (hmc : m ≤ c) (hb : cs.length + 1 < 2199023255552) :
    Calls Try.prog 21 #[.slice A m c] w fun e w' => ∃ v R, e = .returned v ∧ OwnS rowC 5 w' 39 v R ∧ Stab.Sorted (ltOf rcmp) R ∧ Stab.Stab (ltOf rcmp) (rowsF cs) R ∧ Below w.heap.size w w' := by
  subst hm
  obtain ⟨k, R, e, h1, h2⟩ := rows_f cs hb
  refine (porterref22_Rows.calls k A c (cs.map spD) _ w hC hmc e).mono ?_
  rintro e w' ⟨v, rfl, hR, hb⟩
  exact ⟨v, R, rfl, own_R hR, h1, h2, hb⟩
theorem net2_any {w : World} {ao bo : Option Addr} {n cap m c : Nat} {a b : List Tup} (h : ReadS tupC 3 w (.slice ao n cap) a) (hc : n ≤ cap) (h' : ReadS tupC 3 w (.slice bo m c) b) (hc' : m ≤ c) (hb : a.length + b.length + 1 < 2513169434916) {l' : List Mut} (hp : l'.Perm (netU a b)) (hs : Stab.Sorted (ltOf mcmp) l') :
    Calls Try.prog 24 #[.slice ao n cap, .slice bo m c] w fun e w' => ∃ v, e = .returned v ∧ OwnS mutC 4 w' 41 v (compactL l') ∧ Below w.heap.size w w' := by
  obtain ⟨h1, h2⟩ := readT h
  obtain ⟨h3, h4⟩ := readT h'
  subst h2 h4
  obtain ⟨k, e⟩ := net_f a b hb hp hs
  refine (porterref22_Net.calls k ao cap (a.map spT) bo c (b.map spT) _ w h1 hc h3 hc' e).mono ?_
  rintro e w' ⟨v, rfl, hR, hb⟩
  exact ⟨v, rfl, own_M hR, hb⟩
theorem netU_len (a b : List Tup) : (netU a b).length ≤ a.length + b.length := by
  have h : ∀ d l m, (outOf d l m).length ≤ l.length := fun d l m => by
    unfold outOf
    rw [List.length_map]
    exact List.length_filter_le _ _
  unfold netU
  rw [List.length_append]
  have h1 := h true a b
  have h2 := h false b a
  omega

/-- What came in, behind some calls. -/
structure In (W w : World) (va vb vl : Value) (a b : List Tup) (l : List Chg) : Prop where
  ra : ReadS tupC 3 w va a
  rb : ReadS tupC 3 w vb b
  rl : ReadS chgC 5 w vl l
  bel : Below W.heap.size W w
theorem In.next {W w w' : World} {va vb vl : Value} {a b : List Tup} {l : List Chg} (h : In W w va vb vl a b l) (hb : Below w.heap.size w w') : In W w' va vb vl a b l :=
  ⟨h.ra.mod (by decide) tupC_len (Mod.of_below hb (fun _ => False)) (fun _ _ h => h), h.rb.mod (by decide) tupC_len (Mod.of_below hb (fun _ => False)) (fun _ _ h => h), h.rl.mod (by decide) chgC_len (Mod.of_below hb (fun _ => False)) (fun _ _ h => h), h.bel.trans (hb.mono h.bel.size)⟩
theorem OwnS.next {α : Type} {f : α → List Value} {c : Nat} {w w' : World} {E : TypeId} {v : Value} {l : List α} (h : OwnS f c w E v l) (hb : Below w.heap.size w w') : OwnS f c w' E v l := h.mod (S := fun _ => False) (Mod.of_below hb (fun _ => False)) (fun _ _ h => h)

set_option maxRecDepth 100000 in
set_option maxHeartbeats 4000000 in
theorem row {W : World} (va : Value) (a : List Tup) (h0 : SliceIs 3 (fun _ cs x => cs = tupC x) W va a) (hz0 : a.length ≤ 1048576 ∧ CapOk va) (vb : Value) (b : List Tup) (h1 : SliceIs 3 (fun _ cs x => cs = tupC x) W vb b) (hz1 : b.length ≤ 1048576 ∧ CapOk vb) (vl : Value) (l : List Chg) (h2 : SliceIs 5 (fun _ cs x => cs = chgC x) W vl l) (hz2 : l.length ≤ 1048576 ∧ CapOk vl) :
    Calls Try.prog 6 #[va, vb, vl] W fun e w' => e = .returned (.bool true) ∧ Below W.heap.size W w' := by
  have ra : ReadS tupC 3 W va a := h0
  have rb : ReadS tupC 3 W vb b := h1
  have rl : ReadS chgC 5 W vl l := h2
  obtain ⟨hn0, hk0⟩ := hz0
  obtain ⟨hn1, hk1⟩ := hz1
  obtain ⟨hn2, hk2⟩ := hz2
  obtain ⟨ao, ca, rfl, _⟩ := ra.form
  obtain ⟨bo, cb, rfl, _⟩ := rb.form
  obtain ⟨lo, cl, rfl, _⟩ := rl.form
  have k0 := hk0 _ _ _ rfl
  have k1 := hk1 _ _ _ rfl
  have k2 := hk2 _ _ _ rfl
  obtain ⟨na, hna⟩ : ∃ n, a.length = n := ⟨_, rfl⟩
  obtain ⟨nb, hnb⟩ : ∃ n, b.length = n := ⟨_, rfl⟩
  obtain ⟨nl, hnl⟩ : ∃ n, l.length = n := ⟨_, rfl⟩
  rw [hna] at ra k0 ⊢
  rw [hnb] at rb k1 ⊢
  rw [hnl] at rl k2 ⊢
  have HI : In W W (.slice ao na ca) (.slice bo nb cb) (.slice lo nl cl) a b l := ⟨ra, rb, rl, Below.refl _ _⟩
  have HH := Lib.hid (And.intro HI (And.intro hn0 (And.intro hn1 (And.intro hn2 (And.intro k0 (And.intro k1 k2))))))
  clear h0 h1 h2 ra rb rl hn0 hn1 hn2 hk0 hk1 hk2 k0 k1 k2 hna hnb hnl HI
  go_enter Try.func6, Try.ntmps6
  go_wp2_with fail
  refine (awake_any W).mono ?_
  rintro e w1 ⟨rfl, hb1⟩
  have H1 := Lib.hid (HH.out.1.next hb1)
  clear hb1
  go_wp2_with fail
  refine (play_any H1.out.ra H1.out.rl (by have := HH.out; omega)).mono ?_
  rintro e w2 ⟨v2, rfl, hown2, hb2, _⟩
  have H2 := Lib.hid (And.intro (H1.out.next hb2) hown2)
  clear hb2 hown2
  go_wp2_with fail
  refine (plain_any H2.out.1.rl HH.out.2.2.2.2.2.2 (by have := HH.out; omega)).mono ?_
  rintro e w3 ⟨A3, n3, c3, rfl, hC3, hn3, hc3, hb3⟩
  have H3 := Lib.hid (And.intro (H2.out.1.next hb3) (And.intro (OwnS.next H2.out.2 hb3) (And.intro hC3 (And.intro hn3 hc3))))
  clear hb3 hC3 hn3 hc3
  go_wp2_with fail
  refine (play2_any H3.out.1.ra HH.out.2.2.2.2.1 H3.out.2.2.1 H3.out.2.2.2.1 H3.out.2.2.2.2 (by have := HH.out; omega)).mono ?_
  rintro e w4 ⟨v4, rfl, hown4, hb4⟩
  have H4 := Lib.hid (And.intro (H3.out.1.next hb4) (And.intro (OwnS.next H3.out.2.1 hb4) hown4))
  clear hb4 hown4
  go_wp2_with fail
  refine (tuples_any (H4.out.2.1.read tupC_len) (H4.out.2.2.read tupC_len)).mono ?_
  rintro e w5 ⟨rfl, hm5⟩
  rw [decide_eq_true (rfl : playL a l = playL a l)]
  have H5 := Lib.hid (H4.out.1.next (hm5.to_below (Nat.le_refl _) (fun _ h => h.elim)))
  clear hm5
  go_wp2_with fail
  refine (rows_any H5.out.rl (by have := HH.out; omega)).mono ?_
  rintro e w6 ⟨v6, l6, rfl, hso6, hst6, hown6, hb6, _⟩
  have H6 := Lib.hid (And.intro (H5.out.next hb6) (And.intro hown6 (And.intro hso6 hst6)))
  clear hb6 hown6 hso6 hst6
  go_wp2_with fail
  refine (plain_any H6.out.1.rl HH.out.2.2.2.2.2.2 (by have := HH.out; omega)).mono ?_
  rintro e w7 ⟨A7, n7, c7, rfl, hC7, hn7, hc7, hb7⟩
  have H7 := Lib.hid (And.intro (H6.out.1.next hb7) (And.intro (OwnS.next H6.out.2.1 hb7) (And.intro hC7 (And.intro hn7 hc7))))
  clear hb7 hC7 hn7 hc7
  go_wp2_with fail
  refine (rows2_any H7.out.2.2.1 H7.out.2.2.2.1 H7.out.2.2.2.2 (by have := HH.out; omega)).mono ?_
  rintro e w8 ⟨v8, R8, rfl, hown8, hso8, hst8, hb8⟩
  have he : R8 = l6 := Stab.uniq rowSwo R8 l6 hso8 H6.out.2.2.1 (hst8.symm.trans H6.out.2.2.2)
  subst he
  have H8 := Lib.hid (And.intro (H7.out.1.next hb8) (And.intro (OwnS.next H7.out.2.1 hb8) hown8))
  clear hb8 hown8 hso8 hst8
  go_wp2_with fail
  refine (same07_any (H8.out.2.1.read rowC_len') (H8.out.2.2.read rowC_len')).mono ?_
  rintro e w9 ⟨rfl, hm9⟩
  rw [decide_eq_true (rfl : R8 = R8)]
  have H9 := Lib.hid (H8.out.1.next (hm9.to_below (Nat.le_refl _) (fun _ h => h.elim)))
  clear hm9
  go_wp2_with fail
  refine (net_any H9.out.ra H9.out.rb (by have := HH.out; have := netU_len a b; omega)).mono ?_
  rintro e w10 ⟨v10, l10, rfl, hp10, hs10, hown10, hb10, _⟩
  have H10 := Lib.hid (And.intro (H9.out.next hb10) (And.intro hown10 (And.intro hp10 hs10)))
  clear hb10 hown10 hp10 hs10
  go_wp2_with fail
  refine (net2_any H10.out.1.ra HH.out.2.2.2.2.1 H10.out.1.rb HH.out.2.2.2.2.2.1 (by have := HH.out; omega) H10.out.2.2.1 H10.out.2.2.2).mono ?_
  rintro e w11 ⟨v11, rfl, hown11, hb11⟩
  have H11 := Lib.hid (And.intro (H10.out.1.next hb11) (And.intro (OwnS.next H10.out.2.1 hb11) hown11))
  clear hb11 hown11
  go_wp2_with fail
  refine (mutations_any (H11.out.2.1.read mutC_len) (H11.out.2.2.read mutC_len)).mono ?_
  rintro e w12 ⟨rfl, hm12⟩
  rw [decide_eq_true (rfl : compactL l10 = compactL l10)]
  have H12 := Lib.hid (H11.out.1.next (hm12.to_below (Nat.le_refl _) (fun _ h => h.elim)))
  clear hm12
  go_wp2
  go_ret
  exact ⟨rfl, H12.out.bel⟩
end Go.Proofs.Ytobcakjlfdejjaa.WatchDoes
end
section
set_option linter.unusedVariables false
set_option linter.unusedSimpArgs false
namespace Go.Proofs.Ytobcakjlfdejjaa.watchDoes
open Go.ChangeShapes Go.WideShapes Go.ChangeAt Go.RowKit
open Go.ChangeMaps (open_string shut_string)

theorem own : ownKnob Try.prog.godebug = none := by kernel_rfl
theorem laidOut : laidOutB Try.prog = true := by kernel_rfl

set_option maxRecDepth 100000 in
theorem lifted (os : Os) (started : os.Started) (H : Type) (enc : TypeId × Value → H) (F : Stop.Interp) :
    ReturnsInHanded {} Try.checked os 6 .any ((Rows.OpenSpec.upto Rows.watchDoesSpec).pre6 enc Try.prog Try.f6 Rows.watchDoesUptoRow.domain false) (((Rows.OpenSpec.upto Rows.watchDoesSpec).at F).post enc Try.prog Try.f6 false true false false) := by
  refine returnsInHanded_of_cond (C := Try.checked) (s := Rows.OpenSpec.upto Rows.watchDoesSpec) (k := Rows.uptoSmall) rfl own started (by kernel_rfl) Try.func6
    (OpenSpec.witness (enc := enc) (C := Try.checked) (s := Rows.OpenSpec.upto Rows.watchDoesSpec) (k := Rows.uptoSmall) rfl false ⟨#[], #[.slice none 0 0, .slice none 0 0, .slice none 0 0], []⟩ 8 (by kernel_rfl) (by kernel_rfl) (by kernel_rfl)
      (x := ([.nil, .nil, .nil], [], [])) (by kernel_rfl) rfl (by kernel_rfl)) ?_
  intro W base args ds gs before hval0 hW _ hk _
  have hval : ∀ (j : Nat) t v, Try.f6.params[j]? = some t → args[j]? = some v → Value.okWide Try.prog W .any base t v := hval0
  have hW' := hW
  obtain ⟨p, q, hA0, hV, rfl, hfz, hnd⟩ := hW
  have hA : DataW.TrodAll enc Try.prog W 0 (fun _ => true) true Try.f6.params.toList args.toList ds p := hA0
  rw [Try.params6] at hA hval
  obtain ⟨v0, vs0, d0, ds0, p0, q0, hargs, rfl, rfl, h0, r0⟩ := trodAll_cons hA
  obtain ⟨v1, vs1, d1, ds1, p1, q1, rfl, rfl, rfl, h1, r1⟩ := trodAll_cons r0
  obtain ⟨v2, vs2, d2, ds2, p2, q2, rfl, rfl, rfl, h2, r2⟩ := trodAll_cons r1
  obtain ⟨rfl, rfl, rfl⟩ := trodAll_nil r2
  obtain rfl : args = #[v0, v1, v2] := by cases args; simp_all
  obtain ⟨rfl, rfl⟩ := trodVars_none hV
  obtain ⟨b0, len0, cap0, rfl⟩ := okWide_slice Try.underlying30 (hval 0 30 v0 rfl rfl)
  have k0 := h0
  have lt0 : ∀ x ∈ p0, x.block < W.heap.size := by obtain ⟨m, hm⟩ := k0; exact DataW.trod_lt m _ _ _ hm
  obtain ⟨fuel0, hf0⟩ := h0
  obtain ⟨e0, a0, hcs0, s0⟩ := Go.Proofs.Ytobcakjlfdejjaa.Watch.open_tups hf0
  simp only [Value.cells, List.cons.injEq, and_true] at hcs0
  subst hcs0
  have z0 := Go.Proofs.Ytobcakjlfdejjaa.Watch.tups_bulk hk (by simp) k0 s0
  obtain ⟨b1, len1, cap1, rfl⟩ := okWide_slice Try.underlying30 (hval 1 30 v1 rfl rfl)
  have k1 := h1
  have lt1 : ∀ x ∈ p1, x.block < W.heap.size := by obtain ⟨m, hm⟩ := k1; exact DataW.trod_lt m _ _ _ hm
  obtain ⟨fuel1, hf1⟩ := h1
  obtain ⟨e1, a1, hcs1, s1⟩ := Go.Proofs.Ytobcakjlfdejjaa.Watch.open_tups hf1
  simp only [Value.cells, List.cons.injEq, and_true] at hcs1
  subst hcs1
  have z1 := Go.Proofs.Ytobcakjlfdejjaa.Watch.tups_bulk hk (by simp) k1 s1
  obtain ⟨b2, len2, cap2, rfl⟩ := okWide_slice Try.underlying25 (hval 2 25 v2 rfl rfl)
  have k2 := h2
  have lt2 : ∀ x ∈ p2, x.block < W.heap.size := by obtain ⟨m, hm⟩ := k2; exact DataW.trod_lt m _ _ _ hm
  obtain ⟨fuel2, hf2⟩ := h2
  obtain ⟨e2, a2, hcs2, s2⟩ := Go.Proofs.Ytobcakjlfdejjaa.Watch.open_chgs hf2
  simp only [Value.cells, List.cons.injEq, and_true] at hcs2
  subst hcs2
  have z2 := Go.Proofs.Ytobcakjlfdejjaa.Watch.chgs_bulk hk (by simp) k2 s2
  clear hA0 hval0
  refine (Go.Proofs.Ytobcakjlfdejjaa.WatchDoes.row _ a0 s0 z0 _ a1 s1 z1 _ a2 s2 z2).mono fun e W' ⟨he, bel⟩ => ?_
  subst he
  exact ⟨_, rfl, _, _, _, [], _, [], hW', trodAll_mk1 (shut_bool Try.underlying4 _), (trodAll_cons_mk (Below.trod laidOut (by kernel_rfl) (of_decide_eq_true (by kernel_rfl)) k0 bel lt0) (trodAll_cons_mk (Below.trod laidOut (by kernel_rfl) (of_decide_eq_true (by kernel_rfl)) k1 bel lt1) (trodAll_cons_mk (Below.trod laidOut (by kernel_rfl) (of_decide_eq_true (by kernel_rfl)) k2 bel lt2) trodAll_mk0))), rfl, bel.frame _, fun h => by cases h⟩

theorem over : Rows.watchDoesUptoRow.holds Try.pinned (Rows.OpenSpec.upto Rows.watchDoesSpec) :=
  OpenClaim.holds_of_cond 6 Try.f6 rfl rfl rfl rfl rfl rfl rfl ⟨rfl, rfl, rfl, rfl, rfl⟩ rfl rfl rfl rfl rfl (by kernel_rfl) Try.func6 (by kernel_rfl)
    (of_decide_eq_true (by kernel_rfl)) (by unfold Func.isWrapper; first | (rw [if_pos (by decide +kernel)]; kernel_rfl) | (rw [if_neg (by decide +kernel)]; exact ⟨rfl, rfl⟩))
    (fun os started H enc _ F => lifted os started H enc F)

theorem proved : Rows.WatchDoesUptoSaid := over
#print axioms proved
end Go.Proofs.Ytobcakjlfdejjaa.watchDoes
end
