/- WatchSplits, where what came in is of bulk at most 1048576: changes up to a revision and behind it are all; they make th: part 27 of 29: what it leans on. -/
import Derived.Laws.OwnMore
import Derived.Deep.MidRow
import Derived.Test.YtojjnfhgldjgbaaGreatDoorSpA
import Derived.Test.YtojjnfhgldjgbaaGreatDoorSpB
import Derived.Test.YtojjnfhgldjgbaaGreatDoorSpC
import Derived.Test.YtojjnfhgldjgbaaGreatDoorSpD
import Derived.Test.YtojjnfhgldjgbaaGreatDoorSpE
import Derived.Test.YtojjnfhgldjgbaaGreatDoorSpF
import Derived.Test.YtojjnfhgldjgbaaGreatDoorSpG
import Derived.Test.YtojjnfhgldjgbaaGreatDoorSpH
import Derived.Test.YtojjnfhgldjgbaaGreatDoorSpI
import Derived.Test.YtojjnfhgldjgbaaGreatDoorSpJ
import Derived.Test.YtojjnfhgldjgbaaGreatDoorSpK
import Derived.Test.YtojjnfhgldjgbaaGreatDoorSpL
import Derived.Test.YtojjnfhgldjgbaaGreatDoorSpM
import Derived.Test.YtojjnfhgldjgbaaGreatDoorSpN
import Derived.Test.YtojjnfhgldjgbaaGreatDoorSpO
import Derived.Test.YtojjnfhgldjgbaaGreatDoorSpP
import Derived.Test.YtojjnfhgldjgbaaGreatDoorSpQ
import Derived.Test.YtojjnfhgldjgbaaGreatDoorSpR
import Derived.Test.YtojjnfhgldjgbaaGreatDoorSpS
import Derived.Test.YtojjnfhgldjgbaaGreatDoorSpT
import Derived.Test.YtojjnfhgldjgbaaGreatDoorSpU
import Derived.Test.YtojjnfhgldjgbaaGreatDoorSpV
import Derived.Test.YtojjnfhgldjgbaaGreatDoorSpW
import Derived.Test.YtojjnfhgldjgbaaGreatDoorSpX
import Derived.Test.YtojjnfhgldjgbaaGreatDoorSpY
import Derived.Test.YtojjnfhgldjgbaaGreatDoorSpZ
section
set_option linter.unusedVariables false
set_option linter.unusedSimpArgs false
namespace Go.Proofs.YtojjnfhgldjgbaaGreatDoor.Store
open Go.RowKit Go.Por Go.Sort Go.Proofs.YtojjnfhgldjgbaaGreatDoor.Watch Go.Proofs.YtojjnfhgldjgbaaGreatDoor.Back

structure RowsOk (rows : List RowT) : Prop where
  each : ∀ r ∈ rows, 1 ≤ r.2.1 ∧ r.2.1 ≤ maxRev ∧ (r.2.2 = 0 ∨ (r.2.1 < r.2.2 ∧ r.2.2 ≤ maxRev))
  chain : ∀ r ∈ rows, ∀ r' ∈ rows, r.1 = r'.1 → r.2.1 < r'.2.1 → r.2.2 ≠ 0 ∧ r.2.2 < r'.2.1
  strict : rows.Pairwise rlt
theorem chain_lt {l : List Span} (h : Chain l) {x y : Span} (hx : x ∈ l) (hy : y ∈ l) (hlt : x.1 < y.1) : x.2 ≠ 0 ∧ x.2 < y.1 := by
  have hn := h.next
  have he := h.each
  clear h
  induction l with
  | nil => cases hx
  | cons a l ih =>
    obtain ⟨h1, h2⟩ := List.pairwise_cons.1 hn
    rcases List.mem_cons.1 hx with ex | hx <;> rcases List.mem_cons.1 hy with ey | hy
    · rw [ex, ey] at hlt; omega
    · rw [ex]; exact h1 y hy
    · have k := h1 x hx
      rw [← ey] at k
      have := (he y (by rw [ey]; exact List.mem_cons_self)).2.2
      omega
    · exact ih hx hy h2 (fun z hz => he z (List.mem_cons_of_mem _ hz))
theorem RowsOk.of {sp : Sp} (h : Good sp) {l : List RowT} (p : l.Perm (flatA sp)) (s : l.Pairwise (fun x y => ¬ rlt y x)) : RowsOk l where
  each r hr := (h.chain r.1).each (r.2.1, r.2.2) ((mem_flat_get h).1 (p.mem_iff.1 hr))
  chain r hr r' hr' e hlt := by
    have h1 := (mem_flat_get h).1 (p.mem_iff.1 hr)
    have h2 := (mem_flat_get h).1 (p.mem_iff.1 hr')
    rw [← e] at h2
    exact chain_lt (h.chain r.1) h1 h2 hlt
  strict := rows_strict h p s
section
variable {rows : List RowT}
theorem RowsOk.same (h : RowsOk rows) {r r' : RowT} (hr : r ∈ rows) (hr' : r' ∈ rows) (e : r.1 = r'.1) (e2 : r.2.1 = r'.2.1) : r = r' := by
  have hs := h.strict
  clear h
  induction rows with
  | nil => cases hr
  | cons a l ih =>
    obtain ⟨h1, h2⟩ := List.pairwise_cons.1 hs
    have no : ∀ x y : RowT, x.1 = y.1 → x.2.1 = y.2.1 → ¬ rlt x y := fun x y q1 q2 k => by
      rcases k with k | ⟨_, k⟩
      · rw [q1] at k; exact tlt_irrefl _ k
      · omega
    rcases List.mem_cons.1 hr with ex | hx <;> rcases List.mem_cons.1 hr' with ey | hy
    · rw [ex, ey]
    · rw [← ex] at h1; exact absurd (h1 r' hy) (no _ _ e e2)
    · rw [← ey] at h1; exact absurd (h1 r hx) (no _ _ e.symm e2.symm)
    · exact ih hx hy h2
/-- A change that rows tell of. -/
theorem mem_outL (h : RowsOk rows) {fr up : Int} {c : Chg} : c ∈ outL fr up rows ↔ ∃ r ∈ rows, (c = (r.2.1, false, r.1) ∧ fr < r.2.1 ∧ r.2.1 ≤ up) ∨ (r.2.2 ≠ 0 ∧ c = (r.2.2, true, r.1) ∧ fr < r.2.2 ∧ r.2.2 ≤ up) := by
  have hadd : ∀ (rev : Int) (d : Bool) (x : Tup), c ∈ addL fr up rev d x ↔ c = (rev, d, x) ∧ fr < rev ∧ rev ≤ up := fun rev d x => by
    unfold addL
    by_cases k : fr < rev ∧ rev ≤ up
    · rw [if_pos k, List.mem_singleton]
      exact ⟨fun q => ⟨q, k⟩, fun q => q.1⟩
    · rw [if_neg k]
      exact ⟨fun q => (by cases q), fun q => absurd q.2 k⟩
  unfold outL
  rw [List.mem_flatMap]
  refine exists_congr (fun r => and_congr_right (fun hr => ?_))
  unfold rowAdd
  have h1 := h.each r hr
  rw [if_neg (by omega), List.mem_append, hadd]
  by_cases hu : r.2.2 ≠ 0
  · rw [if_pos hu, hadd]
    exact or_congr Iff.rfl ⟨fun q => ⟨hu, q⟩, fun q => q.2⟩
  · rw [if_neg hu]
    exact or_congr Iff.rfl ⟨fun q => (by cases q), fun q => absurd q.1 hu⟩
theorem outL_nodup (h : RowsOk rows) (fr up : Int) : (outL fr up rows).Nodup := by
  have hadd : ∀ (rev : Int) (d : Bool) (x : Tup) (c : Chg), c ∈ addL fr up rev d x → c = (rev, d, x) := fun rev d x c hc => by
    unfold addL at hc
    split at hc
    · exact List.mem_singleton.1 hc
    · cases hc
  have hnd : ∀ (rev : Int) (d : Bool) (x : Tup), (addL fr up rev d x).Nodup := fun rev d x => by
    unfold addL
    split
    · simp
    · exact List.nodup_nil
  have hrow : ∀ r c, c ∈ rowAdd fr up r → c.2.2 = r.1 ∧ (c = (r.2.1, false, r.1) ∨ c = (r.2.2, true, r.1)) := fun r c hc => by
    unfold rowAdd at hc
    split at hc
    · cases hc
    · rcases List.mem_append.1 hc with k | k
      · have e := hadd _ _ _ _ k
        exact ⟨by rw [e], .inl e⟩
      · split at k
        · have e := hadd _ _ _ _ k
          exact ⟨by rw [e], .inr e⟩
        · cases k
  unfold outL List.Nodup
  rw [List.pairwise_flatMap]
  refine ⟨fun r hr => ?_, ?_⟩
  · unfold rowAdd
    split
    · exact List.Pairwise.nil
    · refine List.pairwise_append.2 ⟨hnd _ _ _, ?_, fun a ha b hb e => ?_⟩
      · split
        · exact hnd _ _ _
        · exact List.Pairwise.nil
      · have e1 := hadd _ _ _ _ ha
        split at hb
        · have e2 := hadd _ _ _ _ hb
          rw [e1, e2] at e
          simp at e
        · cases hb
  · refine List.Pairwise.imp_of_mem (fun {r r'} hr hr' hlt x hx y hy e => ?_) h.strict
    obtain ⟨x1, x2⟩ := hrow r x hx
    obtain ⟨y1, y2⟩ := hrow r' y hy
    have et : r.1 = r'.1 := by rw [← x1, ← y1, e]
    have hl : r.2.1 < r'.2.1 := by
      rcases hlt with k | ⟨_, k⟩
      · rw [et] at k; exact absurd k (tlt_irrefl _)
      · exact k
    have hc := h.chain r hr r' hr' et hl
    have h1 := h.each r hr
    have h2 := h.each r' hr'
    rcases x2 with x2 | x2 <;> rcases y2 with y2 | y2 <;> rw [x2, y2] at e <;> simp at e
    · omega
    · have := hc.1
      by_cases z : r'.2.2 = 0
      · omega
      · omega
/-- Is a tuple there? -/
def There (rows : List RowT) (k : Int) (t : Tup) : Prop := ∃ r ∈ rows, r.1 = t ∧ r.2.1 ≤ k ∧ (r.2.2 = 0 ∨ k < r.2.2)
theorem mem_there {k : Int} {t : Tup} : t ∈ atL rows k ↔ There rows k t := by
  rw [mem_atL]
  unfold thereL There
  rw [List.mem_map]
  constructor
  · rintro ⟨r, hr, e⟩
    obtain ⟨h1, h2⟩ := List.mem_filter.1 hr
    unfold isAt at h2
    rw [Bool.and_eq_true, Bool.or_eq_true, decide_eq_true_iff, decide_eq_true_iff, decide_eq_true_iff] at h2
    exact ⟨r, h1, e, h2.1, h2.2⟩
  · rintro ⟨r, h1, e, h2, h3⟩
    refine ⟨r, List.mem_filter.2 ⟨h1, ?_⟩, e⟩
    unfold isAt
    rw [Bool.and_eq_true, Bool.or_eq_true, decide_eq_true_iff, decide_eq_true_iff, decide_eq_true_iff]
    exact ⟨h2, h3⟩
theorem sorted_revs {l : List Chg} (h : Stab.Sorted (ltOf ccmp) l) : l.Pairwise (fun x y => x.1 ≤ y.1) :=
  List.Pairwise.imp (R := fun x y => ltOf ccmp y x = false) (S := fun x y : Chg => x.1 ≤ y.1) (fun {x y} k => by
    apply Classical.byContradiction
    intro q
    rw [ccmp_lt (show y.1 < x.1 by omega)] at k
    cases k) h
/-- Changes between two revisions lead from what is there at the one to what is there at the other. -/
theorem play_forth (h : RowsOk rows) {fr up : Int} (hle : fr ≤ up) {l : List Chg} (hs : Stab.Sorted (ltOf ccmp) l) (hm : ∀ c, c ∈ l ↔ c ∈ outL fr up rows) : playL (atL rows fr) l = atL rows up := by
  refine tlt_uniq (playL_rise _ _) (rising_iff.1 (atL_rising rows up)) (fun t => ?_)
  classical
  rw [mem_playL, mem_state t l _ (decide (There rows fr t)) (by rw [mem_kputs, mem_there, decide_eq_true_iff]; simp), mem_there]
  rcases state_last t l (decide (There rows fr t)) with ⟨h1, h2⟩ | ⟨A, c, B, h1, h2, h3, h4⟩
  · rw [h2, decide_eq_true_iff]
    constructor
    · rintro ⟨r, hr, e, q1, q2⟩
      refine ⟨r, hr, e, by omega, ?_⟩
      apply Classical.byContradiction
      intro k
      refine h1 (r.2.2, true, r.1) ((hm _).2 ((mem_outL h).2 ⟨r, hr, .inr ⟨by omega, rfl, by omega, by omega⟩⟩)) e
    · rintro ⟨r, hr, e, q1, q2⟩
      refine ⟨r, hr, e, ?_, by omega⟩
      apply Classical.byContradiction
      intro k
      exact h1 (r.2.1, false, r.1) ((hm _).2 ((mem_outL h).2 ⟨r, hr, .inl ⟨rfl, by omega, q1⟩⟩)) e
  · rw [h4]
    have hsr := sorted_revs hs
    rw [h1] at hsr
    have hp := List.pairwise_append.1 hsr
    have hlast : ∀ c' ∈ outL fr up rows, c'.2.2 = t → c'.1 ≤ c.1 := fun c' hc' e => by
      have hl := (hm c').2 hc'
      rw [h1] at hl
      rcases List.mem_append.1 hl with k | k
      · exact hp.2.2 c' k c List.mem_cons_self
      · rcases List.mem_cons.1 k with k | k
        · rw [k]; exact Int.le_refl _
        · exact absurd e (h3 c' k)
    have hc := (hm c).1 (by rw [h1]; exact List.mem_append_right _ List.mem_cons_self)
    obtain ⟨r, hr, hcc⟩ := (mem_outL h).1 hc
    have he := h.each r hr
    rcases hcc with ⟨e, q1, q2⟩ | ⟨q0, e, q1, q2⟩
    · rw [e] at h2 hlast ⊢
      refine ⟨fun _ => ⟨r, hr, h2, q2, ?_⟩, fun _ => rfl⟩
      apply Classical.byContradiction
      intro k
      have := hlast (r.2.2, true, r.1) ((mem_outL h).2 ⟨r, hr, .inr ⟨by omega, rfl, by omega, by omega⟩⟩) h2
      simp only at this
      omega
    · rw [e] at h2 hlast ⊢
      refine ⟨fun k => (by cases k), ?_⟩
      rintro ⟨r', hr', e', w1, w2⟩
      simp only at h2 hlast
      rcases Int.lt_trichotomy r.2.1 r'.2.1 with k | k | k
      · have hcn := h.chain r hr r' hr' (h2.trans e'.symm) k
        have := hlast (r'.2.1, false, r'.1) ((mem_outL h).2 ⟨r', hr', .inl ⟨rfl, by omega, w1⟩⟩) e'
        simp only at this
        omega
      · have := h.same hr hr' (h2.trans e'.symm) k
        rw [this] at q0 q2
        omega
      · have hcn := h.chain r' hr' r hr (e'.trans h2.symm) k
        omega
theorem mem_flip {cs : List Chg} {c : Chg} : c ∈ backL cs ↔ flipC c ∈ cs := by
  unfold backL
  rw [List.mem_map]
  constructor
  · rintro ⟨x, hx, rfl⟩
    unfold flipC
    simp only [Bool.not_not]
    exact List.mem_reverse.1 hx
  · intro hc
    refine ⟨flipC c, List.mem_reverse.2 hc, ?_⟩
    unfold flipC
    simp only [Bool.not_not]
/-- The changes back lead back. -/
theorem play_back (h : RowsOk rows) {fr up : Int} (hle : fr ≤ up) {l : List Chg} (hs : Stab.Sorted (ltOf ccmp) l) (hm : ∀ c, c ∈ l ↔ c ∈ outL fr up rows) : playL (atL rows up) (backL l) = atL rows fr := by
  refine tlt_uniq (playL_rise _ _) (rising_iff.1 (atL_rising rows fr)) (fun t => ?_)
  classical
  rw [mem_playL, mem_state t (backL l) _ (decide (There rows up t)) (by rw [mem_kputs, mem_there, decide_eq_true_iff]; simp), mem_there]
  rcases state_last t (backL l) (decide (There rows up t)) with ⟨h1, h2⟩ | ⟨A, c, B, h1, h2, h3, h4⟩
  · have h1' : ∀ c ∈ l, c.2.2 ≠ t := fun c hc => h1 (flipC c) (mem_flip.2 (by unfold flipC; simp only [Bool.not_not]; exact hc))
    rw [h2, decide_eq_true_iff]
    constructor
    · rintro ⟨r, hr, e, q1, q2⟩
      refine ⟨r, hr, e, ?_, by omega⟩
      apply Classical.byContradiction
      intro k
      exact h1' (r.2.1, false, r.1) ((hm _).2 ((mem_outL h).2 ⟨r, hr, .inl ⟨rfl, by omega, q1⟩⟩)) e
    · rintro ⟨r, hr, e, q1, q2⟩
      refine ⟨r, hr, e, by omega, ?_⟩
      apply Classical.byContradiction
      intro k
      refine h1' (r.2.2, true, r.1) ((hm _).2 ((mem_outL h).2 ⟨r, hr, .inr ⟨by omega, rfl, by omega, by omega⟩⟩)) e
  · rw [h4]
    have hsr := sorted_revs hs
    have hsr2 : (backL l).Pairwise (fun x y => y.1 ≤ x.1) := by
      unfold backL
      rw [List.pairwise_map, List.pairwise_reverse]
      exact hsr
    rw [h1] at hsr2
    have hp := List.pairwise_append.1 hsr2
    have hfirst : ∀ c' ∈ outL fr up rows, c'.2.2 = t → c.1 ≤ c'.1 := fun c' hc' e => by
      have hl := mem_flip.2 (show flipC (flipC c') ∈ l by unfold flipC; simp only [Bool.not_not]; exact (hm c').2 hc')
      rw [h1] at hl
      rcases List.mem_append.1 hl with k | k
      · exact hp.2.2 (flipC c') k c List.mem_cons_self
      · rcases List.mem_cons.1 k with k | k
        · rw [← k]; exact Int.le_refl _
        · exact absurd e (h3 (flipC c') k)
    have hc := (hm (flipC c)).1 (mem_flip.1 (by rw [h1]; exact List.mem_append_right _ List.mem_cons_self))
    obtain ⟨r, hr, hcc⟩ := (mem_outL h).1 hc
    have he := h.each r hr
    obtain ⟨c1, c2, c3⟩ := c
    unfold flipC at hcc
    simp only [Prod.mk.injEq] at hcc
    simp only at h2 hfirst ⊢
    subst h2
    rcases hcc with ⟨⟨e1, e2, e3⟩, q1, q2⟩ | ⟨q0, ⟨e1, e2, e3⟩, q1, q2⟩
    · have hd : c2 = true := by simpa using e2
      rw [hd]
      refine ⟨fun k => (by cases k), ?_⟩
      rintro ⟨r', hr', e', w1, w2⟩
      have hcn := h.chain r' hr' r hr (e'.trans e3) (by omega)
      have := hfirst (r'.2.2, true, r'.1) ((mem_outL h).2 ⟨r', hr', .inr ⟨hcn.1, rfl, by omega, by omega⟩⟩) e'
      simp only at this
      omega
    · have hd : c2 = false := by simpa using e2
      rw [hd]
      refine ⟨fun _ => ⟨r, hr, e3.symm, ?_, by omega⟩, fun _ => rfl⟩
      apply Classical.byContradiction
      intro k
      have := hfirst (r.2.1, false, r.1) ((mem_outL h).2 ⟨r, hr, .inl ⟨rfl, by omega, by omega⟩⟩) e3.symm
      simp only at this
      omega
end
end Go.Proofs.YtojjnfhgldjgbaaGreatDoor.Store
end
section
set_option linter.unusedVariables false
set_option linter.unusedSimpArgs false
namespace Go.Proofs.YtojjnfhgldjgbaaGreatDoor.Store
open Go.RowKit Go.Por Go.Sort Go.Proofs.YtojjnfhgldjgbaaGreatDoor.Watch
/-- A row as some changes tell of it. -/
def TellsOf (rows : List RowT) (P : List Chg) (x : RowT) : Prop :=
  ∃ u, (x.1, x.2.1, u) ∈ rows ∧ (x.2.1, false, x.1) ∈ P ∧ ((u ≠ 0 ∧ (u, true, x.1) ∈ P ∧ x.2.2 = u) ∨ ((u = 0 ∨ (u, true, x.1) ∉ P) ∧ x.2.2 = 0))
def keyR (x : RowT) : Tup × Int := (x.1, x.2.1)
theorem rows_step {rows : List RowT} (h : RowsOk rows) {P S : List Chg} {c : Chg} (hs : (P ++ c :: S).Pairwise (fun x y => x.1 ≤ y.1)) (hn : (P ++ c :: S).Nodup) (hm : ∀ c', c' ∈ P ++ c :: S ↔ c' ∈ outL 0 maxRev rows)
    {out : List RowT} (hk : (out.map keyR).Nodup) (ho : ∀ x, x ∈ out ↔ TellsOf rows P x) : ((stepR out c).map keyR).Nodup ∧ ∀ x, x ∈ stepR out c ↔ TellsOf rows (P ++ [c]) x := by
  obtain ⟨p1, p2, p3⟩ := List.pairwise_append.1 hs
  obtain ⟨n1, n2, n3⟩ := List.pairwise_append.1 hn
  have hP : ∀ c' ∈ P, c'.1 ≤ c.1 := fun c' hc' => p3 c' hc' c List.mem_cons_self
  have hcP : c ∉ P := fun k => n3 c k c List.mem_cons_self rfl
  have hin : ∀ c', c' ∈ outL 0 maxRev rows → c'.1 < c.1 → c' ∈ P := fun c' h1 h2 => by
    rcases List.mem_append.1 ((hm c').2 h1) with k | k
    · exact k
    · rcases List.mem_cons.1 k with k | k
      · rw [k] at h2; omega
      · have := (List.pairwise_cons.1 p2).1 c' k; omega
  have hput : ∀ t s u, (t, s, u) ∈ rows → (s, false, t) ∈ outL 0 maxRev rows := fun t s u hr => by
    have he := h.each _ hr
    simp only at he
    exact (mem_outL h).2 ⟨_, hr, .inl ⟨rfl, by show (0 : Int) < s; omega, he.2.1⟩⟩
  have hdel : ∀ t s u, (t, s, u) ∈ rows → u ≠ 0 → (u, true, t) ∈ outL 0 maxRev rows := fun t s u hr hu => by
    have he := h.each _ hr
    simp only at he
    exact (mem_outL h).2 ⟨_, hr, .inr ⟨hu, rfl, by show (0 : Int) < u; omega, by show u ≤ maxRev; omega⟩⟩
  have hcl := (hm c).1 (List.mem_append_right _ List.mem_cons_self)
  obtain ⟨⟨t, s, u⟩, hr, hcc⟩ := (mem_outL h).1 hcl
  have he := h.each _ hr
  simp only at he
  rcases hcc with ⟨rfl, _, _⟩ | ⟨hu, rfl, _, _⟩
  · simp only at hP hin hcP
    have hnone : out.findIdx? (isOpen t) = none := by
      rw [List.findIdx?_eq_none_iff]
      intro x hx
      apply Classical.byContradiction
      intro k
      have k' : isOpen t x = true := by simpa using k
      unfold isOpen at k'
      rw [Bool.and_eq_true, decide_eq_true_iff, decide_eq_true_iff] at k'
      obtain ⟨k1, k2⟩ := k'
      obtain ⟨u', a, b, alt⟩ := (ho x).1 hx
      rw [k1] at a b alt
      rcases alt with ⟨q1, q2, q3⟩ | ⟨q1, _⟩
      · exact q1 (by rw [← q3, k2])
      · have hle := hP _ b
        simp only at hle
        rcases Int.lt_or_eq_of_le hle with hlt | heq
        · have hc := h.chain _ a _ hr rfl hlt
          simp only at hc
          exact q1.elim hc.1 (fun q => q (hin _ (hdel _ _ _ a hc.1) (by simp only; omega)))
        · rw [heq] at b; exact hcP b
    have hst : stepR out (s, false, t) = out ++ [(t, s, 0)] := by unfold stepR; simp only [hnone]
    rw [hst]
    refine ⟨?_, fun x => ?_⟩
    · rw [List.map_append, List.nodup_append]
      refine ⟨hk, by simp, fun a ha b hb e => ?_⟩
      simp only [List.map_cons, List.map_nil, List.mem_singleton] at hb
      obtain ⟨x, hx, e2⟩ := List.mem_map.1 ha
      obtain ⟨u', a', b', alt⟩ := (ho x).1 hx
      rw [hb, ← e2] at e
      unfold keyR at e
      simp only [Prod.mk.injEq] at e
      rw [e.1, e.2] at b'
      exact hcP b'
    · rw [List.mem_append, List.mem_singleton]
      constructor
      · rintro (hx | hx)
        · obtain ⟨u', a, b, alt⟩ := (ho x).1 hx
          refine ⟨u', a, List.mem_append_left _ b, alt.imp (fun q => ⟨q.1, List.mem_append_left _ q.2.1, q.2.2⟩) (fun q => ⟨q.1.imp id (fun q2 k => ?_), q.2⟩)⟩
          rcases List.mem_append.1 k with k | k
          · exact q2 k
          · rw [List.mem_singleton] at k
            simp at k
        · rw [hx]
          refine ⟨u, hr, List.mem_append_right _ (List.mem_singleton.2 rfl), .inr ⟨?_, rfl⟩⟩
          by_cases z : u = 0
          · exact .inl z
          · refine .inr (fun k => ?_)
            rcases List.mem_append.1 k with k | k
            · have := hP _ k
              simp only at this
              omega
            · rw [List.mem_singleton] at k
              simp at k
      · rintro ⟨u', a, b, alt⟩
        have hno : ∀ q, (q, true, x.1) ∈ P ++ [(s, false, t)] → (q, true, x.1) ∈ P := fun q k => by
          rcases List.mem_append.1 k with k | k
          · exact k
          · rw [List.mem_singleton] at k
            simp at k
        rcases List.mem_append.1 b with b | b
        · exact .inl ((ho x).2 ⟨u', a, b, alt.imp (fun q => ⟨q.1, hno _ q.2.1, q.2.2⟩) (fun q => ⟨q.1.imp id (fun q2 k => q2 (List.mem_append_left _ k)), q.2⟩)⟩)
        · rw [List.mem_singleton] at b
          simp only [Prod.mk.injEq, true_and] at b
          rcases alt with ⟨q1, q2, q3⟩ | ⟨_, q3⟩
          · have h1 := hP _ (hno _ q2)
            have h2 := h.each _ a
            simp only at h1 h2
            omega
          · exact .inr (by obtain ⟨x0, x1, x2⟩ := x; simp only at b q3; rw [b.1, b.2, q3])
  · simp only at hP hin hcP
    have hu' : u ≠ 0 := hu
    have hsu : s < u := by omega
    have hsP := hin _ (hput _ _ _ hr) (by simp only; exact hsu)
    have hopen : (t, s, 0) ∈ out := (ho _).2 ⟨u, hr, hsP, .inr ⟨.inr hcP, rfl⟩⟩
    cases hf : out.findIdx? (isOpen t) with
    | none =>
      rw [List.findIdx?_eq_none_iff] at hf
      have := hf _ hopen
      unfold isOpen at this
      simp at this
    | some i =>
      obtain ⟨hi, k', _⟩ := List.findIdx?_eq_some_iff_getElem.1 hf
      obtain ⟨x, hx⟩ : ∃ x, out[i] = x := ⟨_, rfl⟩
      rw [hx] at k'
      have hxo : x ∈ out := by rw [← hx]; exact List.getElem_mem hi
      unfold isOpen at k'
      rw [Bool.and_eq_true, decide_eq_true_iff, decide_eq_true_iff] at k'
      obtain ⟨k1, k2⟩ := k'
      obtain ⟨u', a, b, alt⟩ := (ho x).1 hxo
      rw [k1] at a b alt
      have hss : x.2.1 = s := by
        rcases alt with ⟨q1, q2, q3⟩ | ⟨q1, _⟩
        · exact absurd (by rw [← q3, k2]) q1
        · rcases Int.lt_trichotomy x.2.1 s with k | k | k
          · have hc := h.chain _ a _ hr rfl k
            simp only at hc
            exact (q1.elim hc.1 (fun q => q (hin _ (hdel _ _ _ a hc.1) (by simp only; omega)))).elim
          · exact k
          · have hc := h.chain _ hr _ a rfl k
            have h1 := hP _ b
            simp only at hc h1
            omega
      have hxe : x = (t, s, 0) := by obtain ⟨x0, x1, x2⟩ := x; simp only at k1 k2 hss; rw [k1, k2, hss]
      have hsome : out[i]? = some (t, s, 0) := by rw [List.getElem?_eq_getElem hi, hx, hxe]
      have hst : stepR out (u, true, t) = out.set i (t, s, u) := by unfold stepR; simp only [hf]; exact shutAt_some hsome u
      rw [hst]
      obtain ⟨A, B, e1, e2⟩ := set_parts (r' := (t, s, u)) hsome
      rw [e2]
      have hkk : ((A ++ (t, s, u) :: B).map keyR) = out.map keyR := by rw [e1, List.map_append, List.map_append]; rfl
      rw [hkk]
      refine ⟨hk, fun y => ?_⟩
      have hside : ∀ y, y ∈ A ∨ y ∈ B → keyR y ≠ (t, s) := fun y hy e => by
        rw [e1, List.map_append, List.map_cons] at hk
        obtain ⟨m1, m2, m3⟩ := List.nodup_append.1 hk
        rcases hy with hy | hy
        · exact m3 (keyR y) (List.mem_map_of_mem hy) (keyR (t, s, (0 : Int))) List.mem_cons_self (by rw [e]; rfl)
        · exact (List.nodup_cons.1 m2).1 (by rw [show keyR (t, s, (0 : Int)) = keyR y by rw [e]; rfl]; exact List.mem_map_of_mem hy)
      have hone : ∀ t' s', (t', s', u) ∈ rows → t' = t → s' = s := fun t' s' ha e => by
        subst e
        rcases Int.lt_trichotomy s' s with k | k | k
        · have hc := h.chain _ ha _ hr rfl k
          simp only at hc
          omega
        · exact k
        · have hc := h.chain _ hr _ ha rfl k
          have := h.each _ ha
          simp only at hc this
          omega
      rw [List.mem_append, List.mem_cons]
      constructor
      · intro hy
        have hy' : y = (t, s, u) ∨ (y ∈ A ∨ y ∈ B) := by
          rcases hy with k | k | k
          · exact .inr (.inl k)
          · exact .inl k
          · exact .inr (.inr k)
        rcases hy' with rfl | hy'
        · exact ⟨u, hr, List.mem_append_left _ hsP, .inl ⟨hu, List.mem_append_right _ (List.mem_singleton.2 rfl), rfl⟩⟩
        · have hyo : y ∈ out := by rw [e1, List.mem_append, List.mem_cons]; exact hy'.elim .inl (fun k => .inr (.inr k))
          obtain ⟨u2, a2, b2, alt2⟩ := (ho y).1 hyo
          refine ⟨u2, a2, List.mem_append_left _ b2, alt2.imp (fun q => ⟨q.1, List.mem_append_left _ q.2.1, q.2.2⟩) (fun q => ⟨q.1.imp id (fun q2 k => ?_), q.2⟩)⟩
          rcases List.mem_append.1 k with k | k
          · exact q2 k
          · rw [List.mem_singleton] at k
            simp only [Prod.mk.injEq, true_and] at k
            rw [k.1] at a2
            exact hside y hy' (by unfold keyR; rw [hone _ _ a2 k.2, k.2])
      · rintro ⟨u2, a2, b2, alt2⟩
        have b3 : (y.2.1, false, y.1) ∈ P := by
          rcases List.mem_append.1 b2 with k | k
          · exact k
          · rw [List.mem_singleton] at k
            simp at k
        by_cases hkey : keyR y = (t, s)
        · unfold keyR at hkey
          simp only [Prod.mk.injEq] at hkey
          have hu2 : u2 = u := by
            have := h.same a2 hr hkey.1 hkey.2
            simp only [Prod.mk.injEq] at this
            exact this.2.2
          rcases alt2 with ⟨_, _, q3⟩ | ⟨q1, _⟩
          · exact .inr (.inl (by obtain ⟨y0, y1, y2⟩ := y; simp only at hkey q3; rw [hkey.1, hkey.2, q3, hu2]))
          · rcases q1 with q1 | q1
            · exact absurd (by rw [← hu2]; exact q1) hu
            · exact absurd (List.mem_append_right _ (List.mem_singleton.2 (by rw [hu2, hkey.1]))) q1
        · have hy : y ∈ out := (ho y).2 ⟨u2, a2, b3, alt2.imp (fun q => ⟨q.1, by
            rcases List.mem_append.1 q.2.1 with k | k
            · exact k
            · rw [List.mem_singleton] at k
              simp only [Prod.mk.injEq, true_and] at k
              rw [k.1] at a2
              exact absurd (by unfold keyR; rw [hone _ _ a2 k.2, k.2]) hkey, q.2.2⟩) (fun q => ⟨q.1.imp id (fun q2 k => q2 (List.mem_append_left _ k)), q.2⟩)⟩
          rw [e1, List.mem_append, List.mem_cons] at hy
          rcases hy with k | k | k
          · exact .inl k
          · exact absurd (by rw [k]; rfl) hkey
          · exact .inr (.inr k)
theorem rows_again {rows : List RowT} (h : RowsOk rows) {l : List Chg} (hs : Stab.Sorted (ltOf ccmp) l) (hp : l.Perm (outL 0 maxRev rows)) : (rowsF l).Perm rows := by
  have hrev := sorted_revs hs
  have hn : l.Nodup := hp.nodup_iff.2 (outL_nodup h 0 maxRev)
  have key : ∀ i, i ≤ l.length → ((rowsF (l.take i)).map keyR).Nodup ∧ ∀ x, x ∈ rowsF (l.take i) ↔ TellsOf rows (l.take i) x := by
    intro i
    induction i with
    | zero =>
      intro _
      rw [List.take_zero]
      exact ⟨List.nodup_nil, fun x => ⟨fun k => (by cases k), fun ⟨u, a, b, _⟩ => (by cases b)⟩⟩
    | succ i ih =>
      intro hi
      obtain ⟨c, hc⟩ : ∃ c, l[i]? = some c := ⟨_, List.getElem?_eq_getElem (by omega)⟩
      have hsplit : l.take i ++ c :: l.drop (i + 1) = l := by
        obtain ⟨h1, h2⟩ := List.getElem?_eq_some_iff.1 hc
        rw [← h2, ← List.drop_eq_getElem_cons h1, List.take_append_drop]
      obtain ⟨k1, k2⟩ := ih (by omega)
      have := rows_step h (P := l.take i) (S := l.drop (i + 1)) (c := c) (by rw [hsplit]; exact hrev) (by rw [hsplit]; exact hn) (fun c' => by rw [hsplit]; exact hp.mem_iff) k1 k2
      rw [rowsF_succ l i c hc, List.take_add_one, hc, Option.toList_some]
      exact this
  obtain ⟨k1, k2⟩ := key l.length (Nat.le_refl _)
  rw [List.take_length] at k1 k2
  have hmem : ∀ x, x ∈ rowsF l ↔ x ∈ rows := fun x => by
    rw [k2]
    constructor
    · rintro ⟨u, a, b, ⟨_, _, q⟩ | ⟨q1, q⟩⟩
      · obtain ⟨x0, x1, x2⟩ := x; simp only at q a; rw [q]; exact a
      · rcases q1 with q1 | q1
        · obtain ⟨x0, x1, x2⟩ := x; simp only at q a; rw [q, ← q1]; exact a
        · apply Classical.byContradiction
          intro hx
          have he := h.each _ a
          simp only at he
          refine q1 (hp.mem_iff.2 ((mem_outL h).2 ⟨_, a, .inr ⟨?_, rfl, ?_, ?_⟩⟩))
          · intro z
            simp only at z
            exact hx (by obtain ⟨x0, x1, x2⟩ := x; simp only at q a z; rw [q, ← z]; exact a)
          · show (0 : Int) < u
            have : u ≠ 0 := fun z => hx (by obtain ⟨x0, x1, x2⟩ := x; simp only at q a z; rw [q, ← z]; exact a)
            omega
          · show u ≤ maxRev
            have : u ≠ 0 := fun z => hx (by obtain ⟨x0, x1, x2⟩ := x; simp only at q a z; rw [q, ← z]; exact a)
            omega
    · intro hx
      have he := h.each _ hx
      refine ⟨x.2.2, hx, hp.mem_iff.2 ((mem_outL h).2 ⟨x, hx, .inl ⟨rfl, by omega, he.2.1⟩⟩), ?_⟩
      by_cases z : x.2.2 = 0
      · exact .inr ⟨.inl z, z⟩
      · exact .inl ⟨z, hp.mem_iff.2 ((mem_outL h).2 ⟨x, hx, .inr ⟨z, rfl, by omega, by omega⟩⟩), rfl⟩
  have hno : (rowsF l).Nodup := by
    unfold List.Nodup at k1
    rw [List.pairwise_map] at k1
    exact k1.imp (fun {a b} h e => h (by rw [e]))
  have hnr : rows.Nodup := List.Pairwise.imp (R := rlt) (S := fun x y => x ≠ y) (fun {x y} k e => by rw [e] at k; exact rlt_irrefl _ k) h.strict
  classical
  exact nodup_perm hno (fun x hx => (hmem x).1 hx) (nodup_length hnr (fun x hx => (hmem x).2 hx))
end Go.Proofs.YtojjnfhgldjgbaaGreatDoor.Store
end
section
set_option linter.unusedVariables false
set_option linter.unusedSimpArgs false
namespace Go.Proofs.YtojjnfhgldjgbaaGreatDoor.Store
open Go.RowKit Go.Por Go.Sort Go.Proofs.YtojjnfhgldjgbaaGreatDoor.Watch
theorem outL_range {rows : List RowT} {fr up : Int} {c : Chg} (h : c ∈ outL fr up rows) : fr < c.1 ∧ c.1 ≤ up := by
  have hadd : ∀ (rev : Int) (d : Bool) (x : Tup), c ∈ addL fr up rev d x → fr < c.1 ∧ c.1 ≤ up := fun rev d x hc => by
    unfold addL at hc
    split at hc
    · rename_i k
      rw [List.mem_singleton.1 hc]
      exact k
    · cases hc
  unfold outL at h
  obtain ⟨r, _, hc⟩ := List.mem_flatMap.1 h
  unfold rowAdd at hc
  split at hc
  · cases hc
  · rcases List.mem_append.1 hc with k | k
    · exact hadd _ _ _ k
    · split at k
      · exact hadd _ _ _ k
      · cases k
theorem filter_out {rows : List RowT} {fr up : Int} {x : Chg} (h : ¬ (fr < x.1 ∧ x.1 ≤ up)) : (outL fr up rows).filter (Stab.eqv (ltOf ccmp) x) = [] := by
  rw [List.filter_eq_nil_iff]
  intro y hy k
  have := outL_range hy
  rw [eqv_rev k] at h
  exact h this
theorem filter_in {rows : List RowT} {fr up lo hi : Int} {x : Chg} (h : fr < x.1 ∧ x.1 ≤ up) (k : lo < x.1 ∧ x.1 ≤ hi) : (outL fr up rows).filter (Stab.eqv (ltOf ccmp) x) = (outL lo hi rows).filter (Stab.eqv (ltOf ccmp) x) := by
  have hadd : ∀ (rev : Int) (d : Bool) (t : Tup), (addL fr up rev d t).filter (Stab.eqv (ltOf ccmp) x) = (addL lo hi rev d t).filter (Stab.eqv (ltOf ccmp) x) := fun rev d t => by
    unfold addL
    by_cases e : x.1 = rev
    · rw [← e, if_pos h, if_pos k]
    · have no : ∀ b : Bool, Stab.eqv (ltOf ccmp) x (rev, d, t) = b → b = false := fun b hb => by
        cases b with
        | true => exact absurd (eqv_rev hb) e
        | false => rfl
      have e2 := no _ rfl
      have e3 : [((rev, d, t) : Chg)].filter (Stab.eqv (ltOf ccmp) x) = [] := by rw [List.filter_cons_of_neg (by rw [e2]; decide)]; rfl
      split <;> split <;> simp only [e3, List.filter_nil]
  unfold outL
  rw [List.filter_flatMap, List.filter_flatMap]
  congr 1
  funext r
  show (rowAdd fr up r).filter _ = (rowAdd lo hi r).filter _
  unfold rowAdd
  split
  · rfl
  · rw [List.filter_append, List.filter_append, hadd]
    split
    · rw [hadd]
    · rfl
theorem out_stab (rows : List RowT) {lo cut hi : Int} (h1 : lo ≤ cut) (h2 : cut ≤ hi) : Stab.Stab (ltOf ccmp) (outL lo hi rows) (outL lo cut rows ++ outL cut hi rows) := fun x => by
  rw [List.filter_append]
  by_cases hx : lo < x.1 ∧ x.1 ≤ hi
  · by_cases hc : x.1 ≤ cut
    · rw [filter_out (fr := cut) (up := hi) (by omega), List.append_nil]
      exact filter_in ⟨hx.1, hc⟩ hx
    · rw [filter_out (fr := lo) (up := cut) (by omega), List.nil_append]
      exact filter_in ⟨by omega, hx.2⟩ hx
  · rw [filter_out (by omega), filter_out (by omega), filter_out hx]
    rfl
theorem splits_all {rows : List RowT} {lo cut hi : Int} (h1 : lo ≤ cut) (h2 : cut ≤ hi) {a b l : List Chg} (sa : Stab.Sorted (ltOf ccmp) a) (ka : Stab.Stab (ltOf ccmp) (outL lo cut rows) a)
    (sb : Stab.Sorted (ltOf ccmp) b) (kb : Stab.Stab (ltOf ccmp) (outL cut hi rows) b) (sl : Stab.Sorted (ltOf ccmp) l) (kl : Stab.Stab (ltOf ccmp) (outL lo hi rows) l) : a ++ b = l := by
  refine Stab.uniq chgSwo _ _ (Stab.Sorted.append sa sb (fun x hx y hy => ?_)) sl (((Stab.Stab.append ka kb).symm.trans (out_stab rows h1 h2).symm).trans kl)
  have hx' := outL_range ((ka.mem chgSwo x).1 hx)
  have hy' := outL_range ((kb.mem chgSwo y).1 hy)
  exact Stab.SWO.asymm' chgSwo (ccmp_lt (show x.1 < y.1 by omega))
theorem rcmp_lt {x y : RowT} (h : rlt x y) : ltOf rcmp x y = true := by
  unfold ltOf rcmp or2v
  rw [decide_eq_true_iff]
  rcases h with h | ⟨h, k⟩
  · have := tcmp_neg.2 h
    rw [if_neg (by omega)]
    exact this
  · rw [if_pos (tcmp_zero.2 h)]
    have e := (cmpInt_neg x.2.1 y.2.1).2 k
    unfold ltOf at e
    exact of_decide_eq_true e
theorem rows_made {rows : List RowT} (h : RowsOk rows) {l : List Chg} (hs : Stab.Sorted (ltOf ccmp) l) (hp : Stab.Stab (ltOf ccmp) (outL 0 maxRev rows) l) {l' : List RowT} (hs' : Stab.Sorted (ltOf rcmp) l') (hp' : Stab.Stab (ltOf rcmp) (rowsF l) l') : l' = rows := by
  have p : l'.Perm rows := (stab_perm rowSwo hp').trans (rows_again h hs (stab_perm chgSwo hp))
  refine rlt_uniq ?_ h.strict p
  have h1 : l'.Pairwise (fun a b => rlt a b ∨ rlt b a) := (p.pairwise_iff (fun {x y} h => h.symm)).2 (List.Pairwise.imp (R := rlt) (S := fun a b => rlt a b ∨ rlt b a) .inl h.strict)
  have h2 : l'.Pairwise (fun x y => ¬ rlt y x) := List.Pairwise.imp (R := fun x y => ltOf rcmp y x = false) (S := fun x y => ¬ rlt y x) (fun {x y} k q => by rw [rcmp_lt q] at k; cases k) hs'
  exact (h1.and h2).imp (fun {x y} hxy => hxy.1.elim id (fun k => absurd k hxy.2))
end Go.Proofs.YtojjnfhgldjgbaaGreatDoor.Store
end
section
set_option linter.unusedVariables false
set_option linter.unusedSimpArgs false
namespace Go.Por
open Go.RowKit
/-- Nil, or none that is. -/
def NilOk (v : Value) : Prop := v = .slice none 0 0 ∨ ∃ a n cap, v = .slice (some a) n cap
section
variable {α : Type} {P : Program} {t E : TypeId} {f : α → List Value} {c bytes : Nat} {w : World} {v u : Value} {l m : List α}
theorem run_pushAll (H : Elem P t E f c bytes) (ty : TypeId) (hown : OwnS f c w E v l) (hr : ReadS f c w u m) (hu : NilOk u) (hb : (l.length + m.length) * bytes ≤ 140737488355328) (h63 : l.length + m.length ≤ maxLen) :
    ∃ v' w', (Builtin.append_ #[t, t] ty #[v, u]).run P w = .ok v' w' ∧ OwnS f c w' E v' (l ++ m) ∧ Mod (fun k => some k = v.ownBlock) w w' ∧ ∀ k, v'.ownBlock = some k → v.ownBlock = some k ∨ w.heap.size ≤ k := by
  obtain ⟨i, z, hi, hz, hs, hby, hzc⟩ := H.info
  obtain ⟨ao, cap, rfl, hlen⟩ := hr.form
  rcases hu with e | ⟨a, n', cap', e⟩
  · simp only [Value.slice.injEq] at e
    obtain ⟨rfl, h0, rfl⟩ := e
    have hm : m = [] := List.length_eq_zero_iff.1 h0
    subst hm
    refine ⟨v, w, run_append_owned_none w 0 t ty E i c H.und hi v l.length (l.flatMap f) hown, by rw [List.append_nil]; exact hown, Mod.refl _ _, fun k hk => .inl hk⟩
  · simp only [Value.slice.injEq] at e
    obtain ⟨rfl, -, -⟩ := e
    have hnews : ∀ j u, (m.flatMap f)[j]? = some u → w.cell? (a.add j) = some u := fun j u hj => by
      have hj' : j < m.length * c := by
        have := (List.getElem?_eq_some_iff.1 hj).1
        rwa [flat_length H.len] at this
      have hc := H.pos
      have hd : j / c < m.length := (Nat.div_lt_iff_lt_mul hc).2 hj'
      have hx := List.getElem?_eq_getElem hd
      obtain ⟨b, o, e, hra⟩ := hr.at hx
      cases e
      have hjj := Nat.mod_lt j hc
      have h1 := flat_at H.len m (j / c) (j % c) hjj
      have e1 : j / c * c + j % c = j := by rw [Nat.mul_comm]; exact Nat.div_add_mod j c
      rw [e1, hj, hx] at h1
      have h2 : (⟨b, o, none⟩ : Addr).add j = ⟨b, o + (j / c * c) + j % c, none⟩ := by
        unfold Addr.add
        split
        · rename_i e; rw [e]; simp
        · rw [Nat.add_assoc, e1]
      rw [h2]
      exact hra _ _ h1.symm
    have h1 : ∀ u ∈ m.flatMap f, u.oneCell' = true := fun u hu => by
      obtain ⟨x, _, hx⟩ := List.mem_flatMap.1 hu
      exact H.one x u hx
    obtain ⟨v', w', hr, h2, h3, h4⟩ := run_append_own2 (P := P) w 0 t ty E i z c bytes H.und hi hz hs hby hzc H.pos v l.length (l.flatMap f) hown a m.length cap (m.flatMap f) (flat_length H.len m) hnews h1 h63 hb (Nat.zero_le _)
    refine ⟨v', w', hr, ?_, Mod.of_grown h3, h4⟩
    unfold OwnS
    rw [List.length_append, List.flatMap_append]
    exact h2
theorem wpList_pushAll {ops : Array Oper} {rest : List Oper} {o : Oper} {a : Act} {Q : Exit → Act → World → Prop} (H : Elem P t E f c bytes) (hgd : o.guard = none) (s x0 : Operand)
    (ho : o.op = .call { callee := .builtin .append, args := #[s, x0], argTypes := #[t, t] }) (hs : a.eval s = v) (hown : OwnS f c w E v l) (hx : a.eval x0 = u) (hr : ReadS f c w u m) (hu : NilOk u)
    (hb : (l.length + m.length) * bytes ≤ 140737488355328) (h63 : l.length + m.length ≤ maxLen)
    (h : ∀ v' w', OwnS f c w' E v' (l ++ m) → Mod (fun k => some k = v.ownBlock) w w' → (∀ k, v'.ownBlock = some k → v.ownBlock = some k ∨ w.heap.size ≤ k) → wpList P ops Q rest (a.put o.dst v') w') : wpList P ops Q (o :: rest) a w := by
  refine wpList_plain hgd fun K' hK' => ?_
  obtain ⟨v', w', hrun, h2, h3, h4⟩ := run_pushAll H o.type hown hr hu hb h63
  unfold Oper.wp execOp
  simp only [ho, resolve, invoke, builtin, Sem.run_bind, Sem.run_pure, Result.andThen_ok, List.map_toArray, List.map_cons, List.map_nil, hs, hx, hrun]
  exact hK' _ _ (h v' w' h2 h3 h4)
end
end Go.Por
end
section
set_option linter.unusedVariables false
set_option linter.unusedSimpArgs false
namespace Go.Proofs.YtojjnfhgldjgbaaGreatDoor.Store
open Go.RowKit Go.Por Go.Sort Go.Proofs.YtojjnfhgldjgbaaGreatDoor.Watch Go.Por.Tupl
theorem own_below {α : Type} {f : α → List Value} {c : Nat} {w w' : World} {E : TypeId} {v : Value} {l : List α} (h : OwnS f c w E v l) (hb : Below w.heap.size w w') : OwnS f c w' E v l :=
  h.mod (S := fun _ => False) (Mod.of_below hb _) (fun _ _ h => h)
theorem own_blk_lt {α : Type} {f : α → List Value} {c : Nat} {w : World} {E : TypeId} {v : Value} {l : List α} (h : OwnS f c w E v l) {k : Nat} (hk : v.ownBlock = some k) : k < w.heap.size := by
  rcases h.form with ⟨rfl, _⟩ | ⟨g, cap, rfl, _, _⟩
  · simp [Value.ownBlock] at hk
  · simp only [Value.ownBlock, Option.some.injEq] at hk
    rw [← hk]
    exact h.lt
theorem nil_form {α : Type} {f : α → List Value} {c : Nat} {w : World} {E : TypeId} {v : Value} {l : List α} (h : OwnS f c w E v l) : NilOk v := by
  rcases h.form with ⟨rfl, _⟩ | ⟨g, cap, rfl, _, _⟩
  · exact .inl rfl
  · exact .inr ⟨_, _, _, rfl⟩
theorem outL_small (rows : List RowT) (fr up : Int) : (outL fr up rows).length ≤ 2 * rows.length := by
  unfold outL
  induction rows with
  | nil => simp
  | cons r rows ih =>
    rw [List.flatMap_cons, List.length_append, List.length_cons]
    have h1 : (rowAdd fr up r).length ≤ 2 := by
      unfold rowAdd
      have h2 := addL_length fr up r.2.1 false r.1
      have h3 := addL_length fr up r.2.2 true r.1
      split
      · simp
      · rw [List.length_append]
        split
        · omega
        · simp; omega
    omega
/-- What the rows of a script are. -/
theorem stored_ok {ml : List (List Mut)} {l : List RowT} (p : l.Perm (flatA (runN ([], [], []) 0 ml).1)) (s : l.Pairwise (fun x y => ¬ rlt y x)) (ht : total ml ≤ 1048576) : RowsOk l ∧ l.length ≤ 1048576 := by
  have hinv := runN_inv ml (x := ([], [], [])) 0 Inv.nil
  have hfl := runN_len ml (x := ([], [], [])) 0 Inv.nil
  have e0 : (flatA (([], [], []) : St3).1).length = 0 := rfl
  rw [e0] at hfl
  exact ⟨RowsOk.of hinv.good p s, by rw [p.length_eq]; omega⟩
theorem chg_len {rows : List RowT} {fr up : Int} {l : List Chg} (h : Stab.Stab (ltOf ccmp) (outL fr up rows) l) (hl : rows.length ≤ 1048576) : l.length ≤ 2097152 := by
  have h1 := outL_small rows fr up
  have h2 := (stab_perm chgSwo h).length_eq
  omega
theorem out_room {rows : List RowT} (hl : rows.length ≤ 1048576) (fr up : Int) : ((outL fr up rows).length + 2) * 64 ≤ 140737488355328 := by
  have h1 := outL_small rows fr up
  omega
set_option maxRecDepth 100000 in
set_option maxHeartbeats 1600000 in
theorem splits_any {w : World} {v : Value} {ms : List (Value × List Mut)} (h : ScriptIs w v ms) (cut : Int) :
    Calls Tryz.prog 3 #[v, .int .i64 cut] w fun e w' => e = .returned (.bool true) ∧ Below w.heap.size w w' := by
  obtain ⟨ml, hml⟩ : ∃ ml, ms.map (·.2) = ml := ⟨_, rfl⟩
  have htot := h.tot
  rw [hml] at htot
  obtain ⟨B, hB⟩ : ∃ B, w.heap.size = B := ⟨_, rfl⟩
  rw [hB]
  obtain ⟨c, hc⟩ : ∃ c : Int, (if cut < 0 ∨ 1125899906842624 < cut then 0 else cut) = c := ⟨_, rfl⟩
  have hc0 : 0 ≤ c ∧ c ≤ 1125899906842624 := by rw [← hc]; split <;> omega
  have HH := Lib.hid (And.intro h (And.intro hml (And.intro htot (And.intro hB (And.intro hc hc0)))))
  clear h hml htot hB hc hc0
  go_enter Tryz.func3, Tryz.ntmps3
  go_wp2_with fail
  refine (Watch.awake_any w).mono ?_
  rintro e w1 ⟨rfl, b1⟩
  have hs1 := HH.out.1.below b1
  rw [HH.out.2.2.2.1] at b1
  have H1 := Lib.hid (And.intro hs1 (And.intro b1 (show B ≤ w1.heap.size by have h1 := b1.size; have h2 := HH.out.2.2.2.1; omega)))
  clear hs1 b1
  go_wp2_with fail
  refine (stored_any H1.out.1).mono ?_
  rw [HH.out.2.1]
  rintro e w2 ⟨v2, l2, rfl, p2, s2, o2, b2, n2⟩
  have hk := stored_ok p2 s2 HH.out.2.2.1
  have z2 := b2.size
  have H2 := Lib.hid (And.intro hk (And.intro o2 (And.intro (H1.out.2.1.trans (b2.mono H1.out.2.2)) (show B ≤ w2.heap.size by have h1 := H1.out.2.2; omega))))
  clear hk p2 s2 o2 b2 n2 z2
  go_wp2_with fail
  refine (changes_any (H2.out.2.1.read rowC_len') 0 1125899906842624 (out_room H2.out.1.2 _ _)).mono ?_
  rintro e w3 ⟨v3, l3, rfl, S3, K3, o3, b3, n3⟩
  have z3 := b3.size
  have H3 := Lib.hid (And.intro S3 (And.intro K3 (And.intro o3 (And.intro (own_below H2.out.2.1 b3) (And.intro (H2.out.2.2.1.trans (b3.mono H2.out.2.2.2)) (show B ≤ w3.heap.size by have h1 := H2.out.2.2.2; omega))))))
  clear S3 K3 o3 b3 n3 z3
  obtain ⟨bad, hbad⟩ : ∃ b : Bool, decide (cut < 0 ∨ 1125899906842624 < cut) = b := ⟨_, rfl⟩
  go_upto_region 5 with fail
  go_cut [19] (fun s19 wx => s19 = .bool bad ∧ wx = w3)
  case first =>
    by_cases h1 : cut < 0
    · have hcc : bad = true := by rw [← hbad]; exact decide_eq_true (.inl h1)
      subst hcc
      go_wp2
      go_meet
      exact ⟨rfl, rfl⟩
    · by_cases h2 : 1125899906842624 < cut
      · have hcc : bad = true := by rw [← hbad]; exact decide_eq_true (.inr h2)
        subst hcc
        go_wp2
        go_meet
        exact ⟨rfl, rfl⟩
      · have hcc : bad = false := by rw [← hbad]; exact decide_eq_false (by omega)
        subst hcc
        go_wp2
        go_meet
        exact ⟨rfl, rfl⟩
  case rest =>
   obtain ⟨rfl, rfl⟩ := hcut
   have HB := Lib.hid hbad
   clear hbad
   go_upto_if 19 with fail
   go_cut [1] (fun s1 wx => s1 = .int .i64 c ∧ wx = wc)
   case first =>
    cases bad with
    | true =>
      have hcc : c = 0 := by rw [← HH.out.2.2.2.2.1, if_pos (of_decide_eq_true HB.out)]
      subst hcc
      go_wp2
      go_meet
      exact ⟨rfl, rfl⟩
    | false =>
      have hcc : c = cut := by rw [← HH.out.2.2.2.2.1, if_neg (of_decide_eq_false HB.out)]
      subst hcc
      go_wp2
      go_meet
      exact ⟨rfl, rfl⟩
   case rest =>
    obtain ⟨rfl, rfl⟩ := hcut
    go_wp2_with fail
    refine (changes_any (H3.out.2.2.2.1.read rowC_len') 0 c (out_room H2.out.1.2 _ _)).mono ?_
    rintro e w4 ⟨v4, l4, rfl, S4, K4, o4, b4, n4⟩
    have z4 := b4.size
    have H4 := Lib.hid (And.intro S4 (And.intro K4 (And.intro o4 (And.intro (own_below H3.out.2.2.2.1 b4) (And.intro (own_below H3.out.2.2.1 b4) (And.intro (H3.out.2.2.2.2.1.trans (b4.mono H3.out.2.2.2.2.2)) (And.intro (show B ≤ w4.heap.size by have h1 := H3.out.2.2.2.2.2; omega) n4)))))))
    clear S4 K4 o4 b4 n4 z4
    go_wp2_with fail
    refine (changes_any (H4.out.2.2.2.1.read rowC_len') c 1125899906842624 (out_room H2.out.1.2 _ _)).mono ?_
    rintro e w5 ⟨v5, l5, rfl, S5, K5, o5, b5, n5⟩
    have z5 := b5.size
    have e45 : l4 ++ l5 = l3 := splits_all HH.out.2.2.2.2.2.1 HH.out.2.2.2.2.2.2 H4.out.1 H4.out.2.1 S5 K5 H3.out.1 H3.out.2.1
    have hl4 := chg_len H4.out.2.1 H2.out.1.2
    have hl5 := chg_len K5 H2.out.1.2
    have hl3 := chg_len H3.out.2.1 H2.out.1.2
    have H5 := Lib.hid (And.intro (own_below H4.out.2.2.1 b5) (And.intro o5 (And.intro (own_below H4.out.2.2.2.1 b5) (And.intro (own_below H4.out.2.2.2.2.1 b5) (And.intro (H4.out.2.2.2.2.2.1.trans (b5.mono H4.out.2.2.2.2.2.2.1)) (And.intro (show B ≤ w5.heap.size by have h1 := H4.out.2.2.2.2.2.2.1; omega) (And.intro e45 (And.intro hl4 (And.intro hl5 hl3)))))))))
    have hd3 : ∀ k, v4.ownBlock = some k → wc.heap.size ≤ k := H4.out.2.2.2.2.2.2.2
    have H6 := Lib.hid hd3
    clear S5 K5 o5 b5 n5 z5 e45 hl4 hl5 hl3 hd3
    go_wp2_with (first
      | (at_builtin; refine wpList_pushAll elemChg rfl _ _ rfl rfl H5.out.1 rfl (H5.out.2.1.read chgC_len) (nil_form H5.out.2.1) ?c1 ?c2 ?_))
    case c1 => have h1 := H5.out.2.2.2.2.2.2.2.1; have h2 := H5.out.2.2.2.2.2.2.2.2.1; omega
    case c2 => have h1 := H5.out.2.2.2.2.2.2.2.1; have h2 := H5.out.2.2.2.2.2.2.2.2.1; unfold maxLen; omega
    intro v6 w6 ho6 hk6 hb6
    rw [H5.out.2.2.2.2.2.2.1] at ho6
    have z6 := hk6.size
    have f2 : ∀ k, v2.ownBlock = some k → ¬ some k = v4.ownBlock := fun k hk e => by have h1 := H6.out k e.symm; have h2 := own_blk_lt H3.out.2.2.2.1 hk; omega
    have f3 : ∀ k, v3.ownBlock = some k → ¬ some k = v4.ownBlock := fun k hk e => by have h1 := H6.out k e.symm; have h2 := own_blk_lt H3.out.2.2.1 hk; omega
    have H7 := Lib.hid (And.intro ho6 (And.intro (H5.out.2.2.1.mod hk6 f2) (And.intro (H5.out.2.2.2.1.mod hk6 f3) (And.intro (H5.out.2.2.2.2.1.trans (hk6.to_below H5.out.2.2.2.2.2.1 (fun k hk => by have h1 := H6.out k hk.symm; have h2 := H3.out.2.2.2.2.2; omega))) (show B ≤ w6.heap.size by have h1 := H5.out.2.2.2.2.2.1; omega)))))
    clear ho6 hk6 hb6 z6 f2 f3
    go_wp2_with fail
    refine (plain_any (H7.out.2.2.1.read chgC_len) (by have h1 := H5.out.2.2.2.2.2.2.2.2.2; omega)).mono ?_
    rintro e w7 ⟨v7, rfl, o7, b7, _⟩
    have z7 := b7.size
    have H8 := Lib.hid (And.intro o7 (And.intro (own_below H7.out.1 b7) (And.intro (own_below H7.out.2.1 b7) (And.intro (own_below H7.out.2.2.1 b7) (And.intro (H7.out.2.2.2.1.trans (b7.mono H7.out.2.2.2.2)) (show B ≤ w7.heap.size by have h1 := H7.out.2.2.2.2; omega))))))
    clear o7 b7 z7
    go_wp2_with fail
    refine (same_any (H8.out.2.1.read chgC_len) (H8.out.1.read chgC_len) (by have h1 := H5.out.2.2.2.2.2.2.2.2.2; omega)).mono ?_
    rintro e w8 ⟨rfl, b8⟩
    rw [decide_eq_true (rfl : l3 = l3)]
    have z8 := b8.size
    have H9 := Lib.hid (And.intro (own_below H8.out.2.2.1 b8) (And.intro (own_below H8.out.2.2.2.1 b8) (And.intro (H8.out.2.2.2.2.1.trans (b8.mono H8.out.2.2.2.2.2)) (show B ≤ w8.heap.size by have h1 := H8.out.2.2.2.2.2; omega))))
    clear b8 z8
    go_wp2_with fail
    refine (rows_any (H9.out.2.1.read chgC_len) (by have h1 := H5.out.2.2.2.2.2.2.2.2.2; omega)).mono ?_
    rintro e w9 ⟨v9, l9, rfl, S9, K9, o9, b9, _⟩
    have e9 : l9 = l2 := rows_made H2.out.1.1 H3.out.1 H3.out.2.1 S9 K9
    have z9 := b9.size
    have HA := Lib.hid (And.intro e9 (And.intro o9 (And.intro (own_below H9.out.1 b9) (And.intro (H9.out.2.2.1.trans (b9.mono H9.out.2.2.2)) (show B ≤ w9.heap.size by have h1 := H9.out.2.2.2; omega)))))
    clear e9 S9 K9 o9 b9 z9
    go_wp2_with fail
    refine (same07_any (HA.out.2.1.read rowC_len') (HA.out.2.2.1.read rowC_len')).mono ?_
    rintro e w10 ⟨rfl, m10⟩
    rw [decide_eq_true HA.out.1]
    have HB := Lib.hid (HA.out.2.2.2.1.trans (m10.to_below HA.out.2.2.2.2 (fun _ h => h.elim)))
    clear m10
    go_wp2
    go_ret
    exact ⟨rfl, HB.out⟩
end Go.Proofs.YtojjnfhgldjgbaaGreatDoor.Store
end
section
set_option linter.unusedVariables false
set_option linter.unusedSimpArgs false
namespace Go.Proofs.YtojjnfhgldjgbaaGreatDoor.Store
open Go.RowKit Go.Por Go.Sort Go.Proofs.YtojjnfhgldjgbaaGreatDoor.Watch Go.Proofs.YtojjnfhgldjgbaaGreatDoor.Back Go.Por.Tupl
theorem atL_len (rows : List RowT) (rev : Int) : (atL rows rev).length ≤ rows.length := by
  unfold atL
  refine Nat.le_trans (compactL_le _) ?_
  rw [List.length_mergeSort]
  unfold thereL
  rw [List.length_map]
  exact List.length_filter_le _ _
theorem backL_len (l : List Chg) : (backL l).length = l.length := by unfold backL; rw [List.length_map, List.length_reverse]
set_option maxRecDepth 100000 in
set_option maxHeartbeats 1600000 in
theorem plays_any {w : World} {v : Value} {ms : List (Value × List Mut)} (h : ScriptIs w v ms) (fr up : Int) :
    Calls Tryz.prog 4 #[v, .int .i64 fr, .int .i64 up] w fun e w' => e = .returned (.bool true) ∧ Below w.heap.size w w' := by
  obtain ⟨ml, hml⟩ : ∃ ml, ms.map (·.2) = ml := ⟨_, rfl⟩
  have htot := h.tot
  rw [hml] at htot
  obtain ⟨B, hB⟩ : ∃ B, w.heap.size = B := ⟨_, rfl⟩
  rw [hB]
  have HH := Lib.hid (And.intro h (And.intro hml (And.intro htot hB)))
  clear h hml htot hB
  go_enter Tryz.func4, Tryz.ntmps4
  go_wp2_with fail
  refine (Watch.awake_any w).mono ?_
  rintro e w1 ⟨rfl, b1⟩
  have hs1 := HH.out.1.below b1
  rw [HH.out.2.2.2] at b1
  have H1 := Lib.hid (And.intro hs1 (And.intro b1 (show B ≤ w1.heap.size by have h1 := b1.size; have h2 := HH.out.2.2.2; omega)))
  clear hs1 b1
  by_cases hle : fr ≤ up
  · have hlt : ¬ up < fr := by omega
    have HL := Lib.hid hle
    clear hle
    go_wp2_with fail
    refine (stored_any H1.out.1).mono ?_
    rw [HH.out.2.1]
    rintro e w2 ⟨v2, l2, rfl, p2, s2, o2, b2, n2⟩
    have hk := stored_ok p2 s2 HH.out.2.2.1
    have z2 := b2.size
    have H2 := Lib.hid (And.intro hk (And.intro o2 (And.intro (H1.out.2.1.trans (b2.mono H1.out.2.2)) (show B ≤ w2.heap.size by have h1 := H1.out.2.2; omega))))
    clear hk p2 s2 o2 b2 n2 z2
    go_wp2_with fail
    refine (changes_any (H2.out.2.1.read rowC_len') fr up (out_room H2.out.1.2 _ _)).mono ?_
    rintro e w3 ⟨v3, l3, rfl, S3, K3, o3, b3, n3⟩
    have z3 := b3.size
    have hm3 : ∀ c, c ∈ l3 ↔ c ∈ outL fr up l2 := fun c => K3.mem chgSwo c
    have H3 := Lib.hid (And.intro S3 (And.intro hm3 (And.intro o3 (And.intro (own_below H2.out.2.1 b3) (And.intro (H2.out.2.2.1.trans (b3.mono H2.out.2.2.2)) (And.intro (show B ≤ w3.heap.size by have h1 := H2.out.2.2.2; omega) (chg_len K3 H2.out.1.2)))))))
    clear S3 K3 o3 b3 n3 z3 hm3
    go_wp2_with fail
    refine (Watch.at_any (H3.out.2.2.2.1.read rowC_len') fr (by have := H2.out.1.2; omega)).mono ?_
    rintro e w4 ⟨v4, rfl, o4, b4, _⟩
    have z4 := b4.size
    have H4 := Lib.hid (And.intro o4 (And.intro (own_below H3.out.2.2.1 b4) (And.intro (own_below H3.out.2.2.2.1 b4) (And.intro (H3.out.2.2.2.2.1.trans (b4.mono H3.out.2.2.2.2.2.1)) (show B ≤ w4.heap.size by have h1 := H3.out.2.2.2.2.2.1; omega)))))
    clear o4 b4 z4
    go_wp2_with fail
    refine (Watch.at_any (H4.out.2.2.1.read rowC_len') up (by have := H2.out.1.2; omega)).mono ?_
    rintro e w5 ⟨v5, rfl, o5, b5, _⟩
    have z5 := b5.size
    have H5 := Lib.hid (And.intro o5 (And.intro (own_below H4.out.1 b5) (And.intro (own_below H4.out.2.1 b5) (And.intro (H4.out.2.2.2.1.trans (b5.mono H4.out.2.2.2.2)) (And.intro (show B ≤ w5.heap.size by have h1 := H4.out.2.2.2.2; omega) (And.intro (Nat.le_trans (atL_len l2 fr) H2.out.1.2) (Nat.le_trans (atL_len l2 up) H2.out.1.2)))))))
    clear o5 b5 z5
    go_wp2_with fail
    refine (play_any (H5.out.2.1.read tupC_len) (H5.out.2.2.1.read chgC_len) (by have h1 := H5.out.2.2.2.2.2.1; have h2 := H3.out.2.2.2.2.2.2; omega)).mono ?_
    rintro e w6 ⟨v6, rfl, o6, b6, _⟩
    rw [play_forth H2.out.1.1 HL.out H3.out.1 H3.out.2.1] at o6
    have z6 := b6.size
    have H6 := Lib.hid (And.intro o6 (And.intro (own_below H5.out.1 b6) (And.intro (own_below H5.out.2.1 b6) (And.intro (own_below H5.out.2.2.1 b6) (And.intro (H5.out.2.2.2.1.trans (b6.mono H5.out.2.2.2.2.1)) (show B ≤ w6.heap.size by have h1 := H5.out.2.2.2.2.1; omega))))))
    clear o6 b6 z6
    go_wp2_with fail
    refine (tuples_any (H6.out.1.read tupC_len) (H6.out.2.1.read tupC_len)).mono ?_
    rintro e w7 ⟨rfl, m7⟩
    rw [decide_eq_true rfl]
    have b7 : Below B w6 w7 := m7.to_below H6.out.2.2.2.2.2 (fun _ h => h.elim)
    have z7 := m7.size
    have H7 := Lib.hid (And.intro (H6.out.2.1.mod m7 (fun _ _ h => h)) (And.intro (H6.out.2.2.1.mod m7 (fun _ _ h => h)) (And.intro (H6.out.2.2.2.1.mod m7 (fun _ _ h => h)) (And.intro (H6.out.2.2.2.2.1.trans b7) (show B ≤ w7.heap.size by have h1 := H6.out.2.2.2.2.2; omega)))))
    clear m7 b7 z7
    go_wp2_with fail
    refine (Back.back_any (H7.out.2.2.1.read chgC_len) (by have h2 := H3.out.2.2.2.2.2.2; omega)).mono ?_
    rintro e w8 ⟨v8, rfl, o8, b8, _⟩
    have z8 := b8.size
    have H8 := Lib.hid (And.intro o8 (And.intro (own_below H7.out.1 b8) (And.intro (own_below H7.out.2.1 b8) (And.intro (H7.out.2.2.2.1.trans (b8.mono H7.out.2.2.2.2)) (show B ≤ w8.heap.size by have h1 := H7.out.2.2.2.2; omega)))))
    clear o8 b8 z8
    go_wp2_with fail
    refine (play_any (H8.out.2.1.read tupC_len) (H8.out.1.read chgC_len) (by have h1 := H5.out.2.2.2.2.2.2; have h2 := H3.out.2.2.2.2.2.2; rw [backL_len]; omega)).mono ?_
    rintro e w9 ⟨v9, rfl, o9, b9, _⟩
    rw [play_back H2.out.1.1 HL.out H3.out.1 H3.out.2.1] at o9
    have z9 := b9.size
    have H9 := Lib.hid (And.intro o9 (And.intro (own_below H8.out.2.2.1 b9) (And.intro (H8.out.2.2.2.1.trans (b9.mono H8.out.2.2.2.2)) (show B ≤ w9.heap.size by have h1 := H8.out.2.2.2.2; omega))))
    clear o9 b9 z9
    go_wp2_with fail
    refine (tuples_any (H9.out.1.read tupC_len) (H9.out.2.1.read tupC_len)).mono ?_
    rintro e w10 ⟨rfl, m10⟩
    rw [decide_eq_true rfl]
    have HB := Lib.hid (H9.out.2.2.1.trans (m10.to_below H9.out.2.2.2 (fun _ h => h.elim)))
    clear m10
    go_wp2
    go_ret
    exact ⟨rfl, HB.out⟩
  · have hlt : up < fr := by omega
    clear hle
    go_wp2
    go_ret
    exact ⟨rfl, H1.out.2.1⟩
end Go.Proofs.YtojjnfhgldjgbaaGreatDoor.Store
end
