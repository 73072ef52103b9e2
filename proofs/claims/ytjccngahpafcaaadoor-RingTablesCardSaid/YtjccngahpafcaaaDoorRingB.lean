/- The binary search over the ring's points. -/
import Derived.Test.YtjccngahpafcaaaDoorRingC
import Derived.Deep.CutBlock
namespace Go.Proofs.YtjccngahpafcaaaDoor.RingF
open Go.RowKit Go.Por Go.Sort

theorem ptc2 (x : Pt) : (ptc x).length = 2 := rfl
theorem ptc1 (x : Pt) : ∀ u ∈ ptc x, u.oneCell' = true := by
  intro u hu
  simp only [ptc, List.mem_cons, List.not_mem_nil, or_false] at hu
  rcases hu with rfl | rfl <;> rfl
/-- The first place from which on no point lies below a. -/
def BsPost (pts : List Pt) (a : Int) (w : World) (e : Ending) (w' : World) : Prop :=
  ∃ (i : Nat) (b : Bool), e = .returned (.tuple #[.int .i64 i, .bool b]) ∧ i ≤ pts.length ∧ (∀ k x, k < i → pts[k]? = some x → x.1 < a) ∧ (∀ k x, i ≤ k → pts[k]? = some x → a ≤ x.1) ∧ Below w.heap.size w w'

set_option maxRecDepth 100000 in
set_option maxHeartbeats 1600000 in
theorem bsearch_any {w : World} {g cap : Nat} {pts : List Pt} (H : OwnS ptc 2 w 54 (.slice (some ⟨g, 0, none⟩) pts.length cap) pts) (hl : pts.length ≤ 1000) (a : Int)
    (hs : ∀ (i j : Nat) (x y : Pt), i ≤ j → pts[i]? = some x → pts[j]? = some y → x.1 ≤ y.1) :
    Calls Tryd.prog 28 #[.slice (some ⟨g, 0, none⟩) pts.length cap, .int .u32 a, .func (.func 29) #[] #[]] w (BsPost pts a w) := by
  have HH := Lib.hid (And.intro H hs)
  clear H hs
  go_enter Tryd.func28, Tryd.ntmps28
  go_wp2
  go_loopg [9, 10] (pts.length) (fun gk i j wx => ∃ (p q : Nat), i = .int .i64 (p : Int) ∧ j = .int .i64 (q : Int) ∧ p ≤ q ∧ q ≤ pts.length ∧ q - p ≤ gk ∧ (∀ k x, k < p → pts[k]? = some x → x.1 < a) ∧ (∀ k x, q ≤ k → pts[k]? = some x → a ≤ x.1) ∧ Below w.heap.size w wx)
  case atStart => exact ⟨0, pts.length, rfl, rfl, by omega, by omega, by omega, fun k x h => by omega, fun k x h hx => by have := (List.getElem?_eq_some_iff.1 hx).1; omega, Below.refl _ _⟩
  case round =>
    obtain ⟨p, q, rfl, rfl, hpq, hql, hgk, hlo, hhi, hb⟩ := hrel
    have hHr : OwnS ptc 2 wr 54 (.slice (some ⟨g, 0, none⟩) pts.length cap) pts := OwnS.mod HH.out.1 (Mod.of_below hb (fun _ => False)) (fun _ _ h => h)
    by_cases hlt : p < q
    · have hlt1 : (p : Int) < (q : Int) := by omega
      obtain ⟨m, hm⟩ : ∃ m, (p + q) / 2 = m := ⟨_, rfl⟩
      have hm1 : p ≤ m := by omega
      have hm2 : m < q := by omega
      obtain ⟨x, hx⟩ : ∃ x, pts[m]? = some x := ⟨_, List.getElem?_eq_getElem (by omega)⟩
      have y0 : wr.cell? ⟨g, m * 2, none⟩ = some (.int .u32 x.1) := OwnS.cell ptc2 hHr hx (j := 0) (by omega) rfl
      have y1 : wr.cell? ⟨g, m * 2 + 1, none⟩ = some (.int .i64 x.2) := OwnS.cell ptc2 hHr hx (j := 1) (by omega) rfl
      have HT := Lib.hid (And.intro hlo (And.intro hhi (And.intro hb (And.intro hx (And.intro hm hgk)))))
      have hmi : ((p : Int) + (q : Int)) / 2 = (m : Int) := by omega
      clear hlo hhi hb hx hm hgk hHr
      by_cases hc : x.1 < a
      · have hv := cmp_lt hc
        have HC := Lib.hid (And.intro hc hv)
        clear hc hv
        go_wp2_with fail
        refine (closure2 x a _).mono ?_
        rintro e w1 ⟨rfl, hb1⟩
        rw [HC.out.2]
        have HB := Lib.hid hb1
        clear hb1
        go_wp2
        obtain ⟨hlo, hhi, hb, hx, hm, hgk⟩ := HT.out
        go_roundg (q - (m + 1))
        case measure => omega
        case rel =>
          refine ⟨m + 1, q, by go_num, rfl, by omega, hql, by omega, fun k z hk hz => ?_, hhi, hb.trans (HB.out.mono hb.size)⟩
          have h1 := HH.out.2 k m z x (by omega) hz hx
          have h2 := HC.out.1
          omega
      · have hv : ¬ Lib.compareInt x.1 a < 0 := by unfold Lib.compareInt; rw [if_neg hc]; split <;> omega
        have HC := Lib.hid hc
        clear hc
        go_wp2_with fail
        refine (closure2 x a _).mono ?_
        rintro e w1 ⟨rfl, hb1⟩
        have HB := Lib.hid hb1
        clear hb1
        go_wp2
        obtain ⟨hlo, hhi, hb, hx, hm, hgk⟩ := HT.out
        go_roundg (m - p)
        case measure => omega
        case rel =>
          refine ⟨p, m, rfl, rfl, by omega, by omega, by omega, hlo, fun k z hk hz => ?_, hb.trans (HB.out.mono hb.size)⟩
          have h1 := HH.out.2 m k x z (by omega) hx hz
          have h2 := HC.out
          omega
    · have hlt1 : ¬ (p : Int) < (q : Int) := by omega
      obtain rfl : p = q := by omega
      by_cases hpn : p < pts.length
      · have hpn1 : (p : Int) < (pts.length : Int) := by omega
        obtain ⟨x, hx⟩ : ∃ x, pts[p]? = some x := ⟨_, List.getElem?_eq_getElem hpn⟩
        have y0 : wr.cell? ⟨g, p * 2, none⟩ = some (.int .u32 x.1) := OwnS.cell ptc2 hHr hx (j := 0) (by omega) rfl
        have y1 : wr.cell? ⟨g, p * 2 + 1, none⟩ = some (.int .i64 x.2) := OwnS.cell ptc2 hHr hx (j := 1) (by omega) rfl
        have HT := Lib.hid (And.intro hlo (And.intro hhi hb))
        clear hlo hhi hb hx hgk hHr hlt
        go_wp2_with fail
        refine (closure2 x a _).mono ?_
        rintro e w1 ⟨rfl, hb1⟩
        have HB := Lib.hid hb1
        clear hb1
        go_wp2
        go_ret2
        exact ⟨p, _, rfl, hql, HT.out.1, HT.out.2.1, HT.out.2.2.trans (HB.out.mono HT.out.2.2.size)⟩
      · have hpn1 : ¬ (p : Int) < (pts.length : Int) := by omega
        have HT := Lib.hid (And.intro hlo (And.intro hhi hb))
        clear hlo hhi hb hgk hHr hlt
        go_wp2
        go_ret2
        exact ⟨p, _, rfl, hql, HT.out.1, HT.out.2.1, HT.out.2.2⟩
end Go.Proofs.YtjccngahpafcaaaDoor.RingF
