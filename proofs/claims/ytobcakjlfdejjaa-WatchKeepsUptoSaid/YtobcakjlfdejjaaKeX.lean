/- The law WatchKeeps of the watch, where what came in is of bulk at most 1048576: what is handed in is left as it was and : part 24 of 25: what it leans on. -/
import Derived.Test.YtobcakjlfdejjaaKeA
import Derived.Test.YtobcakjlfdejjaaKeB
import Derived.Test.YtobcakjlfdejjaaKeC
import Derived.Test.YtobcakjlfdejjaaKeD
import Derived.Test.YtobcakjlfdejjaaKeE
import Derived.Test.YtobcakjlfdejjaaKeF
import Derived.Test.YtobcakjlfdejjaaKeG
import Derived.Test.YtobcakjlfdejjaaKeH
import Derived.Test.YtobcakjlfdejjaaKeI
import Derived.Test.YtobcakjlfdejjaaKeJ
import Derived.Test.YtobcakjlfdejjaaKeK
import Derived.Test.YtobcakjlfdejjaaKeL
import Derived.Test.YtobcakjlfdejjaaKeM
import Derived.Test.YtobcakjlfdejjaaKeN
import Derived.Test.YtobcakjlfdejjaaKeO
import Derived.Test.YtobcakjlfdejjaaKeP
import Derived.Test.YtobcakjlfdejjaaKeQ
import Derived.Test.YtobcakjlfdejjaaKeR
import Derived.Test.YtobcakjlfdejjaaKeS
import Derived.Test.YtobcakjlfdejjaaKeT
import Derived.Test.YtobcakjlfdejjaaKeU
import Derived.Test.YtobcakjlfdejjaaKeV
import Derived.Test.YtobcakjlfdejjaaKeW
section
set_option linter.unusedVariables false
set_option linter.unusedSimpArgs false
namespace Go.Proofs.Ytobcakjlfdejjaa.PWatchKeepsR
open Go.RowKit Go.Por Go.Sort Go.Proofs.Ytobcakjlfdejjaa.Watch Go.Proofs.YtobcakjlfdejjaaW.PrintWords Go.Proofs.Ytobcakjlfdejjaa.PWatchKeeps

theorem bind_at {α β : Type} (a : α) (g : α → Option β) : (some a).bind g = g a := by
  cases h : g a with
  | none => exact h
  | some b => exact h
theorem wrap_small {i : Int} (h0 : -4611686018427387904 ≤ i) (h : i ≤ 4611686018427387904) : wrap64 i = i := by unfold wrap64; omega
theorem wrap_succ {i : Nat} (h : i < 4611686018427387904) : wrap64 ((i : Int) + 1) = ((i + 1 : Nat) : Int) := by rw [wrap_small (by omega) (by omega)]; omega
abbrev SpT := S37
def spT (x : Tup) : SpT := ⟨x.1, x.2.1, x.2.2⟩
theorem drop_at {α : Type} {l : List α} {t : Nat} {x : α} (hx : l[t]? = some x) : l.drop t = x :: l.drop (t + 1) := by
  obtain ⟨h, e⟩ := List.getElem?_eq_some_iff.1 hx
  rw [List.drop_eq_getElem_cons h, e]
theorem take_at {α : Type} {l : List α} {t : Nat} {x : α} (hx : l[t]? = some x) : l.take (t + 1) = l.take t ++ [x] := by
  rw [List.take_add_one, hx]
  rfl
abbrev SpC := S43
abbrev SpD := S59
def spC (x : Chg) : SpC := ⟨x.1, ⟨x.2.1, spT x.2.2⟩⟩
def spD (x : Chg) : SpD := ⟨x.1, x.2.1, spT x.2.2⟩
theorem rdC {l : List Chg} {t : Nat} {x : Chg} (hx : l[t]? = some x) : rd_T43 (l.map spC) (t : Int) = spC x := by
  unfold rd_T43
  rw [Int.toNat_natCast, List.getD_eq_getElem?_getD, List.getElem?_map, hx]
  rfl
theorem rdD {l : List Chg} {t : Nat} {x : Chg} (hx : l[t]? = some x) : rd_T59 (l.map spD) (t : Int) = spD x := by
  unfold rd_T59
  rw [Int.toNat_natCast, List.getD_eq_getElem?_getD, List.getElem?_map, hx]
  rfl
theorem plain_l (l : List Chg) (hl : l.length < 2199023255552) : ∀ (d i k : Nat), i + d = l.length → d < k →
    porterlaw22_plain.l0 k ((l.take i).map spD) (l.map spC) (l.length : Int) (i : Int) = some (l.map spD)
  | 0, i, k + 1, hi, _ => by
    rw [porterlaw22_plain.l0, if_neg (by omega), List.take_of_length_le (by omega)]
  | d + 1, i, k + 1, hi, hk => by
    obtain ⟨x, hx⟩ : ∃ x, l[i]? = some x := ⟨_, List.getElem?_eq_getElem (by omega)⟩
    have ih := plain_l l hl d (i + 1) k (by omega) (by omega)
    rw [take_at hx, List.map_append] at ih
    rw [porterlaw22_plain.l0, if_pos (by omega), if_pos (by omega), if_pos (by rw [List.length_map]; omega), if_pos (by rw [List.length_map, List.length_take]; omega), rdC hx, wrap_succ (by omega)]
    exact ih
theorem plain_f (l : List Chg) (hl : l.length < 2199023255552) {k : Nat} (hk : l.length < k) : porterlaw22_plain.f k (l.map spC) = some (l.map spD) := by
  have h := plain_l l hl l.length 0 k (by omega) hk
  rw [List.take_zero, List.map_nil] at h
  unfold porterlaw22_plain.f
  rw [List.length_map]
  exact h
theorem bneD (x y : Chg) : ((!((spD x).f0 == (spD y).f0) || (!((spD x).f1 == (spD y).f1) || ((!((spD x).f2.f0.toList == (spD y).f2.f0.toList) || (!((spD x).f2.f1.toList == (spD y).f2.f1.toList) || (!((spD x).f2.f2.toList == (spD y).f2.f2.toList))))))) = true) ↔ x ≠ y := by
  obtain ⟨x0, x1, x2, x3, x4⟩ := x
  obtain ⟨y0, y1, y2, y3, y4⟩ := y
  simp only [spD, spT, bytes_beq, ne_eq, Prod.mk.injEq]
  by_cases h0 : x0 = y0 <;> by_cases h1 : x1 = y1 <;> by_cases h2 : x2 = y2 <;> by_cases h3 : x3 = y3 <;> by_cases h4 : x4 = y4 <;> simp_all
theorem same_l (a b : List Chg) (hab : a.length = b.length) (hl : a.length < 2199023255552) : ∀ (d i k : Nat), i + d = a.length → d < k →
    porterlaw22_same.l0 k (b.map spD) (a.map spD) (a.length : Int) (i : Int) = some (decide (a.drop i = b.drop i))
  | 0, i, k + 1, hi, _ => by
    rw [porterlaw22_same.l0, if_neg (by omega), List.drop_eq_nil_of_le (by omega), List.drop_eq_nil_of_le (by omega)]
    rfl
  | d + 1, i, k + 1, hi, hk => by
    obtain ⟨x, hx⟩ : ∃ x, a[i]? = some x := ⟨_, List.getElem?_eq_getElem (by omega)⟩
    obtain ⟨y, hy⟩ : ∃ y, b[i]? = some y := ⟨_, List.getElem?_eq_getElem (by omega)⟩
    have ih := same_l a b hab hl d (i + 1) k (by omega) (by omega)
    rw [porterlaw22_same.l0, if_pos (by omega), if_pos (by omega), if_pos (by rw [List.length_map]; omega), if_pos (by rw [List.length_map]; omega), rdD hx, rdD hy, drop_at hx, drop_at hy]
    by_cases hxy : x = y
    · rw [if_neg (fun h => (bneD x y).1 h hxy), wrap_succ (by omega), ih]
      refine congrArg some ?_
      rw [decide_eq_decide, List.cons.injEq]
      exact ⟨fun h => ⟨hxy, h⟩, fun h => h.2⟩
    · rw [if_pos ((bneD x y).2 hxy), decide_eq_false (fun h => hxy (List.cons.inj h).1)]
theorem same_f (a b : List Chg) (hl : a.length < 2199023255552) {k : Nat} (hk : a.length < k) : porterlaw22_same.f k (a.map spC) (b.map spD) = some (decide (a = b)) := by
  unfold porterlaw22_same.f
  rw [plain_f a hl hk, bind_at, List.length_map, List.length_map]
  by_cases hab : a.length = b.length
  · rw [if_pos (by omega)]
    exact same_l a b hab hl a.length 0 k (by omega) hk
  · rw [if_neg (by omega), decide_eq_false (fun h => hab (by rw [h]))]
end Go.Proofs.Ytobcakjlfdejjaa.PWatchKeepsR
end
section
namespace Go.Por
open Go.RowKit Go.Proofs.YtobcakjlfdejjaaW.PrintWords

section
variable {α : Type} {f : α → List Value} {c : Nat}
theorem reps_flat (hf : ∀ x, (f x).length = c) : ∀ {ps : List α} {cs : List Value}, Reps (fun p cs => cs = f p) c ps cs ↔ cs = ps.flatMap f
  | [], cs => by
    constructor
    · intro h
      have := h.1
      simpa using this
    · rintro rfl
      exact Reps.none _ _
  | p :: ps, cs => by
    constructor
    · intro h
      have h0 : cs.take c = f p := by simpa using h.2 0 p rfl
      have hl : cs.length = (ps.length + 1) * c := h.1
      have h1 : cs.drop c = ps.flatMap f := (reps_flat hf).1 ⟨by rw [List.length_drop, hl, Nat.add_mul]; omega, fun j q hq => by
        have := h.2 (j + 1) q hq
        rw [Nat.add_mul, Nat.one_mul, Nat.add_comm, ← List.drop_drop] at this
        exact this⟩
      rw [← List.take_append_drop c cs, h0, h1]
      rfl
    · rintro rfl
      have h1 := (reps_flat hf).2 (rfl : ps.flatMap f = ps.flatMap f)
      refine ⟨by rw [flat_length hf], fun j q hq => ?_⟩
      cases j with
      | zero =>
        simp only [List.getElem?_cons_zero, Option.some.injEq] at hq
        subst hq
        simp only [Nat.zero_mul, List.drop_zero, List.flatMap_cons]
        exact List.take_left' (hf p)
      | succ j =>
        have := h1.2 j q hq
        rw [Nat.add_mul, Nat.one_mul, Nat.add_comm, ← List.drop_drop, List.flatMap_cons, List.drop_left' (hf p)]
        exact this
theorem kd_flat {d : Kd α} {e : Nat} (hsz : d.sz = c) (hM : ∀ w base ok x cs, d.M w base ok x cs ↔ cs = f x) (hf : ∀ x, (f x).length = c) {w : World} {base : Nat} {ok : Nat → Prop} {v : Value} {xs : List α} :
    Kd.R d e w base ok v xs ↔ (∀ k, v.ownBlock = some k → ok k) ∧ w.ownsRow base e c v xs.length (xs.flatMap f) := by
  subst hsz
  constructor
  · rintro ⟨h1, inner, h2, h3⟩
    refine ⟨h1, ?_⟩
    rw [← (reps_flat hf).1 (h3.imp_ (fun p cs h => (hM _ _ _ _ _).1 h))]
    exact h2
  · rintro ⟨h1, h2⟩
    exact ⟨h1, _, h2, ((reps_flat hf).2 rfl).imp_ (fun p cs h => (hM _ _ _ _ _).2 h)⟩
end
end Go.Por
end
section
set_option linter.unusedVariables false
set_option linter.unusedSimpArgs false
namespace Go.Por
open Go.RowKit Go.Proofs.YtobcakjlfdejjaaW.PrintWords

theorem addr_add (b o k : Nat) : (⟨b, o, none⟩ : Addr).add k = ⟨b, o + k, none⟩ := by
  unfold Addr.add
  split
  · rename_i e; rw [e, Nat.add_zero]
  · rfl
section
variable {α β : Type} {f : α → List Value} {c : Nat} {d : Kd β} {g : α → β} {w : World} {A : Option Addr} {n cap : Nat} {l : List α} {v : Value} {e base : Nat} {ok : Nat → Prop}
theorem C_of_read (hsz : d.sz = c) (hK : ∀ w x, d.K w (g x) (f x)) (hl : ∀ x, (f x).length = c) (h : ReadS f c w (.slice A n cap) l) : Kd.C d w A (l.map g).length (l.map g) := by
  obtain ⟨ao, cap', h1, h2, h3⟩ := h
  simp only [Value.slice.injEq] at h1
  obtain ⟨rfl, rfl, rfl⟩ := h1
  subst hsz
  refine ⟨rfl, by rw [List.length_map]; exact h2, fun hp => ?_⟩
  rw [List.length_map] at hp
  obtain ⟨b, o, cs, rfl, _, _, _⟩ := h3 0 l[0] (List.getElem?_eq_getElem hp)
  refine ⟨_, rfl, fun j p hj => ?_⟩
  rw [List.getElem?_map] at hj
  cases hx : l[j]? with
  | none => rw [hx] at hj; cases hj
  | some x =>
    rw [hx] at hj
    simp only [Option.map_some, Option.some.injEq] at hj
    subst hj
    obtain ⟨b', o', cs, e, hlc, hcell, rfl⟩ := h3 j x hx
    simp only [Option.some.injEq, Addr.mk.injEq, and_true] at e
    obtain ⟨rfl, rfl⟩ := e
    refine ⟨f x, hl x, hK w x, fun i u hu => ?_⟩
    rw [addr_add, ← Nat.add_assoc]
    exact hcell i u hu
theorem own_of_R {f' : β → List Value} (hsz : d.sz = c) (hM : ∀ w base ok x cs, d.M w base ok x cs ↔ cs = f' x) (hl : ∀ x, (f' x).length = c) (hg : ∀ x, f' (g x) = f x) (h : Kd.R d e w base ok v (l.map g)) : OwnS f c w e v l ∧ ∀ k, v.ownBlock = some k → base ≤ k := by
  have h1 := ((kd_flat hsz hM hl).1 h).2
  refine ⟨?_, fun k hk => own_base h1 k hk⟩
  unfold OwnS
  have e1 : (l.map g).flatMap f' = l.flatMap f := by
    rw [List.flatMap_map]
    congr 1
    funext x
    exact hg x
  rw [e1, List.length_map] at h1
  exact own_weaken h1 (Nat.zero_le _)
end
end Go.Por
end
