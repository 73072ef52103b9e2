/- porterlaw10.CacheCuts: the question asked of each key, and what holds between the calls. -/
import Derived.Test.YtepgaphhinacmaaCacheJII
import Derived.Test.YtepgaphhinacmaaCacheTrueA
namespace Go.Proofs.Ytepgaphhinacmaa.CacheCuts
open Go.RowKit Go.Por Go.Proofs.Ytepgaphhinacmaa.CacheII
open Go.Proofs.Ytepgaphhinacmaa.CacheTrue (keyInt zeroInt)

theorem wrap_succ (a : Int) : wrap64 (wrap64 a + 1) = wrap64 (a + 1) := by unfold wrap64; omega
theorem wrap_zero : wrap64 0 = 0 := by unfold wrap64; omega
theorem wrap_one : wrap64 1 = 1 := by unfold wrap64; omega

/-- The box of the map, the box of the divisor, and how often each key was asked. -/
def Asked (ba bc Ma : Nat) (cut : Int) (ks : List Int) (w : World) : Prop :=
  w.heap[ba]? = some (.cells #[.map (some Ma)] 29 (0, 0)) ∧ w.heap[bc]? = some (.cells #[.int .i64 cut] 3 (0, 0)) ∧
  ∃ la, MapIs w Ma (fun n => Value.int .i64 n) la ∧ ∀ q v, (q, v) ∈ la ↔ q ∈ ks ∧ v = Value.int .i64 (wrap64 (ks.count q))

theorem Asked.mod {ba bc Ma : Nat} {cut : Int} {ks : List Int} {w w' : World} (h : Asked ba bc Ma cut ks w) {S : Nat → Prop} (hm : Mod S w w') (h1 : ¬ S ba) (h2 : ¬ S bc) (h3 : ¬ S Ma) : Asked ba bc Ma cut ks w' := by
  obtain ⟨a, b, la, c, d⟩ := h
  exact ⟨hm.old a h1, hm.old b h2, la, c.mod hm h3, d⟩

theorem Asked.look {ba bc Ma : Nat} {cut : Int} {ks : List Int} {w : World} (h : Asked ba bc Ma cut ks w) (k : Int) :
    (Instr.lookup 29 (.map (some Ma)) (.int .i64 k) false).run Try.prog w = .ok (.int .i64 (wrap64 (ks.count k))) w := by
  obtain ⟨_, _, la, hl, hx⟩ := h
  by_cases hk : k ∈ ks
  · exact hl.look_hit keyInt Try.underlying29 ((hx k _).2 ⟨hk, rfl⟩) false
  · have : k ∉ la.map Prod.fst := fun h1 => by
      obtain ⟨⟨q, v⟩, hp, rfl⟩ := List.mem_map.1 h1
      exact hk ((hx _ _).1 hp).1
    have h0 := hl.look_miss keyInt Try.underlying29 this (zeroInt w) false
    rw [List.count_eq_zero.2 hk, show wrap64 ((0 : Nat) : Int) = 0 from wrap_zero]
    exact h0

/-- The divisor's question. -/
def isCut (cut k : Int) : Bool := k.tmod cut == 0

set_option maxHeartbeats 400000 in
theorem ask_any {ba bc Ma : Nat} {cut : Int} (hc1 : 1 ≤ cut) (hc2 : cut ≤ 9) (w : World) (ks : List Int) (k : Int) (h : Asked ba bc Ma cut ks w) :
    Calls Try.prog 20 #[.int .i64 k, .pointer (some ⟨ba, 0, none⟩), .pointer (some ⟨bc, 0, none⟩)] w fun e w' =>
      e = .returned (.bool (isCut cut k)) ∧ Asked ba bc Ma cut (ks ++ [k]) w' ∧ Mod (fun b => b = Ma) w w' := by
  have hlk := h.look k
  have h0 := h
  obtain ⟨h1, h2, la, hl, hx⟩ := h
  have c1 := cell_of (i := 0) h1 rfl
  have c2 := cell_of (i := 0) h2 rfl
  obtain ⟨o, hst, hl'⟩ := hl.store keyInt Try.underlying29 k (.int .i64 (wrap64 (wrap64 (ks.count k) + 1)))
  have hne : ∀ b, b ≠ Ma → (setB w Ma o).heap[b]? = w.heap[b]? := fun b hb => by simp [setB, Ne.symm hb]
  have hMl := hl.lt
  have hba : ba ≠ Ma := by rintro rfl; obtain ⟨es, cl, hq, _⟩ := hl; rw [h1] at hq; simp at hq
  have hbc : bc ≠ Ma := by rintro rfl; obtain ⟨es, cl, hq, _⟩ := hl; rw [h2] at hq; simp at hq
  have h1' := (hne ba hba).trans h1
  have h2' := (hne bc hbc).trans h2
  have c2' := cell_of (i := 0) h2' rfl
  have HE := Lib.hid (And.intro hl' (And.intro h1' (And.intro h2' hx)))
  clear hl hl' h1 h2 h1' h2' hx hne hMl hba hbc h0
  go_enter Try.func20, Try.ntmps20
  go_wp2
  go_ret
  obtain ⟨hl', h1', h2', hx⟩ := HE.out
  refine ⟨rfl, ⟨h1', h2', _, hl', fun q v => ?_⟩, setB_mod _ _ _⟩
  rw [mem_mput, hx, List.count_append, wrap_succ]
  by_cases hq : q = k
  · subst hq
    simp
  · simp [hq, Ne.symm hq]
end Go.Proofs.Ytepgaphhinacmaa.CacheCuts
