/- The outbox at keys string and values int: what it is in memory; New, Len, the search for a key. -/
import Derived.Test.YtepgaphhinacmaaRows
import Derived.Test.YtepgaphhinacmaaOwn
import Derived.BigRegion
import Derived.Outline
import Derived.Deep.LoopGhost
namespace Go.Proofs.Ytepgaphhinacmaa.OutOI
open Go.RowKit Go.Por

/-- A thing: its key, its value, its age. -/
abbrev It := ByteArray × Int × Int
/-- Its cells. -/
def cells (x : It) : List Value := [.string x.1, Value.int .i64 x.2.1, .int .i64 x.2.2]
theorem cells3 (x : It) : (cells x).length = 3 := rfl
theorem cells1 (x : It) : ∀ u ∈ cells x, u.oneCell' = true := by
  intro u hu
  simp only [cells, List.mem_cons, List.not_mem_nil, or_false] at hu
  rcases hu with rfl | rfl | rfl <;> rfl

/-- Where a key is; -1: nowhere. -/
def place (l : List It) (k : ByteArray) : Int :=
  match l.findIdx? (fun x => decide (x.1 = k)) with
  | some i => i
  | none => -1

/-- Block O is an outbox of these things. -/
structure OutIs (w : World) (O : Nat) (v : Value) (l : List It) (p s : Int) : Prop where
  root : w.heap[O]? = some (.cells #[v, .int .i64 p, .int .i64 s] 131 (0, 0))
  own : OwnS cells 3 w 134 v l

section
variable {w : World} {O : Nat} {v : Value} {l : List It} {p s : Int}
theorem OutIs.ne (H : OutIs w O v l p s) {g : Nat} (hg : v.ownBlock = some g) : O ≠ g := by
  rintro rfl
  obtain ⟨_, ⟨rfl, _⟩ | ⟨g, cap, cur, rfl, _, h, _⟩⟩ := H.own
  · simp [Value.ownBlock] at hg
  · simp only [Value.ownBlock, Option.some.injEq] at hg
    subst hg
    rw [H.root] at h
    simp at h
/-- The blocks of an outbox. -/
def ofoot (O : Nat) (v : Value) (x : Nat) : Prop := x = O ∨ v.ownBlock = some x
theorem OutIs.lt (H : OutIs w O v l p s) : ∀ x, ofoot O v x → x < w.heap.size := by
  intro x hx
  rcases hx with rfl | hx
  · exact lt_block H.root
  · exact (World.ownsRow.lt H.own x hx).2
theorem OutIs.mod (H : OutIs w O v l p s) {S : Nat → Prop} {w' : World} (hm : Mod S w w') (hn : ∀ x, ofoot O v x → ¬ S x) : OutIs w' O v l p s where
  root := hm.old H.root (hn O (.inl rfl))
  own := H.own.mod hm (fun k hk => hn k (.inr hk))
theorem OutIs.items (H : OutIs w O v l p s) : w.cell? ⟨O, 0, none⟩ = some v := cell_of H.root rfl
theorem OutIs.period (H : OutIs w O v l p s) : w.cell? ⟨O, 1, none⟩ = some (.int .i64 p) := cell_of H.root rfl
theorem OutIs.size (H : OutIs w O v l p s) : w.cell? ⟨O, 2, none⟩ = some (.int .i64 s) := cell_of H.root rfl
end

theorem new_bad (p s : Int) (w : World) (h : p < 1 ∨ 1000 < p ∨ s < 1 ∨ 4096 < s) :
    Calls Try.prog 36 #[.int .i64 p, .int .i64 s] w fun e w' => e = .returned (.tuple #[.pointer none, .int .i64 1]) ∧ w = w' := by
  by_cases h1 : p < 1
  all_goals try by_cases h2 : 1000 < p
  all_goals try by_cases h3 : s < 1
  all_goals try have h4 : 4096 < s := by omega
  all_goals
    clear h
    go_enter Try.func36, Try.ntmps36
    go_wp2
    go_ret2
    exact ⟨rfl, rfl⟩
theorem new_good (p s : Int) (w : World) (h1 : 1 ≤ p) (h2 : p ≤ 1000) (h3 : 1 ≤ s) (h4 : s ≤ 4096) :
    Calls Try.prog 36 #[.int .i64 p, .int .i64 s] w fun e w' => e = .returned (.tuple #[.pointer (some ⟨w.heap.size, 0, none⟩), .int .i64 0]) ∧
      OutIs w' w.heap.size (.slice none 0 0) [] p s ∧ Below w.heap.size w w' := by
  go_enter Try.func36, Try.ntmps36
  go_wp2
  go_ret2
  exact ⟨rfl, ⟨block_new _ _, OwnS.nil _ _ _ _⟩, (Below.refl _ w).alloc (Nat.le_refl _) _⟩

theorem len_any {w : World} {O : Nat} {v : Value} {l : List It} {p s : Int} (H : OutIs w O v l p s) (hlen : l.length ≤ 4096) :
    Calls Try.prog 48 #[.pointer (some ⟨O, 0, none⟩)] w fun e w' => e = .returned (.int .i64 l.length) ∧ w = w' := by
  have c := H.items
  rcases H.own.form with ⟨rfl, rfl⟩ | ⟨g, cap, rfl, _⟩
  all_goals
    clear H
    go_enter Try.func48, Try.ntmps48
    go_wp2
    go_ret
    exact ⟨rfl, rfl⟩

theorem ask_any {kb : Nat} {key : ByteArray} (w : World) (hk : w.cell? ⟨kb, 0, none⟩ = some (.string key)) (hlt : kb < w.heap.size) (x : It) :
    Calls Try.prog 69 #[.agg #[.string x.1, Value.int .i64 x.2.1, .int .i64 x.2.2], .pointer (some ⟨kb, 0, none⟩)] w fun e w' => e = .returned (.bool (decide (x.1 = key))) ∧ Below w.heap.size w w' := by
  by_cases h : x.1 = key
  · have h1 := beq_yes h
    have h2 : decide (x.1 = key) = true := by simp [h]
    rw [h2]
    clear h h2
    go_enter Try.func69, Try.ntmps69
    go_wp2
    go_ret
    exact ⟨rfl, (Below.refl _ w).alloc (Nat.le_refl _) _⟩
  · have h1 := beq_no h
    have h2 : decide (x.1 = key) = false := by simp [h]
    rw [h2]
    clear h h2
    go_enter Try.func69, Try.ntmps69
    go_wp2
    go_ret
    exact ⟨rfl, (Below.refl _ w).alloc (Nat.le_refl _) _⟩
end Go.Proofs.Ytepgaphhinacmaa.OutOI
