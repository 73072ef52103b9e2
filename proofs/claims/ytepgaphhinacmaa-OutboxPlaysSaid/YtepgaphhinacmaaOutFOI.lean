/- The outbox at keys string and values int: Keys. -/
import Derived.Test.YtepgaphhinacmaaOutEOI
namespace Go.Proofs.Ytepgaphhinacmaa.OutOI
open Go.RowKit Go.Por

section
variable {w : World} {O : Nat} {v : Value} {l : List It} {p s : Int}
set_option maxRecDepth 100000 in
set_option maxHeartbeats 4000000 in
theorem keys_any (H : OutIs w O v l p s) (hlen : l.length ≤ 4096) :
    Calls Try.prog 47 #[.pointer (some ⟨O, 0, none⟩)] w fun e w' => ∃ vo, e = .returned vo ∧
      w'.ownsRow w.heap.size 9 1 vo l.length (l.map (fun x => Value.string x.1)) ∧ Below w.heap.size w w' := by
  obtain ⟨i0, hi, hz0, hz1, hz2⟩ := info_parts infoS
  obtain ⟨a, cap, rfl, hrow⟩ : ∃ a cap, v = .slice a l.length cap ∧ (0 < l.length → ∃ g, a = some ⟨g, 0, none⟩) := by
    rcases H.own.form with ⟨rfl, rfl⟩ | ⟨g, cap, rfl, _⟩
    · exact ⟨none, 0, rfl, fun h => by simp at h⟩
    · exact ⟨_, cap, rfl, fun _ => ⟨g, rfl⟩⟩
  have cI := H.items
  have HH := Lib.hid (And.intro H hrow)
  clear H hrow
  go_enter Try.func47, Try.ntmps47
  go_wp2
  go_loopg [3, 11] (l.length) (fun g vo i wx => ∃ t : Nat, t + g = l.length ∧ i = .int .i64 (t : Int) ∧
      wx.ownsRow w.heap.size 9 1 vo t ((l.take t).map (fun x => Value.string x.1)) ∧ Below w.heap.size w wx)
  case atStart => exact ⟨0, by omega, rfl, World.ownsRow_nil _ _ _ _, Below.refl _ _⟩
  case round =>
    obtain ⟨t, htg, rfl, hown, hbel⟩ := hrel
    by_cases hg : gk = 0
    · have hk0 : ¬ ((t : Int) < (l.length : Int)) := by omega
      have HE := Lib.hid (And.intro hown (And.intro hbel (show t = l.length by omega)))
      clear hown hbel htg hg
      go_wp2
      go_ret
      obtain ⟨hown, hbel, rfl⟩ := HE.out
      rw [List.take_length] at hown
      exact ⟨_, rfl, hown, hbel⟩
    · have ht : t < l.length := by omega
      obtain ⟨g, rfl⟩ := HH.out.2 (by omega)
      obtain ⟨x, hx⟩ : ∃ x, l[t]? = some x := ⟨_, List.getElem?_eq_getElem ht⟩
      have Hr : OutIs wr O (.slice (some ⟨g, 0, none⟩) l.length cap) l p s := HH.out.1.mod (S := fun k => w.heap.size ≤ k) ⟨hbel.os, hbel.tape, hbel.output, hbel.size, fun k hk _ => hbel.block k hk⟩ (fun k hk hx => by have := HH.out.1.lt k hk; have h2 : w.heap.size ≤ k := hx; omega)
      have c0 : wr.cell? ⟨g, t * 3, none⟩ = some (.string x.1) := Hr.own.cell cells3 hx (j := 0) (by omega) rfl
      have c1 : wr.cell? ⟨g, t * 3 + 1, none⟩ = some (Value.int .i64 x.2.1) := Hr.own.cell cells3 hx (j := 1) (by omega) rfl
      have c2 : wr.cell? ⟨g, t * 3 + 2, none⟩ = some (.int .i64 x.2.2) := Hr.own.cell cells3 hx (j := 2) (by omega) rfl
      have HE := Lib.hid (And.intro hown (And.intro hbel (And.intro htg hx)))
      have hbs := hbel.size
      clear Hr hown hbel htg hg hx
      go_wp2_with (first
        | (at_builtin; refine wpList_append_own _ rfl _ _ 66 rfl w.heap.size 9 i0 (Value.string ByteArray.empty) 1 16 Try.underlying66 hi hz0 hz1 hz2 rfl (by decide) _ _ _ rfl ((HE.out.1.alloc _).alloc _) ⟨wr.heap.size + 1, 0, none⟩ 1 1 [.string x.1] rfl rfl ?c1 ?c2 ?c3 ?c4 ?c5 ?_))
      case c1 =>
        have h := cells_new (wr.alloc (.cells #[.string x.1, Value.int .i64 x.2.1, .int .i64 x.2.2] 134)) [.string x.1] 9
        rw [World.size_alloc] at h
        exact h
      case c2 => intro u hu; simp at hu; subst hu; rfl
      case c3 => unfold maxLen; omega
      case c4 => omega
      case c5 => simp; omega
      · intro v' w1 hown' hgrow _
        obtain ⟨hown, hbel, htg, hx⟩ := HE.out
        have hb1 : Below w.heap.size w w1 := ((hbel.alloc hbs (.cells #[.string x.1, Value.int .i64 x.2.1, .int .i64 x.2.2] 134)).alloc (by simp; omega) (.cells #[.string x.1] 9)).grown hgrow (by simp; omega) (fun q hq => (hown.lt q hq).1)
        have HS := Lib.hid (And.intro hown' hb1)
        clear hown' hgrow hb1 hown hbel htg hx
        go_wp2
        go_roundg (gk - 1)
        case measure => have := HE.out.2.2.1; omega
        case rel =>
          obtain ⟨hown, hbel, htg, hx⟩ := HE.out
          refine ⟨t + 1, by omega, by go_num, ?_, HS.out.2⟩
          rw [List.take_add_one, hx]
          simpa using HS.out.1
end
end Go.Proofs.Ytepgaphhinacmaa.OutOI
