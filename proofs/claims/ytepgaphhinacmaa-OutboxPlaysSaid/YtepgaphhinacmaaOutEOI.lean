/- The outbox at keys string and values int: Tick. -/
import Derived.Test.YtepgaphhinacmaaOutDOI
namespace Go.Proofs.Ytepgaphhinacmaa.OutOI
open Go.RowKit Go.Por

/-- An age a tick later. -/
def nexta (p a : Int) : Int := if a + 1 = p then 0 else a + 1
theorem nexta_rem {p a : Int} (h0 : 0 ≤ a) (h1 : a < p) : (a + 1).tmod p = nexta p a := by
  rw [Int.tmod_eq_emod_of_nonneg (by omega), nexta]
  split
  · rename_i h; rw [h]; exact Int.emod_self
  · exact Int.emod_eq_of_lt (by omega) (by omega)
theorem nexta_ok {p a : Int} (h0 : 0 ≤ a) (h1 : a < p) : 0 ≤ nexta p a ∧ nexta p a < p := by
  unfold nexta; split <;> omega
def aged (p : Int) (x : It) : It := (x.1, x.2.1, nexta p x.2.2)
/-- What is due. -/
def due (l : List It) : List Int := (l.filter (fun x => decide (x.2.2 = 0))).map (·.2.1)
theorem due_length_le (l : List It) : (due l).length ≤ l.length := by
  rw [due, List.length_map]; exact List.length_filter_le _ _
theorem due_snoc (l : List It) (x : It) : due (l ++ [x]) = due l ++ (if x.2.2 = 0 then [x.2.1] else []) := by
  simp only [due, List.filter_append, List.map_append]
  by_cases h : x.2.2 = 0 <;> simp [h]

theorem mid_at {l : List It} {t : Nat} {x : It} (p : Int) (hx : l[t]? = some x) : ((l.take t).map (aged p) ++ l.drop t)[t]? = some x := by
  have ht : t < l.length := by
    rcases Nat.lt_or_ge t l.length with h | h
    · exact h
    · simp [List.getElem?_eq_none h] at hx
  rw [List.getElem?_append_right (by simp; omega), List.length_map, List.length_take, Nat.min_eq_left (by omega), Nat.sub_self, List.getElem?_drop]
  exact hx
theorem mid_next {l : List It} {t : Nat} {x : It} (p : Int) (hx : l[t]? = some x) : ((l.take t).map (aged p) ++ l.drop t).set t (aged p x) = (l.take (t + 1)).map (aged p) ++ l.drop (t + 1) := by
  have ht : t < l.length := by
    rcases Nat.lt_or_ge t l.length with h | h
    · exact h
    · simp [List.getElem?_eq_none h] at hx
  have e : l[t] = x := by simpa [List.getElem?_eq_getElem ht] using hx
  rw [List.set_append_right _ _ (by simp; omega), List.length_map, List.length_take, Nat.min_eq_left (by omega), Nat.sub_self, List.drop_eq_getElem_cons ht, List.set_cons_zero, List.take_add_one, hx]
  simp

theorem infoV : (Try.prog.info? 3).map (fun i => (i.zero, i.size, i.bytes)) = some (some (Value.int .i64 0), 1, 8) := by kernel_rfl

section
variable {w : World} {O : Nat} {v : Value} {l : List It} {p s : Int}
set_option maxRecDepth 100000 in
set_option maxHeartbeats 4000000 in
theorem tick_any (H : OutIs w O v l p s) (hlen : l.length ≤ 4096) (hp0 : 1 ≤ p) (hp1 : p ≤ 1000) (hage : ∀ x ∈ l, 0 ≤ x.2.2 ∧ x.2.2 < p) :
    Calls Try.prog 39 #[.pointer (some ⟨O, 0, none⟩)] w fun e w' => ∃ vo, e = .returned vo ∧
      OutIs w' O v (l.map (aged p)) p s ∧ w'.ownsRow w.heap.size 3 1 vo (due l).length ((due l).map (Value.int .i64)) ∧ Mod (ofoot O v) w w' := by
  obtain ⟨i0, hi, hz0, hz1, hz2⟩ := info_parts infoV
  obtain ⟨a, cap, rfl, hrow⟩ : ∃ a cap, v = .slice a l.length cap ∧ (0 < l.length → ∃ g, a = some ⟨g, 0, none⟩) := by
    rcases H.own.form with ⟨rfl, rfl⟩ | ⟨g, cap, rfl, _⟩
    · exact ⟨none, 0, rfl, fun h => by simp at h⟩
    · exact ⟨_, cap, rfl, fun _ => ⟨g, rfl⟩⟩
  have cI := H.items
  have HH := Lib.hid (And.intro H (And.intro hrow (And.intro hage H.lt)))
  clear H hrow hage
  go_enter Try.func39, Try.ntmps39
  go_wp2
  go_loopg [3, 11] (l.length) (fun g vo i wx => ∃ t : Nat, t + g = l.length ∧ i = .int .i64 (t : Int) ∧ OutIs wx O (.slice a l.length cap) ((l.take t).map (aged p) ++ l.drop t) p s ∧
      wx.ownsRow w.heap.size 3 1 vo (due (l.take t)).length ((due (l.take t)).map (Value.int .i64)) ∧ Mod (ofoot O (.slice a l.length cap)) w wx)
  case atStart => exact ⟨0, by omega, rfl, by simpa using HH.out.1, World.ownsRow_nil _ _ _ _, Mod.refl _ _⟩
  case round =>
    obtain ⟨t, htg, rfl, Hr, hown, hmod⟩ := hrel
    by_cases hg : gk = 0
    · have hk0 : ¬ ((t : Int) < (l.length : Int)) := by omega
      have HE := Lib.hid (And.intro Hr (And.intro hown (And.intro hmod (show t = l.length by omega))))
      clear Hr hown hmod htg hg
      go_wp2
      go_ret
      obtain ⟨Hr, hown, hmod, rfl⟩ := HE.out
      rw [List.take_length, List.drop_length, List.append_nil] at Hr
      rw [List.take_length] at hown
      exact ⟨_, rfl, Hr, hown, hmod⟩
    · have ht : t < l.length := by omega
      obtain ⟨g, rfl⟩ := HH.out.2.1 (by omega)
      obtain ⟨x, hx⟩ : ∃ x, l[t]? = some x := ⟨_, List.getElem?_eq_getElem ht⟩
      have hxa := HH.out.2.2.1 x (List.mem_of_getElem? hx)
      have hxm := mid_at p hx
      have c0 := Hr.items
      have c00 := Hr.period
      have c1 : wr.cell? ⟨g, t * 3 + 1, none⟩ = some (Value.int .i64 x.2.1) := Hr.own.cell cells3 hxm (j := 1) (by omega) rfl
      have c2 : wr.cell? ⟨g, t * 3 + 2, none⟩ = some (.int .i64 x.2.2) := Hr.own.cell cells3 hxm (j := 2) (by omega) rfl
      have f2 : wr.frozen? ⟨g, t * 3 + 2, none⟩ = false := Hr.own.free _
      have hrem := nexta_rem hxa.1 hxa.2
      obtain ⟨hxa0, hxa1⟩ := hxa
      by_cases hz : x.2.2 = 0
      · have hrem0 : (1 : Int).tmod p = nexta p 0 := by rw [hz] at hrem; simpa using hrem
        rw [hz] at c2
        have HE := Lib.hid (And.intro Hr (And.intro hown (And.intro hmod (And.intro htg (And.intro hx (And.intro hxm hz))))))
        clear Hr hown hmod htg hg hx hxm hrem hxa0 hxa1 hz
        go_wp2_with (first
          | (at_builtin; refine wpList_append_own _ rfl _ _ 22 rfl w.heap.size 3 i0 (Value.int .i64 0) 1 8 Try.underlying22 hi hz0 hz1 hz2 rfl (by decide) _ _ _ rfl (HE.out.2.1.alloc _) ⟨wr.heap.size, 0, none⟩ 1 1 [Value.int .i64 x.2.1] rfl rfl (cell_one_new _ _ _) ?c2 ?c3 ?c4 ?c5 ?_))
        case c2 => intro u hu; simp at hu; subst hu; rfl
        case c3 => have := due_length_le (l.take t); rw [List.length_take] at this; unfold maxLen; omega
        case c4 => have := due_length_le (l.take t); rw [List.length_take] at this; omega
        case c5 => have := HE.out.2.2.1.size; simp; omega
        · intro v' w1 hown' hgrow _
          obtain ⟨Hr, hown, hmod, htg, hx, hxm, hz⟩ := HE.out
          have hbs := hmod.size
          have hm1 : Mod (fun k => w.heap.size ≤ k) wr w1 := ((Mod.refl _ wr).alloc (.cells #[Value.int .i64 x.2.1] 3)).trans (Mod.of_grown hgrow) (fun k hk => .inl ((hown.lt k hk.symm).1))
          have H1 : OutIs w1 O (.slice (some ⟨g, 0, none⟩) l.length cap) ((l.take t).map (aged p) ++ l.drop t) p s := Hr.mod hm1 (fun k hk hx => by have h1 := HH.out.2.2.2 k hk; have h2 : w.heap.size ≤ k := hx; omega)
          have d0 := H1.items
          have d00 := H1.period
          have d2 : w1.cell? ⟨g, t * 3 + 2, none⟩ = some (.int .i64 0) := by rw [← hz]; exact H1.own.cell cells3 hxm (j := 2) (by omega) rfl
          have e2 : w1.frozen? ⟨g, t * 3 + 2, none⟩ = false := H1.own.free _
          have HS := Lib.hid (And.intro H1 (And.intro hown' hm1))
          clear H1 hown' hgrow hm1 Hr hown hmod htg hx hxm hz c0 c00 c1 c2 f2 hbs
          go_wp2_with fail
          go_region
          all_goals go_wp2
          all_goals
            go_roundg (gk - 1)
            case measure => have := HE.out.2.2.2.1; omega
            case rel =>
              obtain ⟨Hr, hown, hmod, htg, hx, hxm, hz⟩ := HE.out
              obtain ⟨H1, hown', hm1⟩ := HS.out
              have hgw := HH.out.2.2.2 g (.inr rfl)
              have hOw := HH.out.2.2.2 O (.inl rfl)
              have hOg := H1.ne rfl
              refine ⟨t + 1, by omega, by go_num, ⟨block_setCell_ne H1.root hOg _, ?_⟩, ?_, ?_⟩
              · have h2 := H1.own.set cells3 hxm (i := t) (j := 2) (y := aged p x) (u := .int .i64 (nexta p 0)) (by omega) (by simp [cells, aged, hz])
                rw [mid_next p hx] at h2
                exact h2
              · rw [List.take_add_one, hx, Option.toList_some, due_snoc, if_pos hz, List.length_append, List.map_append]
                exact ownsRow_setCell_other (a := ⟨g, t * 3 + 2, none⟩) hown' (fun h => by have := (hown'.lt g h).1; omega) _
              · exact (hmod.trans hm1 (fun k hk => .inr hk)).drew.setCell (p := ⟨g, t * 3 + 2, none⟩) (.inl (.inr rfl)) _
      · have hz' : (x.2.2 == (0 : Int)) = false := by rw [beq_eq_false_iff_ne]; exact hz
        have HE := Lib.hid (And.intro Hr (And.intro hown (And.intro hmod (And.intro htg (And.intro hx (And.intro hxm hz))))))
        clear Hr hown hmod htg hg hx hxm hz
        go_wp2_with fail
        go_region
        all_goals go_wp2
        all_goals
          go_roundg (gk - 1)
          case measure => have := HE.out.2.2.2.1; omega
          case rel =>
            obtain ⟨Hr, hown, hmod, htg, hx, hxm, hz⟩ := HE.out
            have hgw := HH.out.2.2.2 g (.inr rfl)
            have hOg := Hr.ne rfl
            refine ⟨t + 1, by omega, by go_num, ⟨block_setCell_ne Hr.root hOg _, ?_⟩, ?_, ?_⟩
            · have h2 := Hr.own.set cells3 hxm (i := t) (j := 2) (y := aged p x) (u := .int .i64 (nexta p x.2.2)) (by omega) (by simp [cells, aged])
              rw [mid_next p hx] at h2
              exact h2
            · rw [List.take_add_one, hx, Option.toList_some, due_snoc, if_neg hz, List.append_nil]
              exact ownsRow_setCell_other (a := ⟨g, t * 3 + 2, none⟩) hown (fun h => by have := (hown.lt g h).1; omega) _
            · exact hmod.drew.setCell (p := ⟨g, t * 3 + 2, none⟩) (.inl (.inr rfl)) _
end
end Go.Proofs.Ytepgaphhinacmaa.OutOI
