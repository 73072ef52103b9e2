/- The outbox at keys string and values int: Put, Keys. -/
import Derived.Test.YtepgaphhinacmaaOutBOI
namespace Go.Proofs.Ytepgaphhinacmaa.OutOI
open Go.RowKit Go.Por

theorem infoI : (Try.prog.info? 134).map (fun i => (i.zero, i.size, i.bytes)) = some (some (.agg #[Value.string ByteArray.empty, (Value.int .i64 0), Value.int .i64 0]), 3, 32) := by kernel_rfl
theorem infoS : (Try.prog.info? 9).map (fun i => (i.zero, i.size, i.bytes)) = some (some (Value.string ByteArray.empty), 1, 16) := by kernel_rfl

theorem cells_new (w : World) (cs : List Value) (E : TypeId) : ∀ j u, cs[j]? = some u → (w.alloc (.cells cs.toArray E)).cell? ((⟨w.heap.size, 0, none⟩ : Addr).add j) = some u := by
  intro j u hu
  have e : (⟨w.heap.size, 0, none⟩ : Addr).add j = ⟨w.heap.size, j, none⟩ := by
    unfold Addr.add; split
    · rename_i e; subst e; rfl
    · simp
  rw [e]
  exact cell_of (block_new w _) (by simpa using hu)

/-- Put. -/
def oput (s : Int) (l : List It) (k : ByteArray) (u : Int) : List It × Int :=
  if 0 ≤ place l k then (l.set (place l k).toNat (k, u, 0), 0) else if (l.length : Int) = s then (l, 3) else (l ++ [(k, u, 0)], 0)

section
variable {w : World} {O : Nat} {v : Value} {l : List It} {p s : Int}

set_option maxHeartbeats 800000 in
theorem put_old (H : OutIs w O v l p s) (hlen : l.length ≤ 4096) {k : ByteArray} {i : Nat} {x : It} (hpl : place l k = i) (hx : l[i]? = some x) (hk : x.1 = k) (u : Int) :
    Calls Try.prog 37 #[.pointer (some ⟨O, 0, none⟩), .string k, Value.int .i64 u] w fun e w' => e = .returned (.int .i64 0) ∧ OutIs w' O v (l.set i (k, u, 0)) p s ∧ Mod (ofoot O v) w w' := by
  have hi : i < l.length := by
    rcases Nat.lt_or_ge i l.length with h | h
    · exact h
    · simp [List.getElem?_eq_none h] at hx
  obtain ⟨g, cap, rfl, _⟩ : ∃ g cap, v = .slice (some ⟨g, 0, none⟩) l.length cap ∧ l.length ≤ cap := by
    rcases H.own.form with ⟨_, rfl⟩ | ⟨g, cap, rfl, h, _⟩
    · simp at hi
    · exact ⟨g, cap, rfl, h⟩
  have HH := Lib.hid (And.intro H (And.intro hpl (And.intro hx hk)))
  clear H hpl hx hk
  go_enter Try.func37, Try.ntmps37
  go_wp2_with fail
  refine (find_any HH.out.1 hlen k).mono ?_
  rintro e w1 ⟨rfl, hb1⟩
  rw [HH.out.2.1]
  have H1 : OutIs w1 O (.slice (some ⟨g, 0, none⟩) l.length cap) l p s := HH.out.1.mod (S := fun _ => False) (Mod.of_below hb1 _) (fun _ _ h => h)
  have c0 := H1.items
  have c1 : w1.cell? ⟨g, i * 3 + 1, none⟩ = some (Value.int .i64 x.2.1) := H1.own.cell cells3 HH.out.2.2.1 (j := 1) (by omega) rfl
  have c2 : w1.cell? ⟨g, i * 3 + 2, none⟩ = some (.int .i64 x.2.2) := H1.own.cell cells3 HH.out.2.2.1 (j := 2) (by omega) rfl
  have c2' : (w1.setCell ⟨g, i * 3 + 1, none⟩ (Value.int .i64 u)).cell? ⟨g, i * 3 + 2, none⟩ = some (.int .i64 x.2.2) := by rw [cell_ne' (.inr (by omega))]; exact c2
  have f1 := H1.own.free (i * 3 + 1)
  have f2 := H1.own.free (i * 3 + 2)
  have HE := Lib.hid (And.intro H1 hb1)
  clear H1 hb1
  go_wp2_with fail
  go_region
  all_goals go_wp2
  all_goals go_ret
  all_goals
    obtain ⟨H1, hb1⟩ := HE.out
    obtain ⟨H, hpl, hx, hk⟩ := HH.out
    have hOg : O ≠ g := H1.ne rfl
    refine ⟨rfl, ⟨?_, ?_⟩, ?_⟩
    · exact (block_setCell_ne (block_setCell_ne H1.root hOg _) hOg _)
    · have h2 := (H1.own.set cells3 hx (i := i) (j := 1) (y := (x.1, u, x.2.2)) (u := Value.int .i64 u) (by omega) rfl)
      have h3 := h2.set cells3 (i := i) (j := 2) (x := (x.1, u, x.2.2)) (y := (k, u, 0)) (u := .int .i64 0) (by simp [hi]) (by omega) (by simp [cells, hk])
      rw [List.set_set] at h3
      exact h3
    · exact ((((Mod.of_below hb1 _).setCell (p := ⟨g, i * 3 + 1, none⟩) (.inl (.inr rfl)) _).setCell (p := ⟨g, i * 3 + 2, none⟩) (.inl (.inr rfl)) _)).drew

set_option maxHeartbeats 800000 in
theorem put_full (H : OutIs w O v l p s) (hlen : l.length ≤ 4096) {k : ByteArray} (hpl : place l k = -1) (hs : (l.length : Int) = s) (u : Int) :
    Calls Try.prog 37 #[.pointer (some ⟨O, 0, none⟩), .string k, Value.int .i64 u] w fun e w' => e = .returned (.int .i64 3) ∧ OutIs w' O v l p s ∧ Mod (ofoot O v) w w' := by
  obtain ⟨a, cap, rfl⟩ : ∃ a cap, v = .slice a l.length cap := by
    rcases H.own.form with ⟨rfl, rfl⟩ | ⟨g, cap, rfl, h, _⟩
    · exact ⟨none, 0, rfl⟩
    · exact ⟨_, cap, rfl⟩
  subst hs
  have HH := Lib.hid (And.intro H hpl)
  clear H hpl
  go_enter Try.func37, Try.ntmps37
  go_wp2_with fail
  refine (find_any HH.out.1 hlen k).mono ?_
  rintro e w1 ⟨rfl, hb1⟩
  rw [HH.out.2]
  have H1 : OutIs w1 O (.slice a l.length cap) l p l.length := HH.out.1.mod (S := fun _ => False) (Mod.of_below hb1 _) (fun _ _ h => h)
  have c0 := H1.items
  have c1 := H1.size
  have HE := Lib.hid (And.intro H1 hb1)
  clear H1 hb1
  go_wp2_with fail
  go_region
  all_goals go_wp2
  all_goals go_ret
  all_goals exact ⟨rfl, HE.out.1.mod (S := fun _ => False) ((Mod.refl _ w1).drew) (fun _ _ h => h), (Mod.of_below HE.out.2 _).drew⟩

set_option maxRecDepth 100000 in
set_option maxHeartbeats 4000000 in
theorem put_new (H : OutIs w O v l p s) (hlen : l.length ≤ 4096) {k : ByteArray} (hpl : place l k = -1) (hs : (l.length : Int) ≠ s) (u : Int) :
    Calls Try.prog 37 #[.pointer (some ⟨O, 0, none⟩), .string k, Value.int .i64 u] w fun e w' => e = .returned (.int .i64 0) ∧
      ∃ v', OutIs w' O v' (l ++ [(k, u, 0)]) p s ∧ (∀ x, ofoot O v' x → ofoot O v x ∨ w.heap.size ≤ x) ∧ Mod (ofoot O v) w w' := by
  obtain ⟨i0, hi, hz0, hz1, hz2⟩ := info_parts infoI
  obtain ⟨a, cap, hv⟩ : ∃ a cap, v = .slice a l.length cap := by
    rcases H.own.form with ⟨rfl, rfl⟩ | ⟨g, cap, rfl, h, _⟩
    · exact ⟨none, 0, rfl⟩
    · exact ⟨_, cap, rfl⟩
  subst hv
  have hs' : ((l.length : Int) == s) = false := by rw [beq_eq_false_iff_ne]; exact hs
  have HH := Lib.hid (And.intro H hpl)
  clear H hpl hs
  go_enter Try.func37, Try.ntmps37
  go_wp2_with fail
  refine (find_any HH.out.1 hlen k).mono ?_
  rintro e w1 ⟨rfl, hb1⟩
  rw [HH.out.2]
  have H1 : OutIs w1 O (.slice a l.length cap) l p s := HH.out.1.mod (S := fun _ => False) (Mod.of_below hb1 _) (fun _ _ h => h)
  have c0 := H1.items
  have c1 := H1.size
  have hOlt := lt_block H1.root
  have HE := Lib.hid (And.intro H1 hb1)
  clear H1 hb1
  go_wp2_with fail
  go_region
  all_goals
    go_wp2_with (first
      | (at_builtin; refine wpList_append_own2 _ rfl _ _ 129 rfl 0 134 i0 (.agg #[Value.string ByteArray.empty, (Value.int .i64 0), Value.int .i64 0]) 3 32 Try.underlying129 hi hz0 hz1 hz2 rfl (by decide) _ _ _ rfl (HE.out.1.own.alloc _) ⟨w1.heap.size, 0, none⟩ 1 1 [.string k, Value.int .i64 u, .int .i64 0] rfl rfl (cells_new w1 _ _) ?c2 ?c3 ?c4 ?c5 ?_))
  case c2 => first | rfl | (intro y hy; simp at hy; rcases hy with rfl | rfl | rfl <;> rfl)
  case c3 => unfold maxLen; omega
  case c4 => omega
  case c5 => omega
  · intro v' w2 hown' hgrow hwhere
    obtain ⟨a', cap', rfl⟩ : ∃ a' cap', v' = .slice a' (l.length + 1) cap' := by
      obtain ⟨_, ⟨rfl, h⟩ | ⟨g, cap', cur, rfl, _⟩⟩ := hown'
      · simp at h
      · exact ⟨_, _, rfl⟩
    obtain ⟨H1, hb1⟩ := HE.out
    have hm2 : Mod (fun x => (Value.slice a l.length cap).ownBlock = some x) w1 w2 := by
      have h1 := ((Mod.refl (fun x => (Value.slice a l.length cap).ownBlock = some x) w1).alloc (.cells #[.string k, Value.int .i64 u, .int .i64 0] 134)).drew
      exact h1.trans (Mod.of_grown hgrow) (fun x hx => .inl hx.symm)
    have hroot2 := hm2.old H1.root (fun h => H1.ne h rfl)
    have c3 := cell_of (i := 0) hroot2 rfl
    have f3 := free_of (i := 0) hroot2
    have HF := Lib.hid (And.intro hown' (And.intro hm2 (And.intro hroot2 (show ∀ x, (Value.slice a' (l.length + 1) cap').ownBlock = some x → x ≠ O ∧ ((Value.slice a l.length cap).ownBlock = some x ∨ w1.heap.size ≤ x) from fun x hx => by
      refine ⟨fun e => ?_, ?_⟩
      · subst e
        obtain ⟨_, ⟨h, _⟩ | ⟨g, cap', cur, h0, _, h, _⟩⟩ := hown'
        · rw [h] at hx
          simp [Value.ownBlock] at hx
        · rw [h0] at hx
          simp only [Value.ownBlock, Option.some.injEq] at hx
          subst hx
          rw [hroot2] at h
          simp at h
      · rcases hwhere x hx with h | h
        · exact .inl h
        · exact .inr (by first | omega | (simp at h; omega))))))
    clear H1 hb1 hown' hgrow hm2 hroot2 hwhere
    go_wp2
    go_ret
    obtain ⟨H1, hb1⟩ := HE.out
    obtain ⟨hown', hm2, hroot2, hne⟩ := HF.out
    refine ⟨rfl, .slice a' (l.length + 1) cap', ⟨block_setCell hroot2 _, ?_⟩, ?_, ?_⟩
    · have := ownsRow_setCell_other (a := ⟨O, 0, none⟩) hown' (fun h => (hne O h).1 rfl) (.slice a' (l.length + 1) cap')
      unfold OwnS
      rw [List.length_append, List.flatMap_append]
      exact this
    · intro x hx
      rcases hx with rfl | hx
      · exact .inl (.inl rfl)
      · rcases (hne x hx).2 with h | h
        · exact .inl (.inr h)
        · exact .inr (by have := hb1.size; omega)
    · exact ((Mod.of_below hb1 _).trans hm2 (fun x hx => .inl (.inr hx))).setCell (p := ⟨O, 0, none⟩) (.inl (.inl rfl)) _
end
end Go.Proofs.Ytepgaphhinacmaa.OutOI
