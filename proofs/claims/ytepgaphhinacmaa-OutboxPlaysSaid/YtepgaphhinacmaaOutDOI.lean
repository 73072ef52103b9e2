/- The outbox at keys string and values int: slices.Delete, Ack. -/
import Derived.Test.YtepgaphhinacmaaOutCOI
import Derived.Deep.RegionLaw
namespace Go.Proofs.Ytepgaphhinacmaa.OutOI
open Go.RowKit Go.Por

theorem infoI0 : ∃ i0 : TypeInfo, Try.prog.info? 134 = some i0 ∧ i0.size = 3 := by
  obtain ⟨i0, h0, _, h1, _⟩ := info_parts infoI
  exact ⟨i0, h0, h1⟩
theorem underS : Try.prog.underlying 129 = some (.slice 134) := Try.underlying129

/-- append whose run is known, as one step of a region that draws. -/
theorem step_append_run {P : Program} {ops : Array Oper} {o : Oper} {a : Act} {w : World} {K : Act → World → Prop} {Q : Exit → Act → World → Prop} {E : Prop}
    (hg : o.guard = none) (s x : Operand) (t : TypeId) (hop : o.op = Op.call { callee := Callee.builtin Builtin.append, args := #[s, x], argTypes := #[t, t] })
    (vs vx v : Value) (w' : World) (hs : a.eval s = vs) (hx : a.eval x = vx) (hrun : (Builtin.append_ #[t, t] o.type #[vs, vx]).run P w = .ok v w')
    (hK : K (a.put o.dst v) w') :
    if Region.wanted o (yielded ops a.tmps) = true then Oper.wp P o a w K Q else E := by
  have hw : Region.wanted o (yielded ops a.tmps) = true := by simp [Region.wanted, hg]
  rw [if_pos hw]
  unfold Oper.wp
  simp [execOp, hop, resolve, invoke, builtin, hs, hx, hrun, Result.andThen]
  exact hK

theorem zone : ∀ u ∈ (Builtin.zeroCells (Value.agg #[Value.string ByteArray.empty, (Value.int .i64 0), Value.int .i64 0]).cells 1).toList, u.oneCell' = true := by
  intro u hu
  simp [Builtin.zeroCells, Value.cells] at hu
  obtain ⟨n, hn, rfl⟩ := hu
  rcases (show n = 0 ∨ n = 1 ∨ n = 2 by omega) with rfl | rfl | rfl <;> rfl

section
variable {w : World} {g n cap : Nat} {l : List It}

theorem zeroI (w : World) : (zeroValue 134).run Try.prog w = .ok (.agg #[Value.string ByteArray.empty, (Value.int .i64 0), Value.int .i64 0]) w := by
  have h1 : Try.t134.zero = some (.agg #[Value.string ByteArray.empty, (Value.int .i64 0), Value.int .i64 0]) := by kernel_rfl
  simp [zeroValue, h1]

set_option maxRecDepth 100000 in
set_option maxHeartbeats 4000000 in
theorem delete_any (h : OwnS cells 3 w 134 (.slice (some ⟨g, 0, none⟩) n cap) l) (hlen : l.length ≤ 4096) {i m : Nat} (hi : i < l.length) (hn : l.length = m + 1) :
    Calls Try.prog 64 #[.slice (some ⟨g, 0, none⟩) n cap, .int .i64 i, .int .i64 ((i : Int) + 1)] w fun e w' => e = .returned (.slice (some ⟨g, 0, none⟩) m cap) ∧
      OwnS cells 3 w' 134 (.slice (some ⟨g, 0, none⟩) m cap) (l.eraseIdx i) ∧ Mod (fun x => x = g) w w' := by
  obtain ⟨cur, _, _, _, rfl, hcap, hmax⟩ := h.block
  obtain ⟨i0, hi0, hi1⟩ := infoI0
  have hm1 : l.length - 1 = m := by omega
  obtain ⟨A, hA, hx⟩ : ∃ A : Addr, (if cap = i + 1 then some (⟨g, 0, none⟩ : Addr) else some ⟨g, (i + 1) * 3, none⟩) = some A ∧
      ((∃ c', Value.slice (some A) (l.length - (i + 1)) (cap - (i + 1)) = .slice (some ⟨g, (i + 1) * 3, none⟩) (l.length - (i + 1)) c') ∨ (i + 1 = l.length ∧ ∃ a c', Value.slice (some A) (l.length - (i + 1)) (cap - (i + 1)) = .slice (some a) 0 c')) := by
    by_cases h : cap = i + 1
    · exact ⟨_, if_pos h, .inr ⟨by omega, _, cap - (i + 1), by rw [show l.length - (i + 1) = 0 by omega]⟩⟩
    · exact ⟨_, if_neg h, .inl ⟨_, rfl⟩⟩
  have hd : OwnS cells 3 w.drew 134 (.slice (some ⟨g, 0, none⟩) l.length cap) l := h.mod (S := fun _ => False) ((Mod.refl _ w).drew) (fun _ _ h => h)
  obtain ⟨w1, hr1, ho1, hm1'⟩ := hd.shift (P := Try.prog) cells3 cells1 underS (t := 129) (ty := 129) hi0 hi1 hi _ hx
  rw [hm1] at hr1 ho1
  have hel : (l.eraseIdx i).length = m := by rw [List.length_eraseIdx, if_pos hi]; omega
  obtain ⟨w2, hr2, ho2, hm2⟩ := ho1.wipe (c := 3) (P := Try.prog) (t := 129) (ty := 0) underS (zeroI w1) rfl zone (by omega) (cap - m)
  rw [hel] at hr2
  have HE := Lib.hid (And.intro ho2 ((((Mod.refl (fun x => x = g) w).drew).trans hm1' (fun _ h => .inl h)).trans hm2 (fun _ h => .inl h)))
  have e1 : l.length = m + 1 := hn
  have hic : i ≤ cap := by omega
  have hi1c : i ≤ m := by omega
  have hp0 : (0 : Int) ≤ (i : Int) + 1 := by omega
  have hmc : ¬ cap = m := by omega
  have hmcap : m + 1 ≤ cap := by omega
  have hm64 : m < 5000 := by omega
  have hc64 : cap ≤ 9223372036854775807 := by unfold maxLen at hmax; omega
  have hp2 : ((i : Int) + 1).toNat = i + 1 := by omega
  rw [e1] at hx hr1 ⊢
  have HR := Lib.hid hr1
  clear hx hr1 ho1 hm1' ho2 hm2 hd h hn hm1 hmax hcap hel hlen hi e1
  go_enter Try.func64, Try.ntmps64
  go_wp2_with fail
  go_region_law (refine step_append_run rfl (.tmp 22) (.tmp 25) 129 rfl _ _ _ _ (by simp [Act.eval, Act.put]) (by simp [Act.eval, Act.put]) HR.out ?_)
  go_wp2
  go_ret
  exact ⟨rfl, HE.out.1, HE.out.2⟩

variable {O : Nat} {v : Value} {p s : Int}
set_option maxHeartbeats 800000 in
theorem ack_none (H : OutIs w O v l p s) (hlen : l.length ≤ 4096) {k : ByteArray} (hpl : place l k = -1) :
    Calls Try.prog 38 #[.pointer (some ⟨O, 0, none⟩), .string k] w fun e w' => e = .returned (.bool false) ∧ OutIs w' O v l p s ∧ Mod (ofoot O v) w w' := by
  have HH := Lib.hid (And.intro H hpl)
  clear H hpl
  go_enter Try.func38, Try.ntmps38
  go_wp2_with fail
  refine (find_any HH.out.1 hlen k).mono ?_
  rintro e w1 ⟨rfl, hb1⟩
  rw [HH.out.2]
  have HE := Lib.hid hb1
  clear hb1
  go_wp2
  go_ret
  exact ⟨rfl, HH.out.1.mod (S := fun _ => False) (Mod.of_below HE.out _) (fun _ _ h => h), Mod.of_below HE.out _⟩

set_option maxHeartbeats 800000 in
theorem ack_some (H : OutIs w O v l p s) (hlen : l.length ≤ 4096) {k : ByteArray} {i : Nat} {x : It} (hpl : place l k = i) (hx : l[i]? = some x) :
    Calls Try.prog 38 #[.pointer (some ⟨O, 0, none⟩), .string k] w fun e w' => e = .returned (.bool true) ∧
      ∃ v', OutIs w' O v' (l.eraseIdx i) p s ∧ (∀ x, ofoot O v' x → ofoot O v x) ∧ Mod (ofoot O v) w w' := by
  have hi : i < l.length := by
    rcases Nat.lt_or_ge i l.length with h | h
    · exact h
    · simp [List.getElem?_eq_none h] at hx
  obtain ⟨g, cap, rfl, _⟩ : ∃ g cap, v = .slice (some ⟨g, 0, none⟩) l.length cap ∧ l.length ≤ cap := by
    rcases H.own.form with ⟨_, rfl⟩ | ⟨g, cap, rfl, h, _⟩
    · simp at hi
    · exact ⟨g, cap, rfl, h⟩
  obtain ⟨m, hm⟩ : ∃ m, l.length = m + 1 := ⟨l.length - 1, by omega⟩
  have HH := Lib.hid (And.intro H hpl)
  clear H hpl
  go_enter Try.func38, Try.ntmps38
  go_wp2_with fail
  refine (find_any HH.out.1 hlen k).mono ?_
  rintro e w1 ⟨rfl, hb1⟩
  rw [HH.out.2]
  have H1 : OutIs w1 O (.slice (some ⟨g, 0, none⟩) l.length cap) l p s := HH.out.1.mod (S := fun _ => False) (Mod.of_below hb1 _) (fun _ _ h => h)
  have c0 := H1.items
  have HE := Lib.hid (And.intro H1 hb1)
  clear H1 hb1
  go_wp2_with fail
  have ho := HE.out.1.own
  rw [hm] at ho
  refine (delete_any ho hlen hi hm).mono ?_
  rintro e w2 ⟨rfl, ho2, hm2⟩
  have hne : O ≠ g := HE.out.1.ne rfl
  have hroot2 := hm2.old HE.out.1.root hne
  have c3 := cell_of (i := 0) hroot2 rfl
  have f3 := free_of (i := 0) hroot2
  have HF := Lib.hid (And.intro ho2 (And.intro hm2 (And.intro hroot2 hne)))
  clear ho2 hm2 hroot2 hne
  go_wp2
  go_ret
  obtain ⟨ho2, hm2, hroot2, hne⟩ := HF.out
  obtain ⟨H1, hb1⟩ := HE.out
  refine ⟨rfl, .slice (some ⟨g, 0, none⟩) m cap, ⟨block_setCell hroot2 _, ?_⟩, fun x hx => hx, ?_⟩
  · exact ownsRow_setCell_other (a := ⟨O, 0, none⟩) ho2 (fun h => hne (by simpa [Value.ownBlock] using h.symm)) _
  · exact (((Mod.of_below hb1 _).trans hm2 (fun x hx => .inl (.inr (by rw [show x = g from hx]; rfl))))).setCell (p := ⟨O, 0, none⟩) (.inl (.inl rfl)) _
end
end Go.Proofs.Ytepgaphhinacmaa.OutOI
