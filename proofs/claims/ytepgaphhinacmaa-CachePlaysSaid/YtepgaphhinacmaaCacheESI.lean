/- The cache at keys string and values int: Keys. -/
import Derived.Test.YtepgaphhinacmaaCacheCSI
import Derived.Deep.LoopGhost
namespace Go.Proofs.Ytepgaphhinacmaa.CacheSI
open Go.RowKit Go.Por

theorem infoK : (Try.prog.info? 9).map (fun i => (i.zero, i.size, i.bytes)) = some (some (Value.string ByteArray.empty), 1, 16) := by kernel_rfl
theorem infoE : (Try.prog.info? 121).map (fun i => i.size == 0) = some false := by kernel_rfl

theorem info_one {P : Program} {t : TypeId} (h : (P.info? t).map (fun i => i.size == 0) = some false) : ∃ j, P.info? t = some j ∧ j.size ≠ 0 := by
  cases hi : P.info? t with
  | none => rw [hi] at h; cases h
  | some j => rw [hi] at h; exact ⟨j, rfl, by simpa using h⟩

section
variable {w : World} {C M : Nat} {es : List (ByteArray × Int × Nat)} {sz h m : Int}

/-- The address at which a walk along the ring stands behind k steps. -/
theorem CacheIs.at_ (_H : CacheIs w C M es sz h m) (k : Nat) (hk : k ≤ es.length) : ∃ b, ((es.map (·.2.2)) ++ [C])[k]? = some b := by
  have : k < ((es.map (·.2.2)) ++ [C]).length := by simp; omega
  exact ⟨_, List.getElem?_eq_getElem this⟩

/-- What a round finds. -/
theorem CacheIs.round (H : CacheIs w C M es sz h m) {k b : Nat} (hk : k < es.length) (hb : ((es.map (·.2.2)) ++ [C])[k]? = some b) :
    ∃ x b', es[k]? = some x ∧ b = x.2.2 ∧ ((es.map (·.2.2)) ++ [C])[k + 1]? = some b' ∧ w.cell? ⟨b, 3, none⟩ = some (.pointer (some ⟨b', 0, none⟩)) ∧ w.cell? ⟨b, 0, none⟩ = some (Value.string x.1) ∧
      (binOp .neq 119 (.pointer (some ⟨b, 0, none⟩)) (.pointer (some ⟨C, 0, none⟩))).run Try.prog w = .ok (.bool true) w ∧ b < w.heap.size ∧ b ∈ foot C M es := by
  obtain ⟨b', hb'⟩ := H.at_ (k + 1) hk
  have hx : es[k]? = some es[k] := List.getElem?_eq_getElem hk
  have hbx : b = es[k].2.2 := by
    rw [List.getElem?_append_left (by simpa using hk), List.getElem?_map, hx] at hb
    simpa using hb.symm
  have hm : es[k] ∈ es := List.getElem_mem hk
  have hbm : b ∈ es.map (·.2.2) := by rw [hbx]; exact List.mem_map.2 ⟨_, hm, rfl⟩
  have hne : b ≠ C := fun e => (List.nodup_cons.1 H.nodup).1 (e ▸ hbm)
  have hnd := H.node _ hm
  rw [← hbx] at hnd
  obtain ⟨p, n, hc⟩ := hnd
  obtain ⟨p', n', hc'⟩ := H.root
  obtain ⟨j, hj, hj0⟩ := info_one infoE
  refine ⟨es[k], b', hx, hbx, hb', ?_, cell_of hc (by rfl), ?_, lt_block hc, by simp only [foot, List.mem_cons]; exact .inr (.inr hbm)⟩
  · refine H.ring.next (i := k + 1) ?_ hb'
    rw [List.getElem?_cons_succ, List.getElem?_map, hx, hbx]
    rfl
  · exact run_neq_ptr_other w Try.underlying119 hj hj0 (fun e => hne (by cases e; rfl)) hc hc'
theorem CacheIs.over (H : CacheIs w C M es sz h m) {b : Nat} (hb : ((es.map (·.2.2)) ++ [C])[es.length]? = some b) :
    b = C ∧ (binOp .neq 119 (.pointer (some ⟨b, 0, none⟩)) (.pointer (some ⟨C, 0, none⟩))).run Try.prog w = .ok (.bool false) w := by
  have : b = C := by
    rw [List.getElem?_append_right (by simp)] at hb
    simpa using hb.symm
  subst this
  obtain ⟨j, hj, hj0⟩ := info_one infoE
  exact ⟨rfl, run_neq_ptr_same w _ Try.underlying119 hj⟩
theorem CacheIs.start (H : CacheIs w C M es sz h m) : ∃ b, ((es.map (·.2.2)) ++ [C])[0]? = some b ∧ w.cell? ⟨C, 3, none⟩ = some (.pointer (some ⟨b, 0, none⟩)) := by
  obtain ⟨b, hb⟩ := H.at_ 0 (Nat.zero_le _)
  exact ⟨b, hb, H.ring.next (i := 0) rfl hb⟩

set_option maxHeartbeats 1000000 in
theorem keys_any (H : CacheIs w C M es sz h m) (hlen : es.length ≤ 4096) :
    Calls Try.prog 32 #[.pointer (some ⟨C, 0, none⟩)] w fun e w' => ∃ v, e = .returned v ∧ w'.ownsRow w.heap.size 9 1 v es.length (es.map (fun x => Value.string x.1)) ∧ Below w.heap.size w w' := by
  obtain ⟨i0, hi, hz0, hz1, hz2⟩ := info_parts infoK
  obtain ⟨b0, hb0, c0⟩ := H.start
  have H0 := Lib.hid (And.intro H hb0)
  clear H hb0
  go_enter Try.func32, Try.ntmps32
  go_wp2
  go_loopg [3, 4] (es.length) (fun g v e wr => ∃ k b, k + g = es.length ∧ ((es.map (·.2.2)) ++ [C])[k]? = some b ∧ e = .pointer (some ⟨b, 0, none⟩) ∧
      wr.ownsRow w.heap.size 9 1 v k ((es.take k).map (fun x => Value.string x.1)) ∧ Below w.heap.size w wr)
  case atStart => exact ⟨0, b0, by omega, H0.out.2, rfl, World.ownsRow_nil _ _ _ _, Below.refl _ _⟩
  case round =>
    obtain ⟨k, b, hkg, hb, rfl, hown, hbel⟩ := hrel
    have Hr : CacheIs wr C M es sz h m := H0.out.1.keep (fun b hb => hbel.block b (H0.out.1.lt b hb))
    by_cases hg : gk = 0
    · have hk : k = es.length := by omega
      subst hk
      obtain ⟨rfl, hne⟩ := Hr.over hb
      have HR := Lib.hid (And.intro hown hbel)
      clear hown hbel Hr hb hkg hg
      go_wp2
      go_ret
      obtain ⟨hown, hbel⟩ := HR.out
      rw [List.take_length] at hown
      exact ⟨_, rfl, hown, hbel⟩
    · have hk : k < es.length := by omega
      obtain ⟨x, b', hx, hbx, hb', c1, c2, hne, hlt, _⟩ := Hr.round hk hb
      have hbs := hbel.size
      have HR := Lib.hid (And.intro hkg (And.intro hx (And.intro hbx (And.intro hb' (And.intro hbel hown)))))
      clear hown hbel Hr hb hkg hbx hx hb'
      go_wp2_with (first
        | (at_builtin; refine wpList_append_own _ rfl _ _ 66 rfl w.heap.size 9 i0 (Value.string ByteArray.empty) 1 16 Try.underlying66 hi hz0 hz1 hz2 rfl (by decide) _ _ _ rfl (HR.out.2.2.2.2.2.alloc _) ⟨wr.heap.size, 0, none⟩ 1 1 [Value.string x.1] rfl rfl (cell_one_new _ _ _) ?c2 ?c3 ?c4 ?c5 ?_))
      case c2 => intro u hu; simp at hu; subst hu; rfl
      case c3 => unfold maxLen; omega
      case c4 => omega
      case c5 => simp; omega
      · intro v' w1 hown' hgrow _
        obtain ⟨hkg, hx, hbx, hb', hbel, hown⟩ := HR.out
        have c1' : w1.cell? ⟨b, 3, none⟩ = some (.pointer (some ⟨b', 0, none⟩)) := by
          have hb1 : Below w.heap.size w w1 := (hbel.alloc hbs (.cells #[Value.string x.1] 9)).grown hgrow (by simp; omega) (fun q hq => (hown.lt q hq).1)
          have hb2 : b < w.heap.size := by
            rw [hbx]
            exact H0.out.1.lt _ (by simp only [foot, List.mem_cons]; exact .inr (.inr (List.mem_map.2 ⟨x, List.mem_of_getElem? hx, rfl⟩)))
          rw [hb1.cell (p := ⟨b, 3, none⟩) hb2, ← hbel.cell (p := ⟨b, 3, none⟩) hb2]; exact c1
        have HS := Lib.hid (And.intro hown' hgrow)
        clear hown' hgrow hkg hx hbx hb' hbel hown c1
        go_wp2
        go_roundg (gk - 1)
        case measure => omega
        case rel =>
          obtain ⟨hkg, hx, hbx, hb', hbel, hown⟩ := HR.out
          refine ⟨k + 1, b', by omega, hb', rfl, ?_, (hbel.alloc hbs (.cells #[Value.string x.1] 9)).grown HS.out.2 (by simp; omega) (fun q hq => (hown.lt q hq).1)⟩
          have := HS.out.1
          rw [List.take_add_one, hx]
          simpa using this
end
end Go.Proofs.Ytepgaphhinacmaa.CacheSI
