/- The cache at keys string and values int: Cut, over whatever function answers the question. -/
import Derived.Test.YtepgaphhinacmaaCacheESI
namespace Go.Proofs.Ytepgaphhinacmaa.CacheSI
open Go.RowKit Go.Por

section
variable {w : World} {C M : Nat} {es : List (ByteArray × Int × Nat)} {sz h m : Int}

/-- An entry taken out of the ring, then out of the map. -/
theorem removed {w1 : World} {xs ys : List (ByteArray × Int × Nat)} {k0 : ByteArray} {v0 : Int} {b0 : Nat} (H : CacheIs w C M (xs ++ (k0, v0, b0) :: ys) sz h m)
    (hr1 : Ring 2 w1 C (xs.map (·.2.2) ++ ys.map (·.2.2))) (hk1 : ∀ t pre post b, pre.length = 2 → Nd w t pre post b → Nd w1 t pre post b)
    (hm1 : Mod (fun x => x ∈ C :: (xs.map (·.2.2) ++ b0 :: ys.map (·.2.2))) w w1) :
    ∃ o, (Builtin.delete_ #[118, 9] 0 #[.map (some M), Value.string k0]).run Try.prog w1.drew = .ok (.tuple #[]) (setB w1.drew M o) ∧
      CacheIs (setB w1.drew M o) C M (xs ++ ys) sz h m ∧ w1.cell? ⟨C, 4, none⟩ = some (.map (some M)) ∧ w1.cell? ⟨b0, 0, none⟩ = some (Value.string k0) ∧
      Mod (fun x => x ∈ foot C M (xs ++ (k0, v0, b0) :: ys)) w (setB w1.drew M o) ∧ ∀ i, (setB w1.drew M o).cell? ⟨b0, i, none⟩ = w1.cell? ⟨b0, i, none⟩ := by
  have hroot1 : Nd w1 125 [Value.string ByteArray.empty, Value.int .i64 0] [.map (some M), .int .i64 sz, .int .i64 h, .int .i64 m] C := hk1 _ _ _ _ (by rfl) H.root
  have hnode1 : ∀ x ∈ xs ++ (k0, v0, b0) :: ys, Nd w1 121 (Value.string x.1 :: [.int .i64 x.2.1]) [] x.2.2 := fun x hx => hk1 _ _ _ _ (by rfl) (H.node x hx)
  have c4 : w1.cell? ⟨C, 4, none⟩ = some (.map (some M)) := hroot1.post (i := 0) rfl
  have c5 : w1.cell? ⟨b0, 0, none⟩ = some (Value.string k0) := (hnode1 (k0, v0, b0) (by simp)).pre rfl
  have hM : ∀ b ∈ C :: (xs ++ (k0, v0, b0) :: ys).map (·.2.2), b ≠ M := fun b hb => H.mapCells hb
  obtain ⟨l, hl0, hx, hlen0⟩ := H.map
  have hl1 : MapIs w1.drew M (fun k => Value.string k) l := (hl0.mod hm1 (fun h1 => hM M (by rw [List.map_append]; exact h1) rfl)).keep (w' := w1.drew) rfl
  obtain ⟨o, hrun, hl2⟩ := hl1.delete (ty := 0) (t2 := 9) keyOK Try.underlying118 k0
  have hB : ∀ b, b ≠ M → (setB w1.drew M o).heap[b]? = w1.heap[b]? := fun b hb => (show (setB w1.drew M o).heap[b]? = w1.drew.heap[b]? by simp [setB, Ne.symm hb])
  have hn := H.nodup
  rw [List.map_append, List.map_cons] at hn
  have hperm := (List.Perm.cons C (List.perm_middle (a := b0) (l₁ := xs.map (·.2.2)) (l₂ := ys.map (·.2.2)))).nodup_iff.1 hn
  refine ⟨o, hrun, ?_, c4, c5, ?_, fun i => World.cell?_of_block (w := w1) (hB b0 (hM b0 (by simp)))⟩
  · exact {
      root := hroot1.keep (hB C (hM C (by simp)))
      node := fun x hx => by
        have hx' : x ∈ xs ++ (k0, v0, b0) :: ys := by
          rcases List.mem_append.1 hx with h1 | h1
          · simp [h1]
          · simp [h1]
        exact (hnode1 x hx').keep (hB _ (hM _ (List.mem_cons_of_mem _ (List.mem_map.2 ⟨x, hx', rfl⟩))))
      nodup := by
        rw [List.map_append]
        simp only [List.nodup_cons, List.mem_cons] at hperm ⊢
        exact ⟨fun h1 => hperm.1 (.inr h1), hperm.2.2⟩
      ring := by
        rw [← List.map_append] at hr1
        exact hr1.keep (fun b hb => hB b (hM b (by
          simp only [List.map_append, List.map_cons, List.mem_cons, List.mem_append] at hb ⊢
          grind)))
      map := by
        have hks := H.keys
        rw [List.map_append, List.map_cons] at hks
        have hkp := (List.perm_middle (a := k0) (l₁ := xs.map (·.1)) (l₂ := ys.map (·.1))).nodup_iff.1 hks
        refine ⟨mdel l k0, hl2, fun q u => ?_, ?_⟩
        · rw [mem_mdel, hx]
          constructor
          · rintro ⟨hq, x, hx1, hx2, hx3⟩
            rcases List.mem_append.1 hx1 with h1 | h1
            · exact ⟨x, by simp [h1], hx2, hx3⟩
            · rcases List.mem_cons.1 h1 with h1 | h1
              · subst h1; exact absurd hx2.symm hq
              · exact ⟨x, by simp [h1], hx2, hx3⟩
          · rintro ⟨x, hx1, hx2, hx3⟩
            refine ⟨fun e => ?_, x, by rcases List.mem_append.1 hx1 with h1 | h1 <;> simp [h1], hx2, hx3⟩
            subst hx2
            rw [List.nodup_cons, ← List.map_append] at hkp
            exact hkp.1 (e ▸ List.mem_map.2 ⟨x, hx1, rfl⟩)
        · obtain ⟨es', cl, hq1, hq2, hq3, _⟩ := hl0
          have := length_mdel_hit hq3 ((hx k0 (ptr b0)).2 ⟨(k0, v0, b0), by simp, rfl, rfl⟩)
          simp at hlen0 ⊢
          omega
      keys := by
        have hks := H.keys
        rw [List.map_append, List.map_cons] at hks
        have hkp := (List.perm_middle (a := k0) (l₁ := xs.map (·.1)) (l₂ := ys.map (·.1))).nodup_iff.1 hks
        rw [List.map_append]
        exact (List.nodup_cons.1 hkp).2 }
  · refine ((hm1.mono (fun x _ hx => ?_)).drew).trans (setB_mod w1.drew M o) (fun x hx => .inl (by rw [show x = M from hx]; simp [foot]))
    simp only [foot, List.map_append, List.map_cons, List.mem_cons, List.mem_append] at hx ⊢
    grind

set_option maxHeartbeats 2000000 in
theorem cut_any {cap : Array Value} (Sc : Nat → Prop) (Inv : List ByteArray → World → Prop) (g : ByteArray → Bool)
    (hcall : ∀ (w : World) (ks : List ByteArray) (k : ByteArray), Inv ks w → Calls Try.prog 30 (#[Value.string k] ++ cap) w fun e w' => e = .returned (.bool (g k)) ∧ Inv (ks ++ [k]) w' ∧ Mod Sc w w')
    (H : CacheIs w C M es sz h m) (hlen : es.length ≤ 4096) (hS : ∀ b ∈ foot C M es, ¬ Sc b)
    (hkeep : ∀ (w w' : World) (ks : List ByteArray), Inv ks w → Mod (fun b => b ∈ foot C M es) w w' → Inv ks w') (h0 : Inv [] w) :
    Calls Try.prog 29 #[.pointer (some ⟨C, 0, none⟩), .func (.func 30) #[] cap] w fun e w' =>
      e = .returned (.int .i64 (es.filter (fun x => g x.1)).length) ∧ CacheIs w' C M (es.filter (fun x => !g x.1)) sz h m ∧ Inv (es.map (·.1)) w' ∧ Mod (fun b => b ∈ foot C M es ∨ Sc b) w w' := by
  obtain ⟨b0, hb0, c0⟩ := H.start
  have HH := Lib.hid (And.intro H (And.intro hb0 (And.intro hS (And.intro hkeep (And.intro h0 hcall)))))
  clear H hb0 hS hkeep h0 hcall
  go_enter Try.func29, Try.ntmps29
  go_wp2
  go_loopg [5, 6] (es.length) (fun g' n e wr => ∃ k b, k + g' = es.length ∧ ((es.drop k).map (·.2.2) ++ [C])[0]? = some b ∧ e = .pointer (some ⟨b, 0, none⟩) ∧
      n = .int .i64 ((es.take k).filter (fun x => g x.1)).length ∧ CacheIs wr C M ((es.take k).filter (fun x => !g x.1) ++ es.drop k) sz h m ∧ Inv ((es.take k).map (·.1)) wr ∧ Mod (fun b => b ∈ foot C M es ∨ Sc b) w wr)
  case atStart => exact ⟨0, b0, by omega, by simpa using HH.out.2.1, rfl, rfl, by simpa using HH.out.1, by simpa using HH.out.2.2.2.2.1, Mod.refl _ _⟩
  case round =>
    obtain ⟨k, b, hkg, hb, rfl, rfl, Hr, hinv, hmod⟩ := hrel
    by_cases hg : gk = 0
    · have hk : k = es.length := by omega
      subst hk
      rw [List.drop_length] at hb Hr
      have hbC : b = C := by simpa using hb.symm
      subst hbC
      obtain ⟨j, hj, hj0⟩ := info_one infoE
      have hne := run_neq_ptr_same wr (⟨b, 0, none⟩ : Addr) Try.underlying119 hj
      rw [List.take_length, List.append_nil] at Hr
      rw [List.take_length] at hinv
      have HR := Lib.hid (And.intro Hr (And.intro hinv hmod))
      clear Hr hb hkg hg hinv hmod hj
      go_wp2
      go_ret
      rw [List.take_length]
      exact ⟨rfl, HR.out⟩
    · have hk : k < es.length := by omega
      obtain ⟨⟨k0, v0, b1⟩, hx⟩ : ∃ x, es[k]? = some x := ⟨_, List.getElem?_eq_getElem hk⟩
      have hdrop : es.drop k = (k0, v0, b1) :: es.drop (k + 1) := by
        rw [List.drop_eq_getElem_cons hk]
        congr 1
        simpa [List.getElem?_eq_getElem hk] using hx
      rw [hdrop] at hb Hr
      have hbb : b1 = b := by simpa using hb
      subst hbb
      obtain ⟨bn, hbn⟩ : ∃ bn, ((es.drop (k + 1)).map (·.2.2) ++ [C])[0]? = some bn := ⟨_, List.getElem?_eq_getElem (by simp)⟩
      have hnd := Hr.node (k0, v0, b1) (by simp)
      have ckey : wr.cell? ⟨b1, 0, none⟩ = some (Value.string k0) := hnd.pre rfl
      have hbC : b1 ≠ C := fun e => (List.nodup_cons.1 Hr.nodup).1 (e ▸ List.mem_map.2 ⟨(k0, v0, b1), by simp, rfl⟩)
      have hne : (binOp .neq 119 (.pointer (some ⟨b1, 0, none⟩)) (.pointer (some ⟨C, 0, none⟩))).run Try.prog wr = .ok (.bool true) wr := by
        obtain ⟨p, n, hc⟩ := hnd
        obtain ⟨p', n', hc'⟩ := Hr.root
        obtain ⟨j, hj, hj0⟩ := info_one infoE
        exact run_neq_ptr_other wr Try.underlying119 hj hj0 (fun e => hbC (by cases e; rfl)) hc hc'
      have hfoot : ∀ c ∈ foot C M ((es.take k).filter (fun x => !g x.1) ++ (k0, v0, b1) :: es.drop (k + 1)), c ∈ foot C M es := fun c hc => by
        simp only [foot, List.mem_cons, List.mem_map] at hc ⊢
        rcases hc with h1 | h1 | ⟨x, h1, h2⟩
        · exact .inl h1
        · exact .inr (.inl h1)
        · refine .inr (.inr ⟨x, ?_, h2⟩)
          rcases List.mem_append.1 h1 with h1 | h1
          · exact List.mem_of_mem_take (List.mem_filter.1 h1).1
          · rw [← hdrop] at h1; exact List.mem_of_mem_drop h1
      have hnext : ∀ u : World, CacheIs u C M ((es.take k).filter (fun x => !g x.1) ++ (k0, v0, b1) :: es.drop (k + 1)) sz h m → u.cell? ⟨b1, 3, none⟩ = some (.pointer (some ⟨bn, 0, none⟩)) := fun u Hu => by
        have hr := Hu.ring
        rw [List.map_append, List.map_cons] at hr
        refine hr.next (i := ((es.take k).filter (fun x => !g x.1)).length + 1) ?_ ?_
        · rw [List.getElem?_cons_succ, List.getElem?_append_right (by simp)]; simp
        · rw [List.append_assoc, List.getElem?_append_right (by simp)]
          simp only [List.length_map, Nat.add_sub_cancel_left, List.cons_append, List.getElem?_cons_succ]
          exact hbn
      have htake : es.take (k + 1) = es.take k ++ [(k0, v0, b1)] := by rw [List.take_add_one, hx]; rfl
      have hnk : ((es.take k).filter (fun x => g x.1)).length ≤ 4096 := by
        have h1 := List.length_filter_le (fun x : ByteArray × Int × Nat => g x.1) (es.take k)
        have h2 := List.length_take_le k es
        omega
      have HR := Lib.hid (And.intro Hr (And.intro hinv (And.intro hmod (And.intro hfoot (And.intro hnext (And.intro hbn (And.intro htake (And.intro hkg hbC))))))))
      clear Hr hinv hmod hfoot hnext hbn htake hkg hbC hb hx hdrop hnd
      go_wp2_with fail
      refine (HH.out.2.2.2.2.2 wr ((es.take k).map (·.1)) k0 HR.out.2.1).mono ?_
      rintro e1 w1 ⟨rfl, hinv1, hm1⟩
      obtain ⟨Hr, hinv, hmod, hfoot, hnext, hbn, htake, hkg, hbC⟩ := HR.out
      have H1 : CacheIs w1 C M ((es.take k).filter (fun x => !g x.1) ++ (k0, v0, b1) :: es.drop (k + 1)) sz h m := Hr.mod hm1 (fun c hc => HH.out.2.2.1 c (hfoot c hc))
      have hmod1 : Mod (fun b => b ∈ foot C M es ∨ Sc b) w w1 := hmod.trans hm1 (fun x hx => .inl (.inr hx))
      have c1 := hnext w1 H1
      have hn := H1.nodup
      have hl := H1.lk
      have hr := H1.ring
      rw [List.map_append, List.map_cons] at hn hl hr
      by_cases hgk : g k0 = true
      · rw [hgk]
        have HS := Lib.hid (And.intro H1 (And.intro hmod1 (And.intro hinv1 (And.intro hn (And.intro hl (And.intro hr hgk))))))
        clear Hr hinv hmod hfoot hnext hbn htake hkg hbC H1 hmod1 hn hl hr hinv1 hm1 hgk
        go_wp2_with fail
        refine (out_call' HS.out.2.2.2.1 HS.out.2.2.2.2.1 HS.out.2.2.2.2.2.1).mono ?_
        rintro e2 w2 ⟨rfl, hr2, hk2, hm2, hc2⟩
        obtain ⟨o, hrun, H3, c4, c5, hm3, hcc⟩ := removed HS.out.1 hr2 hk2 hm2
        have c6 : (setB w2.drew M o).cell? ⟨b1, 3, none⟩ = some (.pointer (some ⟨bn, 0, none⟩)) := by rw [hcc, hc2]; exact c1
        have HT := Lib.hid (And.intro H3 hm3)
        clear hr2 hk2 hm2 hc2 H3 hm3 hcc c1
        go_wp2_with fail
        go_region
        go_wp2
        go_roundg (gk - 1)
        case measure => omega
        case rel =>
          obtain ⟨Hr, hinv, hmod, hfoot, hnext, hbn, htake, hkg, hbC⟩ := HR.out
          obtain ⟨H1, hmod1, hinv1, hn, hl, hr, hgk⟩ := HS.out
          refine ⟨k + 1, bn, by omega, hbn, rfl, ?_, ?_, ?_, ?_⟩
          · rw [htake, List.filter_append, List.length_append]; simp [hgk]
          · rw [htake, List.filter_append]; simpa [hgk] using HT.out.1
          · rw [htake, List.map_append]; exact HH.out.2.2.2.1 _ _ _ hinv1 (HT.out.2.mono (fun x _ hx => hfoot x hx))
          · exact hmod1.trans HT.out.2 (fun x hx => .inl (.inl (hfoot x hx)))
      · have hgk' : g k0 = false := by simpa using hgk
        rw [hgk']
        have HS := Lib.hid (And.intro H1 (And.intro hmod1 (And.intro hinv1 hgk')))
        clear Hr hinv hmod hfoot hnext hbn htake hkg hbC H1 hmod1 hn hl hr hinv1 hm1 hgk hgk'
        go_wp2
        go_roundg (gk - 1)
        case measure => omega
        case rel =>
          obtain ⟨Hr, hinv, hmod, hfoot, hnext, hbn, htake, hkg, hbC⟩ := HR.out
          obtain ⟨H1, hmod1, hinv1, hgk⟩ := HS.out
          refine ⟨k + 1, bn, by omega, hbn, rfl, ?_, ?_, ?_, hmod1⟩
          · rw [htake, List.filter_append, List.length_append]; simp [hgk]
          · rw [htake, List.filter_append]; simpa [hgk] using H1
          · rw [htake, List.map_append]; exact hinv1
end
end Go.Proofs.Ytepgaphhinacmaa.CacheSI
