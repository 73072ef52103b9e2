/- porterlaw07.StoreApart: the walk (under way). -/
import Derived.Test.YtojjnfhgldjgbaaDoorAwakeS
import Derived.Test.YtojjnfhgldjgbaaDoorApartL
set_option linter.unusedVariables false
set_option linter.unusedSimpArgs false
namespace Go.Proofs.YtojjnfhgldjgbaaDoor.Store
open Go.RowKit Go.Por Go.Sort Go.Proofs.YtojjnfhgldjgbaaDoor.Watch Go.Por.Tupl
set_option maxRecDepth 100000 in
set_option maxHeartbeats 1600000 in
theorem apart_any {w : World} {v : Value} {muts : List Mut} (hr : ReadS mutC 4 w v muts) (hvb : muts ≠ [] → ∀ k, v.ownBlock = some k → k < w.heap.size) (hok : ∀ m ∈ muts, TupOk m.2) (hlen : muts.length ≤ 1048576) (rev : Int) :
    Calls Tryd.prog 4 #[v, .int .i64 rev] w fun e w' => e = .returned (.bool true) ∧ Below w.heap.size w w' := by
  obtain ⟨ao, cap, rfl, _⟩ := hr.form
  obtain ⟨n, hn⟩ : ∃ n, muts.length = n := ⟨_, rfl⟩
  rw [hn] at hr hvb hlen ⊢
  have HH := Lib.hid (And.intro hr (And.intro hvb (And.intro hok (And.intro hlen hn))))
  clear hr hvb hok hlen hn
  go_enter Tryd.func4, Tryd.ntmps4
  go_wp2_with fail
  refine (awake_any _).mono ?_
  rintro e w1 ⟨rfl, b1⟩
  have B1 := Lib.hid b1
  clear b1
  go_wp2_with fail
  refine (new_any _).mono ?_
  rintro e w2 ⟨a, rfl, ⟨O, U, M, MO, MU, lm, lo, lu, h2, e1, e2, e3⟩, b2⟩
  have hsh : Short 0 lm lo lu := ⟨fun k => by rw [e1]; exact Nat.le_refl _, fun k => by rw [e2]; exact Nat.le_refl _, fun k => by rw [e3]; exact Nat.le_refl _⟩
  have H2 := Lib.hid (And.intro h2 (And.intro e1 (And.intro e2 (And.intro e3 (And.intro b2 hsh)))))
  clear h2 e1 e2 e3 b2 hsh
  go_wp2_with fail
  refine (new_any _).mono ?_
  rintro e w3 ⟨b, rfl, ⟨O', U', M', MO', MU', lm', lo', lu', h3, e1, e2, e3⟩, b3⟩
  have hsh : Short 0 lm' lo' lu' := ⟨fun k => by rw [e1]; exact Nat.le_refl _, fun k => by rw [e2]; exact Nat.le_refl _, fun k => by rw [e3]; exact Nat.le_refl _⟩
  have hA3 := H2.out.1.below b3
  have b13 : Below w.heap.size w w3 := (B1.out.trans (H2.out.2.2.2.2.1.mono B1.out.size)).trans (b3.mono (Nat.le_trans B1.out.size H2.out.2.2.2.2.1.size))
  have H3 := Lib.hid (And.intro h3 (And.intro e1 (And.intro e2 (And.intro e3 (And.intro b3 (And.intro hsh (And.intro hA3 b13)))))))
  clear h3 e1 e2 e3 b3 hsh hA3 b13
  have hr3 : ReadS mutC 4 w3 (.slice ao n cap) muts := HH.out.1.mod (by decide) mutC_len (Mod.of_below H3.out.2.2.2.2.2.2.2 (fun _ => False)) (fun _ _ h => h)
  have HR := Lib.hid hr3
  clear hr3
  go_wp2_with fail
  refine (apply_mem H3.out.2.2.2.2.2.2.1 H2.out.2.2.2.2.2 HR.out (fun hne k hk hF => by have h1 := HH.out.2.1 hne k hk; have h2 := B1.out.size; omega) HH.out.2.2.1 (by have := HH.out.2.2.2.1; have := HH.out.2.2.2.2; omega) rev).mono ?_
  rintro e w4 ⟨rfl, lm4, lo4, lu4, h4, p4, s4, m4⟩
  rw [H2.out.2.1, H2.out.2.2.1, H2.out.2.2.2.1] at p4
  rw [H2.out.2.1]
  have hB4 : StMem w4 b O' U' M' MO' MU' (fun b => w2.heap.size ≤ b ∧ b < w3.heap.size) lm' lo' lu' 0 := H3.out.1.mod m4 (fun k hk hF => by omega)
  have b4 : Below w.heap.size w w4 := H3.out.2.2.2.2.2.2.2.trans (m4.to_below H3.out.2.2.2.2.2.2.2.size (fun k hk => Nat.le_trans B1.out.size hk.1))
  have H4 := Lib.hid (And.intro h4 (And.intro p4 (And.intro s4 (And.intro m4 (And.intro hB4 b4)))))
  clear h4 p4 s4 m4 hB4 b4
  obtain ⟨q, hq⟩ : ∃ q, checkA [] 0 rev muts = q := ⟨_, rfl⟩
  rw [hq] at H4 ⊢
  have HQ := Lib.hid hq
  clear hq
  by_cases hq0 : q = 0
  · subst hq0
    go_wp2
    go_loopg [8] n (fun gg vi wx => ∃ (lmx : List (Tup × (Value × List Span))) (lox : List (PairT × (Value × List Tup))) (lux : List (ByteArray × (Value × List Tup))), gg ≤ n ∧ vi = .int .i64 ((gg : Int) - 1) ∧ StMem wx b O' U' M' MO' MU' (grew (fun b => w2.heap.size ≤ b ∧ b < w3.heap.size) w4 wx) lmx lox lux 0 ∧ smc lmx = applyA rev [] (muts.reverse.take (n - gg)) ∧ Short (n - gg) lmx lox lux ∧ Mod (fun b => w2.heap.size ≤ b ∧ b < w3.heap.size) w4 wx)
    case atStart =>
      refine ⟨lm', lo', lu', Nat.le_refl _, ?_, H4.out.2.2.2.2.1.weaken (fun b hb => .inl hb) (fun b hb => ?_), ?_, ?_, Mod.refl _ _⟩
      · have hl := HH.out.2.2.2.1
        rw [show wrap64 ((n : Int) - 1) = (n : Int) - 1 by unfold wrap64; omega]
      · have z := H4.out.2.2.2.1.size
        rcases hb with hb | hb <;> omega
      · rw [Nat.sub_self, H3.out.2.1]; rfl
      · rw [Nat.sub_self]; exact H3.out.2.2.2.2.2.1
    case round =>
      obtain ⟨lmx, lox, lux, hgn, rfl, hSx, hap, hsh, hmod⟩ := hrel
      by_cases hg : gk = 0
      · subst hg
        have HE := Lib.hid (And.intro hSx (And.intro hap hmod))
        clear hSx hap hsh hmod
        have hcr := check_perm (List.reverse_perm muts).symm HQ.out
        have e4 : smc lm4 = applyA rev [] muts := by
          have p4 := H4.out.2.1
          rw [if_pos trivial] at p4
          rw [show smc lm4 = (apply3 rev ([], [], []) muts).1 from congrArg (fun x : St3 => x.1) p4, apply3_fst]
        have ex : smc lmx = applyA rev [] muts.reverse := by rw [HE.out.2.1, Nat.sub_zero, List.take_of_length_le (by rw [List.length_reverse, HH.out.2.2.2.2]; exact Nat.le_refl _)]
        have hA := H4.out.1.mod HE.out.2.2 (fun k hk hF => by rcases hk with hk | hk <;> omega)
        have bwr : Below w.heap.size w wr := H4.out.2.2.2.2.2.trans (HE.out.2.2.to_below H4.out.2.2.2.2.2.size (fun k hk => Nat.le_trans (Nat.le_trans B1.out.size H2.out.2.2.2.2.1.size) hk.1))
        have hl := HH.out.2.2.2.1
        have hnn := HH.out.2.2.2.2
        have HF := Lib.hid (And.intro hcr (And.intro e4 (And.intro ex (And.intro hA bwr))))
        clear hcr e4 ex hA bwr
        go_wp2_with fail
        refine (rows_mem HF.out.2.2.2.1 (by rw [HF.out.2.1]; exact flat_room HQ.out (by omega)) (by rw [HF.out.2.1]; exact flat_revs HQ.out)).mono ?_
        rintro e w5 ⟨v5, rfl, l5, p5, s5, o5, b5, _⟩
        rw [HF.out.2.1] at p5
        have hb5 := HE.out.1.mod (Mod.of_below b5 (fun _ => False)) (fun _ _ h => h)
        have HG := Lib.hid (And.intro p5 (And.intro s5 (And.intro o5 (And.intro b5 hb5))))
        clear p5 s5 o5 b5 hb5
        go_wp2_with fail
        refine (rows_mem HG.out.2.2.2.2 (by rw [HF.out.2.2.1]; exact flat_room HF.out.1 (by rw [List.length_reverse]; omega)) (by rw [HF.out.2.2.1]; exact flat_revs HF.out.1)).mono ?_
        rintro e w6 ⟨v6, rfl, l6, p6, s6, o6, b6, _⟩
        rw [HF.out.2.2.1] at p6
        have el : l5 = l6 := rows_same (good_of_check HQ.out) (good_of_check HF.out.1) (aget_perm (List.reverse_perm muts).symm (checkA_ok HQ.out).2.2.2) HG.out.1 HG.out.2.1 p6 s6
        have HI := Lib.hid (And.intro el (And.intro (HG.out.2.2.1.mod (Mod.of_below b6 (fun _ => False)) (fun _ _ h => h)) (And.intro o6 b6)))
        clear el p6 s6 o6 b6
        go_wp2_with fail
        refine (same07_any (HI.out.2.1.read rowC_len') (HI.out.2.2.1.read rowC_len')).mono ?_
        rintro e w7 ⟨rfl, m7⟩
        rw [decide_eq_true HI.out.1]
        have HK := Lib.hid m7
        clear m7
        go_wp2
        go_ret
        have c1 := HF.out.2.2.2.2
        have c2 := c1.trans (HG.out.2.2.2.1.mono c1.size)
        have c3 := c2.trans (HI.out.2.2.2.mono c2.size)
        exact ⟨rfl, c3.trans (HK.out.to_below c3.size (fun _ h => h.elim))⟩
      · obtain ⟨k, rfl⟩ : ∃ k, gk = k + 1 := ⟨gk - 1, by omega⟩
        have ek : ((k + 1 : Nat) : Int) - 1 = (k : Int) := by omega
        rw [ek]
        have hkn : k < n := by omega
        obtain ⟨⟨d, t0, t1, t2⟩, hx⟩ : ∃ m, muts[k]? = some m := ⟨_, List.getElem?_eq_getElem (by rw [HH.out.2.2.2.2]; exact hkn)⟩
        have hne : muts ≠ [] := List.ne_nil_of_mem (List.mem_of_getElem? hx)
        have hrr := (HR.out.mod (by decide) mutC_len H4.out.2.2.2.1 (fun k hk hF => by have h1 := HH.out.2.1 hne k hk; have h2 := B1.out.size; omega)).mod (by decide) mutC_len hmod (fun k hk hF => by have h1 := HH.out.2.1 hne k hk; have h2 := B1.out.size; have h3 := H2.out.2.2.2.2.1.size; omega)
        obtain ⟨bb, o, rfl, hrange, hbl⟩ := hrr.lt (by decide) mutC_len hx
        have hok := HH.out.2.2.1 _ (List.mem_of_getElem? hx)
        have hrev : muts.reverse[n - (k + 1)]? = some (d, t0, t1, t2) := by
          rw [List.getElem?_reverse (by rw [HH.out.2.2.2.2]; omega), HH.out.2.2.2.2, show n - 1 - (n - (k + 1)) = k by omega]
          exact hx
        have hcr := check_perm (List.reverse_perm muts).symm HQ.out
        have hjl : n - (k + 1) < muts.reverse.length := by rw [List.length_reverse, HH.out.2.2.2.2]; omega
        have hsplit : muts.reverse.take (n - (k + 1)) ++ (d, t0, t1, t2) :: muts.reverse.drop (n - (k + 1) + 1) = muts.reverse := by
          rw [List.getElem?_eq_getElem hjl] at hrev
          rw [← Option.some.inj hrev, ← List.drop_eq_getElem_cons hjl, List.take_append_drop]
        rw [← hsplit] at hcr
        have hone := apart_step hcr
        rw [← hap] at hone
        have htk : applyA rev [] (muts.reverse.take (n - k)) = stepA rev (smc lmx) (d, t0, t1, t2) := by
          rw [show n - k = n - (k + 1) + 1 by omega, List.take_add_one, hrev, Option.toList_some, hap]
          unfold applyA
          rw [List.foldl_append]
          rfl
        have hlim : (k : Int) < 9223372036854775807 := by have := HH.out.2.2.2.1; omega
        have hkc : (k : Int) < (n : Int) := by omega
        have HE := Lib.hid (And.intro hSx (And.intro hsh (And.intro hmod (And.intro hrange (And.intro hok (And.intro hone (And.intro htk hkn)))))))
        clear hSx hap hsh hmod hrange hok hone htk hkn hgn hrr hbl hx hrev hcr hjl hsplit hg ek
        go_wp2_with (first
          | (refine wpList_load_mid rfl 30 (.tmp 34) rfl bb (o + k * 4) rfl (mutC (d, t0, t1, t2)) _ HE.out.2.2.2.1 Tryd.underlying30 rfl infoMut0 ?_; unfold mutC))
        have hlb := HH.out.2.2.2.1
        refine (apply_one HE.out.1 HE.out.2.1 (by omega) (d, t0, t1, t2) HE.out.2.2.2.2.1 rev).mono ?_
        rintro e w5 ⟨rfl, lm5, lo5, lu5, h5, p5, s5, m5⟩
        rw [HE.out.2.2.2.2.2.1, if_pos rfl] at p5
        rw [HE.out.2.2.2.2.2.1]
        have HF := Lib.hid (And.intro h5 (And.intro p5 (And.intro s5 m5)))
        clear h5 p5 s5 m5
        go_wp2
        go_roundg k
        case measure => omega
        case rel =>
          obtain ⟨e1, e2, e3, e4, e5, e6, e7, e8⟩ := HE.out
          obtain ⟨f1, f2, f3, f4⟩ := HF.out
          have z1 := e3.size
          have z2 := f4.size
          have z3 := H4.out.2.2.2.1.size
          refine ⟨lm5, lo5, lu5, by omega, ?_, f1.weaken (fun b hb => ?_) (fun b hb => ?_), ?_, ?_, e3.trans f4 (fun b hb => ?_)⟩
          · congr 1
          · rcases hb with (hb | hb) | hb
            · exact .inl hb
            · exact .inr ⟨hb.1, by omega⟩
            · exact .inr ⟨by omega, hb.2⟩
          · rcases hb with hb | hb <;> omega
          · rw [e7, show smc lm5 = (apply3 rev (smc lmx, smc lox, smc lux) [(d, t0, t1, t2)]).1 from congrArg (fun x : St3 => x.1) f2, apply3_fst]
            rfl
          · rw [show n - k = n - (k + 1) + 1 by omega]; exact f3
          · rcases hb with hb | hb
            · exact .inl hb
            · exact .inr hb.1
  · have hq1 : (q == 0) = false := by simp [hq0]
    have p4 := H4.out.2.1
    rw [if_neg hq0] at p4
    have e4 : smc lm4 = [] := congrArg (fun x : St3 => x.1) p4
    go_wp2_with fail
    refine (rows_mem H4.out.1 (by rw [e4]; decide) (by rw [e4]; intro r hr; cases hr)).mono ?_
    rintro e w5 ⟨v5, rfl, l5, p5, _, o5, b5, _⟩
    rw [e4] at p5
    have hl5 : l5 = [] := List.Perm.eq_nil p5
    subst hl5
    have B5 := Lib.hid (H4.out.2.2.2.2.2.trans (b5.mono H4.out.2.2.2.2.2.size))
    clear b5 p5 p4 e4
    rcases o5.form with ⟨rfl, _⟩ | ⟨g, cap5, rfl, _, _⟩
    · clear o5
      go_wp2
      go_ret
      exact ⟨rfl, B5.out⟩
    · clear o5
      go_wp2
      go_ret
      exact ⟨rfl, B5.out⟩
end Go.Proofs.YtojjnfhgldjgbaaDoor.Store
