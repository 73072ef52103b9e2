/- porterlaw13.OutboxSeen answers true at every input. -/
import Derived.Test.YtepgaphhinacmaaOutboxSeenA
import Derived.Deep.CutBlock
import Derived.Deep.RegionWith
namespace Go.Proofs.Ytepgaphhinacmaa.OutboxSeen
open Go.RowKit Go.Por Go.Proofs.Ytepgaphhinacmaa.CacheII Go.Proofs.Ytepgaphhinacmaa.Seen Go.Proofs.Ytepgaphhinacmaa.CacheTrue

/-- What holds at a round's head: 'xs' has come, the last first. -/
def Head (w0 wr : World) (S C M L N : Nat) (xs : List Int) : Prop :=
  ∃ es lm, Inv w0 wr S C M L es lm ((N : Int) + 1) ∧ (kv es).map (·.1) = (dedup xs).take (N + 1) ∧
    (∀ q v, (q, v) ∈ kv es → (q, Value.int .i64 v) ∈ lm) ∧ ∀ p ∈ lm, ∃ c : Int, p.2 = .int .i64 c

set_option maxRecDepth 100000 in
set_option maxHeartbeats 4000000 in
theorem law_any (size : Int) (ao : Option Addr) (n cap : Nat) (keys : List Int) (w : World) (hn : keys.length = n) (hmax : n ≤ 9223372036854775807)
    (hcell : ∀ i, i < n → ∃ b o, ao = some ⟨b, o, none⟩ ∧ ∀ j, j < n → w.cell? ⟨b, o + j, none⟩ = some (.int .i64 (keys.getD j 0))) :
    Calls Try.prog 7 #[.int .i64 size, .slice ao n cap] w fun e w' => e = .returned (.bool true) ∧ Below w.heap.size w w' := by
  by_cases hs : size < 1 ∨ 4096 < size
  · by_cases hs1 : size < 1
    all_goals
      go_enter Try.func7, Try.ntmps7
      go_wp2_with fail
      refine (AwakeO.awake_any w).mono ?_
      rintro e w1 ⟨rfl, hb1⟩
      go_wp2_with fail
      refine (Seen.new_bad size w1 hs).mono ?_
      rintro e w2 ⟨rfl, rfl⟩
      try have hs2 : 4096 < size := by omega
      clear hs
      go_wp2
      go_ret
      exact ⟨rfl, hb1⟩
  obtain ⟨N, rfl⟩ : ∃ N : Nat, size = (N : Int) + 1 := ⟨(size - 1).toNat, by omega⟩
  have hN : N < 4096 := by omega
  clear hs
  have hmm := @run_makeMap Try.prog
  go_enter Try.func7, Try.ntmps7
  go_wp2_with fail
  refine (AwakeO.awake_any w).mono ?_
  rintro e w1 ⟨rfl, hb1⟩
  have HB1 := Lib.hid hb1
  clear hb1
  go_wp2_with fail
  refine (Seen.new_good ((N : Int) + 1) w1 (by omega) (by omega)).mono ?_
  rintro e w2 ⟨S, C, M, rfl, hS2, hS, hC, hM, hb2⟩
  have hI : Inv w (w2.alloc (.map #[] 0)) S C M w2.heap.size [] [] ((N : Int) + 1) := by
    have h1 := HB1.out.size
    have h2 := hS2.lt
    have h3 := hb2.size
    refine ⟨hS2.mod (T := fun _ => False) ((Mod.refl _ w2).alloc _) (fun _ h => h.elim), MapIs.made _ _, ?_, by omega, by omega, ?_, by omega, ?_⟩
    · intro b hb; simp [foot] at hb; rcases hb with rfl | rfl <;> omega
    · intro h; have := h2.2 _ h; omega
    · exact ((HB1.out.trans (hb2.mono h1))).alloc (by omega) _
  have HI := Lib.hid hI
  clear hS2 hS hC hM hb2 hI
  go_wp2
  generalize w2.heap.size = L at *
  go_loopg [35] (n) (fun g i wr => ∃ k : Nat, k + g = n ∧ i = .int .i64 (k : Int) ∧ Head w wr S C M L N (keys.take k).reverse)
  case atStart => exact ⟨0, by omega, rfl, [], [], HI.out, by simp [dedup, kv], by simp [kv], by simp⟩
  case round =>
    obtain ⟨k, hkg, rfl, es, lm, hinv, hkeys, hvals, hints⟩ := hrel
    by_cases hg : gk = 0
    · have hk : ¬ ((k : Int) < (n : Int)) := by omega
      have HH := Lib.hid hinv.below
      clear hinv hkeys hvals hints hkg hg hcell
      go_wp2
      go_ret
      exact ⟨rfl, HH.out⟩
    have hk : k < n := by omega
    obtain ⟨kb, ko, rfl, hcells⟩ := hcell k hk
    have hkb : kb < w.heap.size := World.block_lt_of_cell? w ⟨kb, ko + k, none⟩ (hcells k hk)
    have hrd : ∀ u : World, Below w.heap.size w u → ∀ j, j < n → u.cell? ⟨kb, ko + j, none⟩ = some (.int .i64 (keys.getD j 0)) := fun u hu j hj => by
      rw [hu.cell (p := ⟨kb, ko + j, none⟩) hkb]; exact hcells j hj
    have c0 := hrd wr hinv.below k hk
    have HR := Lib.hid (And.intro hinv (And.intro hkeys (And.intro hvals (And.intro hints (And.intro hrd (And.intro hkg hn))))))
    clear hinv hkeys hvals hints hrd hkg hg hcells hcell hn
    generalize hx : keys.getD k 0 = x at *
    have HX := Lib.hid hx
    clear hx
    go_upto_block 2 with fail
    generalize hU : wr.heap.size = U at *
    have HU := Lib.hid hU
    clear hU
    -- the unlike ones
    go_cut [] (fun wx => ∃ lu : List (Int × Value), MapIs wx U (fun n => Value.int .i64 n) lu ∧ lu.map (·.1) = (dedup (keys.take k).reverse).take (N + 1) ∧ (∀ p ∈ lu, ∃ c : Int, p.2 = .int .i64 c ∧ 1 ≤ c) ∧ Mod (fun b => b = U) (wr.alloc (.map #[] 0)) wx)
    case first =>
      go_wp2
      go_loopg [11] (k) (fun g j wx => ∃ (t : Nat) (jj : Int) (lu : List (Int × Value)), t + g = k ∧ jj = (k : Int) - 1 - t ∧ j = .int .i64 jj ∧ MapIs wx U (fun n => Value.int .i64 n) lu ∧ lu.map (·.1) = (dedup ((keys.take k).reverse.take t)).take (N + 1) ∧ (∀ p ∈ lu, ∃ c : Int, p.2 = .int .i64 c ∧ 1 ≤ c ∧ c ≤ t) ∧ Mod (fun b => b = U) (wr.alloc (.map #[] 0)) wx)
      case atStart => exact ⟨0, (k : Int) - 1, [], by omega, by omega, rfl, by rw [← HU.out]; exact MapIs.made _ _, by simp [dedup], by simp, Mod.refl _ _⟩
      case round =>
        obtain ⟨t, jj, lu, htg, hjj, rfl, hlu, hluk, hlui, hmod⟩ := hrel
        have hjn : jj < n := by omega
        by_cases hg2 : gk = 0
        · have hj0 : ¬ (0 ≤ jj) := by omega
          have ht : t = k := by omega
          have HE := Lib.hid (And.intro hlu (And.intro hluk (And.intro hlui (And.intro hmod ht))))
          clear hlu hluk hlui hmod ht hjj htg hg2
          go_wp2
          go_meet
          obtain ⟨hlu, hluk, hlui, hmod, ht⟩ := HE.out
          subst ht
          rw [List.take_of_length_le (l := (keys.take t).reverse) (by simp; omega)] at hluk
          exact ⟨lu, hlu, hluk, fun p hp => by obtain ⟨c, h1, h2, _⟩ := hlui p hp; exact ⟨c, h1, h2⟩, hmod⟩
        · have hj0 : 0 ≤ jj := by omega
          have htk : t < k := by omega
          have hln := fun ty : TypeId => hlu.len (ty := ty) Try.underlying29
          have hlen2 : lu.length = ((dedup ((keys.take k).reverse.take t)).take (N + 1)).length := by rw [← hluk]; simp
          by_cases hfull : lu.length < N + 1
          · have hfull' : ((lu.length : Int) < (N : Int) + 1) := by omega
            obtain ⟨c, hlk, hcc⟩ := look_int hlu (fun p hp => by obtain ⟨c, h1, _⟩ := hlui p hp; exact ⟨c, h1⟩) (keys.getD jj.toNat 0)
            have hc : 0 ≤ c ∧ c ≤ t := by
              rcases hcc with h | ⟨_, rfl⟩
              · obtain ⟨c', h1, h2, h3⟩ := hlui _ h
                cases h1
                omega
              · omega
            have hw : wrap64 (c + 1) = c + 1 := by unfold wrap64; omega
            obtain ⟨o, hst, hlu'⟩ := hlu.store keyInt Try.underlying29 (keys.getD jj.toNat 0) (.int .i64 (c + 1))
            have cj : wr.cell? ⟨kb, ko + jj.toNat, none⟩ = some (.int .i64 (keys.getD jj.toNat 0)) := by
              obtain ⟨hinv, hkeys, hvals, hints, hrd, hkg, hn⟩ := HR.out
              have hb := hinv.below
              exact hrd wr ((hb.alloc hb.size _).trans (hmod.to_below (by have := hb.size; simp; omega) (fun x hx => by rw [show x = U from hx, ← HU.out]; exact hb.size))) jj.toNat (by omega)
            generalize hy : keys.getD jj.toNat 0 = y at *
            have HY := Lib.hid hy
            have HE := Lib.hid (And.intro hlu' (And.intro hluk (And.intro hlui (And.intro hmod (And.intro htg (And.intro hjj (And.intro hlen2 hcc)))))))
            clear hlu hlu' hluk hlui hmod htg hjj hlen2 hfull hy hcc
            go_wp2
            go_roundg (gk - 1)
            case measure => omega
            case rel =>
              obtain ⟨hlu', hluk, hlui, hmod, htg, hjj, hlen2, hcc⟩ := HE.out
              have hn := HR.out.2.2.2.2.2.2
              have hy : keys.getD (k - 1 - t) 0 = y := by rw [← HY.out]; congr 1; omega
              refine ⟨t + 1, jj - 1, mput lu y (.int .i64 (c + 1)), by omega, by omega, rfl, hlu', ?_, ?_, hmod.trans' (setB_mod wr U o)⟩
              · have hsn := dedup_take_snoc (n := N + 1) ((keys.take k).reverse.take t) y (by omega)
                have hra := rev_at keys (k := k - 1) (t := t) (by omega) (by omega)
                rw [show k - 1 + 1 = k by omega] at hra
                rw [hra, hy, hsn, ← hluk]
                by_cases hm : y ∈ lu.map Prod.fst
                · rw [if_pos hm, mput_fst_old _ _ _ hm]
                · rw [if_neg hm, mput_fst_new _ _ _ hm]
              · intro p hp
                obtain ⟨q, u⟩ := p
                rcases mem_mput.1 hp with ⟨_, rfl⟩ | ⟨_, hp⟩
                · exact ⟨_, rfl, by omega, by omega⟩
                · obtain ⟨c', h1, h2, h3⟩ := hlui _ hp
                  exact ⟨c', h1, h2, by omega⟩
          · have hfull' : ¬ ((lu.length : Int) < (N : Int) + 1) := by omega
            have HE := Lib.hid (And.intro hlu (And.intro hluk (And.intro hlui (And.intro hmod (And.intro htg (And.intro hlen2 hfull))))))
            clear hlu hluk hlui hmod htg hjj hlen2 hfull
            go_wp2
            go_meet
            obtain ⟨hlu, hluk, hlui, hmod, htg, hlen2, hfull⟩ := HE.out
            refine ⟨lu, hlu, ?_, fun p hp => by obtain ⟨c, h1, h2, _⟩ := hlui p hp; exact ⟨c, h1, h2⟩, hmod⟩
            rw [hluk]
            have h1 : ((dedup ((keys.take k).reverse.take t)).take (N + 1)).length = N + 1 := by
              have := List.length_take_le (N + 1) (dedup ((keys.take k).reverse.take t))
              omega
            have h2 := dedup_take_full ((keys.take k).reverse.take t) ((keys.take k).reverse.drop t) h1
            rw [List.take_append_drop] at h2
            exact h2.symm
    case rest =>
      obtain ⟨lu, hlu, hluk, hlui, hmod⟩ := hcut
      obtain ⟨hinv, hkeys, hvals, hints, hrd, hkg, hn⟩ := HR.out
      have hUsz := HU.out
      have hinv6 : Inv w wc S C M L es lm ((N : Int) + 1) := (hinv.alloc (.map #[] 0)).mod hmod (fun b hb => by
        have e : b = U := hb
        subst e
        obtain ⟨h1, h2⟩ := hinv.seen.lt
        have h3 := hinv.last.lt
        have h4 := hinv.below.size
        exact ⟨fun h => by have := h2 _ h; omega, by omega, by omega, by omega⟩)
      have hlen1 : (es.length : Int) ≤ (N : Int) + 1 := by
        have h1 := congrArg List.length hkeys
        rw [List.length_map, List.length_take, kv_length] at h1
        omega
      have hnext : ∀ (es' : List (Int × Int × Nat)) (lm' : List (Int × Value)) (u : Int) (w' : World), Inv w w' S C M L es' lm' ((N : Int) + 1) → kv es' = lput ((N : Int) + 1) (kv es) x u →
          (∀ q v, (q, v) ∈ lm' ↔ (q = x ∧ v = .int .i64 u) ∨ (q ≠ x ∧ (q, v) ∈ lm)) → Head w w' S C M L N (keys.take (k + 1)).reverse := by
        intro es' lm' u w' hI hk' hl'
        refine ⟨es', lm', hI, ?_, ?_, ?_⟩
        · rw [hk', rev_cons keys (by omega), HX.out]
          exact lput_keys (n := N) hkeys x u
        · intro q v hq
          rw [hk'] at hq
          rcases mem_lput' hq with ⟨rfl, rfl⟩ | ⟨hne, hq⟩
          · exact (hl' _ _).2 (.inl ⟨rfl, rfl⟩)
          · exact (hl' _ _).2 (.inr ⟨hne, hvals q v hq⟩)
        · rintro ⟨q, u'⟩ hp
          rcases (hl' _ _).1 hp with ⟨_, rfl⟩ | ⟨_, hp⟩
          · exact ⟨_, rfl⟩
          · exact hints _ hp
      obtain ⟨c, hlk, hcc⟩ := look_int hlu (fun p hp => by obtain ⟨c, h1, _⟩ := hlui p hp; exact ⟨c, h1⟩) x
      by_cases hin : x ∈ lu.map Prod.fst
      · -- it was seen
        obtain ⟨v, hv⟩ : ∃ v, klook (kv es) x = some v := by
          have h1 : klook (kv es) x ≠ none := fun h => (klook_none.1 h) (by rw [hkeys, ← hluk]; exact hin)
          exact Option.ne_none_iff_exists'.1 h1
        have hc : (c == 0) = false := by
          rcases hcc with h | ⟨h, _⟩
          · obtain ⟨c', h1, h2⟩ := hlui _ h
            cases h1
            rw [beq_eq_false_iff_ne]; omega
          · exact absurd hin h
        have hlt := hinv6.last.look_hit keyInt Try.underlying29 (hvals x v (klook_some hv)) false
        obtain ⟨o5, hst5, hinv5⟩ := hinv6.store x (.int .i64 (wrap64 (v + 1)))
        have hmem : (x, Value.int .i64 (wrap64 (v + 1))) ∈ mput lm x (.int .i64 (wrap64 (v + 1))) := mem_mput.2 (.inl ⟨rfl, rfl⟩)
        have hlmx : ∀ q u, (q, u) ∈ mput lm x (.int .i64 (wrap64 (v + 1))) ↔ (q = x ∧ u = .int .i64 (wrap64 (v + 1))) ∨ (q ≠ x ∧ (q, u) ∈ lm) := fun q u => mem_mput
        generalize mput lm x (.int .i64 (wrap64 (v + 1))) = lm5 at *
        generalize setB wc L o5 = w5 at *
        have HV := Lib.hid (And.intro hinv5 (And.intro hnext (And.intro hlen1 (And.intro hv (And.intro hmem (And.intro hlmx hkg))))))
        clear hinv hkeys hvals hints hrd hkg hn hinv6 hnext hlu hluk hlui hmod hin hv hcc hinv5 hmem hlmx hlen1 hUsz
        go_upto_region 19 with fail
        have hne : ∀ b : Bool, (b != b) = false := by intro b; cases b <;> rfl
        go_cut [84] (fun s84 wx => s84 = .bool false ∧ ∃ es', Inv w wx S C M L es' lm5 ((N : Int) + 1) ∧ kv es' = lput ((N : Int) + 1) (kv es) x (wrap64 (v + 1)))
        case first =>
          have hf : (!(klook (kv es) x).isSome) = false := by rw [HV.out.2.2.2.1]; rfl
          have hu : wrap64 ((klook (kv es) x).getD 0 + 1) = wrap64 (v + 1) := by rw [HV.out.2.2.2.1]; rfl
          have HFU := Lib.hid (And.intro hf hu)
          clear hf hu
          generalize wrap64 (v + 1) = u at *
          go_region_with (first
            | (go_at_call 41; refine (HV.out.1.drew.first x (by omega) HV.out.2.2.1 HFU.out.1 HFU.out.2).mono ?_; rintro e w7 ⟨rfl, es7, hinv7, hk7⟩; have hlk7 := hinv7.last.look_hit keyInt Try.underlying29 HV.out.2.2.2.2.1 false; have H7 := Lib.hid (And.intro hinv7 hk7); clear hinv7 hk7)
            | (go_at_call 42; refine (H7.out.1.times x (u := u) (by rw [H7.out.2]; exact klook_lput _ _ _ _)).mono ?_; rintro e w8 ⟨rfl, es8, hinv8, hk8⟩; have hlk8 := hinv8.last.look_hit keyInt Try.underlying29 HV.out.2.2.2.2.1 false; have H8 := Lib.hid (And.intro hinv8 hk8); clear hinv8 hk8))
          all_goals go_wp2
          all_goals go_meet
          all_goals exact ⟨by simp, es8, H8.out.1, by rw [H8.out.2, H7.out.2, lget_lput]⟩
        case rest =>
          obtain ⟨rfl, es8, hinv8, hk8⟩ := hcut
          have H8 := Lib.hid (And.intro hinv8 hk8)
          clear hinv8 hk8
          go_wp2
          go_roundg (gk - 1)
          case measure => have := HV.out.2.2.2.2.2.2; omega
          case rel =>
            obtain ⟨hinv5, hnext, hlen1, hv, hmem, hlmx, hkg⟩ := HV.out
            exact ⟨k + 1, by omega, by go_num, hnext _ _ _ _ H8.out.1 H8.out.2 hlmx⟩
      · -- it is new
        have hv : klook (kv es) x = none := klook_none.2 (by rw [hkeys, ← hluk]; exact hin)
        have hc : c = 0 := by
          rcases hcc with h | ⟨_, h⟩
          · exact absurd (List.mem_map.2 ⟨_, h, rfl⟩) hin
          · exact h
        subst hc
        obtain ⟨o4, hst4, hinv4⟩ := hinv6.store x (.int .i64 0)
        have hlt := hinv4.last.look_hit keyInt Try.underlying29 (mem_mput.2 (.inl ⟨rfl, rfl⟩) : (x, Value.int .i64 0) ∈ mput lm x (.int .i64 0)) false
        obtain ⟨o5, hst5, hinv5⟩ := hinv4.store x (.int .i64 1)
        have hmem : (x, Value.int .i64 1) ∈ mput (mput lm x (.int .i64 0)) x (.int .i64 1) := mem_mput.2 (.inl ⟨rfl, rfl⟩)
        have hlmx : ∀ q u, (q, u) ∈ mput (mput lm x (.int .i64 0)) x (.int .i64 1) ↔ (q = x ∧ u = .int .i64 1) ∨ (q ≠ x ∧ (q, u) ∈ lm) := fun q u => by
          rw [mem_mput, mem_mput]
          constructor
          · rintro (h | ⟨h1, h2 | h2⟩)
            · exact .inl h
            · exact absurd h2.1 h1
            · exact .inr h2
          · rintro (h | h)
            · exact .inl h
            · exact .inr ⟨h.1, .inr h⟩
        generalize mput (mput lm x (.int .i64 0)) x (.int .i64 1) = lm5 at *
        generalize setB (setB wc L o4) L o5 = w5 at *
        generalize setB wc L o4 = w4 at *
        have HV := Lib.hid (And.intro hinv5 (And.intro hnext (And.intro hlen1 (And.intro hv (And.intro hmem (And.intro hlmx hkg))))))
        clear hinv hkeys hvals hints hrd hkg hn hinv6 hnext hlu hluk hlui hmod hin hv hcc hinv4 hinv5 hmem hlmx hlen1 hUsz
        go_upto_region 19 with fail
        have hne : ∀ b : Bool, (b != b) = false := by intro b; cases b <;> rfl
        go_cut [84] (fun s84 wx => s84 = .bool false ∧ ∃ es', Inv w wx S C M L es' lm5 ((N : Int) + 1) ∧ kv es' = lput ((N : Int) + 1) (kv es) x 1)
        case first =>
          have hf : (!(klook (kv es) x).isSome) = true := by rw [HV.out.2.2.2.1]; rfl
          have hu : wrap64 ((klook (kv es) x).getD 0 + 1) = 1 := by rw [HV.out.2.2.2.1]; simp [wrap64]
          have HFU := Lib.hid (And.intro hf hu)
          clear hf hu
          go_region_with (first
            | (go_at_call 41; refine (HV.out.1.drew.first x (by omega) HV.out.2.2.1 HFU.out.1 HFU.out.2).mono ?_; rintro e w7 ⟨rfl, es7, hinv7, hk7⟩; have hlk7 := hinv7.last.look_hit keyInt Try.underlying29 HV.out.2.2.2.2.1 false; have H7 := Lib.hid (And.intro hinv7 hk7); clear hinv7 hk7)
            | (go_at_call 42; refine (H7.out.1.times x (u := 1) (by rw [H7.out.2]; exact klook_lput _ _ _ _)).mono ?_; rintro e w8 ⟨rfl, es8, hinv8, hk8⟩; have hlk8 := hinv8.last.look_hit keyInt Try.underlying29 HV.out.2.2.2.2.1 false; have H8 := Lib.hid (And.intro hinv8 hk8); clear hinv8 hk8))
          all_goals go_wp2
          all_goals go_meet
          all_goals exact ⟨by simp, es8, H8.out.1, by rw [H8.out.2, H7.out.2, lget_lput]⟩
        case rest =>
          obtain ⟨rfl, es8, hinv8, hk8⟩ := hcut
          have H8 := Lib.hid (And.intro hinv8 hk8)
          clear hinv8 hk8
          go_wp2
          go_roundg (gk - 1)
          case measure => have := HV.out.2.2.2.2.2.2; omega
          case rel =>
            obtain ⟨hinv5, hnext, hlen1, hv, hmem, hlmx, hkg⟩ := HV.out
            exact ⟨k + 1, by omega, by go_num, hnext _ _ _ _ H8.out.1 H8.out.2 hlmx⟩
end Go.Proofs.Ytepgaphhinacmaa.OutboxSeen
