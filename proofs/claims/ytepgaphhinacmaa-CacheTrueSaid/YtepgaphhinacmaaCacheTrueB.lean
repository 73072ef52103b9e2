/- porterlaw10.CacheTrue answers true at every input. -/
import Derived.Test.YtepgaphhinacmaaCacheTrueA
import Derived.Deep.CutBlock
namespace Go.Proofs.Ytepgaphhinacmaa.CacheTrue
open Go.RowKit Go.Por Go.Proofs.Ytepgaphhinacmaa.CacheIA

/-- What holds at a round's head: 'xs' has come, the last first. -/
def Head (w0 wr : World) (C M L N : Nat) (xs : List Int) : Prop :=
  ∃ es lm, Inv w0 wr C M L es lm ((N : Int) + 1) ∧ (kv es).map (·.1) = (dedup xs).take (N + 1) ∧
    (∀ q v, (q, v) ∈ kv es → v.1 = q ∧ (q, Value.int .i64 v.2) ∈ lm) ∧ ∀ p ∈ lm, ∃ c : Int, p.2 = .int .i64 c

set_option maxRecDepth 100000 in
set_option maxHeartbeats 4000000 in
theorem law_any (size : Int) (ao : Option Addr) (n cap : Nat) (keys : List Int) (w : World) (hn : keys.length = n) (hmax : n ≤ 9223372036854775807)
    (hcell : ∀ i, i < n → ∃ b o, ao = some ⟨b, o, none⟩ ∧ ∀ j, j < n → w.cell? ⟨b, o + j, none⟩ = some (.int .i64 (keys.getD j 0))) :
    Calls Try.prog 3 #[.int .i64 size, .slice ao n cap] w fun e w' => e = .returned (.bool true) ∧ Below w.heap.size w w' := by
  by_cases hs : size < 1 ∨ 4096 < size
  · go_enter Try.func3, Try.ntmps3
    go_wp2_with fail
    refine (AwakeC.awake_any w).mono ?_
    rintro e w1 ⟨rfl, hb1⟩
    go_wp2_with fail
    refine (new_bad size w1 hs).mono ?_
    rintro e w2 ⟨rfl, rfl⟩
    go_wp2
    go_ret
    exact ⟨rfl, hb1⟩
  obtain ⟨N, rfl⟩ : ∃ N : Nat, size = (N : Int) + 1 := ⟨(size - 1).toNat, by omega⟩
  have hN : N < 4096 := by omega
  clear hs
  have hmm := @run_makeMap Try.prog
  go_enter Try.func3, Try.ntmps3
  go_wp2_with fail
  refine (AwakeC.awake_any w).mono ?_
  rintro e w1 ⟨rfl, hb1⟩
  have HB1 := Lib.hid hb1
  clear hb1
  go_wp2_with fail
  refine (new_good ((N : Int) + 1) w1 (by omega) (by omega)).mono ?_
  rintro e w2 ⟨C, M, rfl, hc, hC, hM, hb2⟩
  have hs2 := hb2.size
  have hCM := hc.lt
  have hI : Inv w (w2.alloc (.map #[] 0)) C M w2.heap.size [] [] ((N : Int) + 1) := by
    have h1 := HB1.out.size
    have h2 := hCM C (by simp [foot])
    have h3 := hCM M (by simp [foot])
    refine ⟨⟨0, 0, hc.alloc _⟩, MapIs.made _ _, ?_, by omega, ?_, ?_⟩
    · intro b hb; simp [foot] at hb; rcases hb with rfl | rfl <;> omega
    · intro h; simp [foot] at h; omega
    · exact ((HB1.out.trans (hb2.mono h1))).alloc (by omega) _
  have HI := Lib.hid hI
  clear hc hC hM hb2 hCM hI hs2
  go_wp2
  generalize w2.heap.size = L at *
  go_loopg [32] (n) (fun g i wr => ∃ k : Nat, k + g = n ∧ i = .int .i64 (k : Int) ∧ Head w wr C M L N (keys.take k).reverse)
  case atStart => exact ⟨0, by omega, rfl, [], [], HI.out, by simp [dedup, kv], by simp [kv], by simp⟩
  case round =>
    obtain ⟨k, hkg, rfl, es, lm, hinv, hkeys, hvals, hints⟩ := hrel
    by_cases hg : gk = 0
    · have hk : ¬ ((k : Int) < (n : Int)) := by omega
      have HH := Lib.hid hinv.below
      clear hinv hkeys hvals hints hkg hg hcell
      go_wp2
      go_ret
      exact ⟨rfl, HH.out⟩
    have hk : k < n := by omega
    obtain ⟨kb, ko, rfl, hcells⟩ := hcell k hk
    have hkb : kb < w.heap.size := World.block_lt_of_cell? w ⟨kb, ko + k, none⟩ (hcells k hk)
    have hrd : ∀ u : World, Below w.heap.size w u → ∀ j, j < n → u.cell? ⟨kb, ko + j, none⟩ = some (.int .i64 (keys.getD j 0)) := fun u hu j hj => by
      rw [hu.cell (p := ⟨kb, ko + j, none⟩) hkb]; exact hcells j hj
    have c0 := hrd wr hinv.below k hk
    have HR := Lib.hid (And.intro hinv (And.intro hkeys (And.intro hvals (And.intro hints (And.intro hrd (And.intro hkg hn))))))
    clear hinv hkeys hvals hints hrd hkg hg hcells hcell hn
    generalize hx : keys.getD k 0 = x at *
    have HX := Lib.hid hx
    clear hx
    go_wp2_with fail
    refine (HR.out.1.get x).mono ?_
    rintro e w3 ⟨va, vb, ok, rfl, hv3, hok3, es3, hinv3, hkv3, hs3⟩
    have H3 := Lib.hid (And.intro hinv3 (And.intro hkv3 (And.intro hs3 (And.intro hv3 hok3))))
    clear hinv3 hkv3 hs3 hv3 hok3
    go_upto_region 11 with fail
    go_cut [61] (fun s61 wx => s61 = .bool false ∧ wx = w3.alloc (.cells #[.int .i64 va, .int .i64 vb] 28))
    case first =>
      obtain ⟨hinv, hkeys, hvals, hints, hrd, hkg, hn⟩ := HR.out
      obtain ⟨hinv3, hkv3, hs3, hv3, hok3⟩ := H3.out
      cases ok with
      | false =>
        have hl : klook (kv es) x = none := by simpa using hok3
        rw [hl] at hv3
        obtain ⟨rfl, rfl⟩ := Prod.mk.inj hv3.symm
        have hne := eq_same 0 0 (w3.alloc (.cells #[.int .i64 0, .int .i64 0] 28))
        clear hinv hkeys hvals hints hrd hkg hn hinv3 hkv3 hs3 hv3 hok3 hl
        go_wp2
        go_meet
        exact ⟨rfl, rfl⟩
      | true =>
        obtain ⟨u, hl⟩ := Option.isSome_iff_exists.1 hok3
        rw [hl] at hv3
        have hu : u = (va, vb) := hv3
        subst hu
        obtain ⟨e1, e2⟩ := hvals x (va, vb) (klook_some hl)
        have e1' : va = x := e1
        subst e1'
        have hlk := (hinv3.alloc (.cells #[.int .i64 va, .int .i64 vb] 28)).last.look_hit keyInt Try.underlying29 e2 false
        have hne := eq_same va vb (w3.alloc (.cells #[.int .i64 va, .int .i64 vb] 28))
        clear hinv hkeys hvals hints hrd hkg hn hinv3 hkv3 hs3 hv3 hok3 hl e1 e2
        go_wp2
        go_meet
        exact ⟨rfl, rfl⟩
    case rest =>
      obtain ⟨rfl, rfl⟩ := hcut
      go_wp2_with fail
      have hput := (H3.out.1.alloc (.cells #[.int .i64 va, .int .i64 vb] 28)).put x (x, (k : Int)) (by omega) (by
        obtain ⟨hinv, hkeys, hvals, hints, hrd, hkg, hn⟩ := HR.out
        obtain ⟨hinv3, hkv3, hs3, hv3, hok3⟩ := H3.out
        have h1 := congrArg List.length hkeys
        rw [List.length_map, List.length_take] at h1
        have h2 : (kv es3).length = es3.length := kv_length es3
        have h3 : (kv es3).length ≤ (kv es).length := by
          rw [hkv3, lget]
          cases hl : klook (kv es) x with
          | none => exact Nat.le_refl _
          | some u => have := length_kdrop_hit (l := kv es) (k := x) (by rw [hl]; rfl); simpa using this
        omega)
      refine hput.mono ?_
      rintro e w4 ⟨rfl, es4, hinv4, hkv4, hs4⟩
      clear hput
      obtain ⟨o4, hrun4, hinv5, hs5⟩ := hinv4.store x (.int .i64 (k : Int))
      have H4 := Lib.hid (And.intro hinv5 (And.intro hkv4 (And.intro hs4 hs5)))
      clear hinv4 hinv5 hkv4 hs4 hs5
      generalize setB w4 L o4 = w5 at *
      go_upto_block 2 with fail
      generalize hU : w5.heap.size = U at *
      have HU := Lib.hid hU
      clear hU
      -- the unlike ones
      go_cut [] (fun wx => ∃ lu : List (Int × Value), MapIs wx U (fun n => Value.int .i64 n) lu ∧ lu.map (·.1) = (dedup (keys.take (k + 1)).reverse).take (N + 1) ∧ (∀ p ∈ lu, ∃ c : Int, p.2 = .int .i64 c) ∧ Mod (fun b => b = U) (w5.alloc (.map #[] 0)) wx)
      case first =>
        go_wp2
        go_loopg [13] (k + 1) (fun g j wx => ∃ (t : Nat) (jj : Int) (lu : List (Int × Value)), t + g = k + 1 ∧ jj = (k : Int) - t ∧ j = .int .i64 jj ∧ MapIs wx U (fun n => Value.int .i64 n) lu ∧ lu.map (·.1) = (dedup ((keys.take (k + 1)).reverse.take t)).take (N + 1) ∧ (∀ p ∈ lu, ∃ c : Int, p.2 = .int .i64 c) ∧ Mod (fun b => b = U) (w5.alloc (.map #[] 0)) wx)
        case atStart => exact ⟨0, k, [], by omega, by omega, rfl, by rw [← HU.out]; exact MapIs.made _ _, by simp [dedup], by simp, Mod.refl _ _⟩
        case round =>
          obtain ⟨t, jj, lu, htg, hjj, rfl, hlu, hluk, hlui, hmod⟩ := hrel
          have hjn : jj < n := by omega
          by_cases hg2 : gk = 0
          · have hj0 : ¬ (0 ≤ jj) := by omega
            have ht : t = k + 1 := by omega
            have HE := Lib.hid (And.intro hlu (And.intro hluk (And.intro hlui (And.intro hmod ht))))
            clear hlu hluk hlui hmod ht hjj htg hg2
            go_wp2
            go_meet
            obtain ⟨hlu, hluk, hlui, hmod, ht⟩ := HE.out
            subst ht
            obtain ⟨hinv, hkeys, hvals, hints, hrd, hkg, hn⟩ := HR.out
            rw [List.take_of_length_le (l := (keys.take (k + 1)).reverse) (by simp; omega)] at hluk
            exact ⟨lu, hlu, hluk, hlui, hmod⟩
          · have hj0 : 0 ≤ jj := by omega
            have htk : t ≤ k := by omega
            have hln := fun ty : TypeId => hlu.len (ty := ty) Try.underlying29
            have hlen2 : lu.length = ((dedup ((keys.take (k + 1)).reverse.take t)).take (N + 1)).length := by rw [← hluk]; simp
            by_cases hfull : lu.length < N + 1
            · have hfull' : ((lu.length : Int) < (N : Int) + 1) := by omega
              obtain ⟨c, hlk, _⟩ := look_int hlu hlui (keys.getD jj.toNat 0)
              obtain ⟨o, hst, hlu'⟩ := hlu.store keyInt Try.underlying29 (keys.getD jj.toNat 0) (.int .i64 (wrap64 (c + 1)))
              have cj : wr.cell? ⟨kb, ko + jj.toNat, none⟩ = some (.int .i64 (keys.getD jj.toNat 0)) := by
                obtain ⟨hinv, hkeys, hvals, hints, hrd, hkg, hn⟩ := HR.out
                obtain ⟨hinv5, hkv4, hs4, hs5⟩ := H4.out
                have hb := hinv5.below
                have := hb.size
                exact hrd wr ((hb.alloc (by omega) _).trans (hmod.to_below (by simp; omega) (fun x hx => by rw [show x = U from hx, ← HU.out]; omega))) jj.toNat (by omega)
              generalize hy : keys.getD jj.toNat 0 = y at *
              have HY := Lib.hid hy
              have HE := Lib.hid (And.intro hlu' (And.intro hluk (And.intro hlui (And.intro hmod (And.intro htg (And.intro hjj hlen2))))))
              clear hlu hlu' hluk hlui hmod htg hjj hlen2 hfull hy
              go_wp2
              go_roundg (gk - 1)
              case measure => omega
              case rel =>
                obtain ⟨hlu', hluk, hlui, hmod, htg, hjj, hlen2⟩ := HE.out
                obtain ⟨hinv, hkeys, hvals, hints, hrd, hkg, hn⟩ := HR.out
                have hy : keys.getD (k - t) 0 = y := by rw [← HY.out]; congr 1; omega
                refine ⟨t + 1, jj - 1, mput lu y (.int .i64 (wrap64 (c + 1))), by omega, by omega, rfl, hlu', ?_, ?_, hmod.trans' (setB_mod wr U o)⟩
                · have hsn := dedup_take_snoc (n := N + 1) ((keys.take (k + 1)).reverse.take t) y (by omega)
                  rw [rev_at keys (by omega) htk, hy, hsn, ← hluk]
                  by_cases hm : y ∈ lu.map Prod.fst
                  · rw [if_pos hm, mput_fst_old _ _ _ hm]
                  · rw [if_neg hm, mput_fst_new _ _ _ hm]
                · intro p hp
                  obtain ⟨q, u⟩ := p
                  rcases mem_mput.1 hp with ⟨_, rfl⟩ | ⟨_, hp⟩
                  · exact ⟨_, rfl⟩
                  · exact hlui _ hp
            · have hfull' : ¬ ((lu.length : Int) < (N : Int) + 1) := by omega
              have HE := Lib.hid (And.intro hlu (And.intro hluk (And.intro hlui (And.intro hmod (And.intro htg (And.intro hlen2 hfull))))))
              clear hlu hluk hlui hmod htg hjj hlen2 hfull
              go_wp2
              go_meet
              obtain ⟨hlu, hluk, hlui, hmod, htg, hlen2, hfull⟩ := HE.out
              refine ⟨lu, hlu, ?_, hlui, hmod⟩
              rw [hluk]
              have h1 : ((dedup ((keys.take (k + 1)).reverse.take t)).take (N + 1)).length = N + 1 := by
                have := List.length_take_le (N + 1) (dedup ((keys.take (k + 1)).reverse.take t))
                omega
              have h2 := dedup_take_full ((keys.take (k + 1)).reverse.take t) ((keys.take (k + 1)).reverse.drop t) h1
              rw [List.take_append_drop] at h2
              exact h2.symm
      case rest =>
        obtain ⟨lu, hlu, hluk, hlui, hmod⟩ := hcut
        obtain ⟨hinv5, hkv4, hs4, hs5⟩ := H4.out
        have hUsz := HU.out
        have hbsz := hinv5.below.size
        have hinv6 : Inv w wc C M L es4 (mput lm x (.int .i64 (k : Int))) ((N : Int) + 1) := (hinv5.alloc (.map #[] 0)).mod hmod (fun b hb => by
          have e : b = U := hb
          subst e
          have h1 : b ∉ foot C M es4 := fun h => by have := hinv5.lt b h; omega
          have h2 : b ≠ L := fun h => by have := hinv5.last.lt; omega
          exact ⟨h1, h2, by omega⟩)
        -- the keys
        have hks : es4.map (·.1) = (dedup (keys.take (k + 1)).reverse).take (N + 1) := by
          obtain ⟨hinv, hkeys, hvals, hints, hrd, hkg, hn⟩ := HR.out
          obtain ⟨hinv3, hkv3, hs3, hv3, hok3⟩ := H3.out
          rw [← kv_fst, hkv4, hkv3, lput_lget, rev_cons keys (by omega), HX.out]
          exact lput_keys (n := N) hkeys x _
        have hlenm : lu.length = es4.length := by
          have := congrArg List.length (hluk.trans hks.symm)
          simpa using this
        have hlen1 : 1 ≤ es4.length := by
          have := congrArg List.length hkv4
          rw [kv_length, lput] at this
          simp at this; omega
        have hlen2 : es4.length ≤ 4096 := by
          have := congrArg List.length hks
          rw [List.length_map, List.length_take] at this
          omega
        have hnod : (es4.map (·.1)).Nodup := by
          obtain ⟨h, m, hc⟩ := hinv6.cache
          exact hc.keys
        have HS := Lib.hid (And.intro hinv6 (And.intro hks (And.intro hluk (And.intro hlui (And.intro hlu (And.intro hnod (And.intro hlenm hkv4)))))))
        clear hinv5 hkv4 hs4 hs5 hUsz hbsz hinv6 hks hluk hlui hlu hnod hlenm hmod
        go_wp2_with fail
        obtain ⟨hinv6, hks, hluk, hlui, hlu, hnod, hlenm, hkv4⟩ := HS.out
        have hinv7 := hinv6.alloc (.map #[] 0)
        have hlu7 := hlu.alloc (.map #[] 0)
        obtain ⟨h, m, hc⟩ := hinv7.cache
        refine (keys_any hc hlen2).mono ?_
        rintro e w8 ⟨v8, rfl, hown8, hb8⟩
        have hinv8 : Inv w w8 C M L es4 (mput lm x (.int .i64 (k : Int))) ((N : Int) + 1) := hinv7.mod (S := fun _ => False) (Mod.of_below hb8 _) (fun _ h => h.elim)
        have hlu8 : MapIs w8 U (fun n => Value.int .i64 n) lu := hlu7.mod (S := fun _ => False) (Mod.of_below hb8 _) id
        have hT8 : MapIs w8 wc.heap.size (fun n => Value.int .i64 n) [] := (MapIs.made wc _).mod (S := fun _ => False) (Mod.of_below hb8 _) id
        have hsz8 := hb8.size
        rw [World.size_alloc] at hsz8
        have hUlt := hlu.lt
        have hLlt := hinv6.last.lt
        have hflt := hinv6.lt
        have hbs := hinv6.below.size
        generalize hT : wc.heap.size = T at *
        obtain ⟨g8, cap8, cur8, rfl, hg8, hcur8, hcap8, hcapm8, hcs8, hxs8⟩ : ∃ g cap cur, v8 = .slice (some ⟨g, 0, none⟩) es4.length cap ∧ (wc.alloc (.map #[] 0)).heap.size ≤ g ∧ w8.heap[g]? = some (.cells cur 3 (0, 0)) ∧ es4.length ≤ cap ∧ cap ≤ maxLen ∧ cur.size = cap * 1 ∧ cur.toList.take (es4.length * 1) = es4.map (fun x => Value.int .i64 x.1) := by
          obtain ⟨_, h1 | ⟨g, cap, cur, h2⟩⟩ := hown8
          · omega
          · exact ⟨g, cap, cur, h2⟩
        have hg8' : T < g8 := by rw [World.size_alloc, hT] at hg8; omega
        have hcell8 : ∀ i, i < es4.length → w8.cell? ⟨g8, i, none⟩ = some (.int .i64 ((es4.map (·.1)).getD i 0)) := fun i hi => by
          refine cell_of hcur8 ?_
          have h1 := congrArg (fun l => l[i]?) hxs8
          simp only [List.getElem?_take, Nat.mul_one, hi, if_true] at h1
          rw [← Array.getElem?_toList, h1]
          simp [List.getD_eq_getElem?_getD, List.getElem?_eq_getElem hi]
        have HV := Lib.hid (And.intro hinv8 (And.intro hlu8 (And.intro hT8 (And.intro hsz8 (And.intro hUlt (And.intro hLlt (And.intro hflt (And.intro hg8' (And.intro hcell8 hbs)))))))))
        clear hinv6 hks hluk hlui hlu hnod hlenm hkv4 hinv7 hlu7 hc hown8 hb8 hinv8 hlu8 hT8 hsz8 hUlt hLlt hflt hg8 hcur8 hcapm8 hcs8 hxs8 hcell8 hbs HU hT
        go_upto_block 4 with fail
        -- how often each key is there
        go_cut [] (fun wx => MapIs wx T (fun n => Value.int .i64 n) ((es4.map (·.1)).map (fun q => (q, Value.int .i64 1))) ∧ Mod (fun b => b = T) w8 wx)
        case first =>
          go_wp2
          go_loopg [94] (es4.length) (fun g i wx => ∃ t : Nat, t + g = es4.length ∧ i = .int .i64 (t : Int) ∧ MapIs wx T (fun n => Value.int .i64 n) (((es4.map (·.1)).take t).map (fun q => (q, Value.int .i64 1))) ∧ Mod (fun b => b = T) w8 wx)
          case atStart => exact ⟨0, by omega, rfl, by simpa using HV.out.2.2.1, Mod.refl _ _⟩
          case round =>
            obtain ⟨t, htg, rfl, ht, hmod⟩ := hrel
            by_cases hg2 : gk = 0
            · have htm : t = es4.length := by omega
              subst htm
              have HE := Lib.hid (And.intro ht hmod)
              clear ht hmod htg hg2
              go_wp2
              go_meet
              obtain ⟨ht, hmod⟩ := HE.out
              rw [List.take_of_length_le (by simp)] at ht
              exact ⟨ht, hmod⟩
            · have htm : t < es4.length := by omega
              have hg8T := HV.out.2.2.2.2.2.2.2.1
              have ct : wr.cell? ⟨g8, t, none⟩ = some (.int .i64 ((es4.map (·.1)).getD t 0)) := by
                have h1 := HV.out.2.2.2.2.2.2.2.2.1 t htm
                rw [hmod.cell (p := ⟨g8, t, none⟩) (World.block_lt_of_cell? _ _ h1) (fun e => by have e' : g8 = T := e; omega)]; exact h1
              have hq : (es4.map (·.1))[t]? = some ((es4.map (·.1)).getD t 0) := by
                have : t < (es4.map (·.1)).length := by simpa using htm
                rw [List.getD_eq_getElem?_getD, List.getElem?_eq_getElem this]; rfl
              have hfresh : (es4.map (·.1)).getD t 0 ∉ (((es4.map (·.1)).take t).map (fun q => (q, Value.int .i64 1))).map Prod.fst := by
                have hnod := HS.out.2.2.2.2.2.1
                rw [List.map_map]
                have e : (Prod.fst ∘ fun q : Int => (q, Value.int .i64 1)) = id := rfl
                rw [e, List.map_id]
                have h1 := List.take_append_drop t (es4.map (·.1))
                rw [List.drop_eq_getElem_cons (by simpa using htm)] at h1
                rw [← h1, List.nodup_append] at hnod
                intro h2
                refine hnod.2.2 _ h2 _ (List.mem_cons_self) ?_
                have : t < (es4.map (·.1)).length := by simpa using htm
                rw [List.getElem?_eq_getElem this] at hq
                exact (Option.some.inj hq).symm
              generalize hy : (es4.map (·.1)).getD t 0 = y at *
              have hlk := ht.look_miss keyInt Try.underlying29 hfresh (zeroInt wr) false
              obtain ⟨o, hst, ht'⟩ := ht.store keyInt Try.underlying29 y (.int .i64 1)
              have HE := Lib.hid (And.intro ht' (And.intro hmod (And.intro htg (And.intro hq hfresh))))
              clear ht ht' hmod htg hq hfresh hy hg8T
              go_wp2
              go_roundg (gk - 1)
              case measure => omega
              case rel =>
                obtain ⟨ht', hmod, htg, hq, hfresh⟩ := HE.out
                refine ⟨t + 1, by omega, by go_num, ?_, hmod.trans' (setB_mod wr T o)⟩
                rw [List.take_add_one, hq, List.map_append]
                rw [mput, if_neg hfresh] at ht'
                exact ht'
        case rest =>
          obtain ⟨ht, hmod9⟩ := hcut
          obtain ⟨hinv8, hlu8, hT8, hsz8, hUlt, hLlt, hflt, hg8', hcell8, hbs⟩ := HV.out
          obtain ⟨hinv6, hks, hluk, hlui, hlu, hnod, hlenm, hkv4⟩ := HS.out
          have hTf : T ∉ foot C M es4 := fun h => by have := hflt T h; omega
          have hinv9 : Inv w wc C M L es4 (mput lm x (.int .i64 (k : Int))) ((N : Int) + 1) := hinv8.mod hmod9 (fun b hb => by
            have e : b = T := hb
            subst e
            exact ⟨hTf, by omega, by omega⟩)
          have hlu9 : MapIs wc U (fun n => Value.int .i64 n) lu := hlu8.mod hmod9 (fun e => by have e' : U = T := e; omega)
          have hlT := fun ty : TypeId => ht.len (ty := ty) Try.underlying29
          have hlU := fun ty : TypeId => hlu9.len (ty := ty) Try.underlying29
          rw [List.length_map, List.length_map] at hlT
          rw [hlenm] at hlU
          obtain ⟨o9, hrange, hit9⟩ := hlu9.range Try.underlying29
          obtain ⟨h9, m9, hc9⟩ := hinv9.cache
          have hsz9 := hmod9.size
          have HW := Lib.hid (And.intro hinv9 (And.intro hlu9 (And.intro ht (And.intro hit9 (And.intro hc9 (And.intro hTf hsz9))))))
          clear hinv8 hlu8 hT8 hsz8 hUlt hLlt hflt hg8' hcell8 hbs hinv6 hks hluk hlui hlu hnod hlenm hkv4 hinv9 hlu9 ht hit9 hc9 hTf hsz9 hmod9
          go_wp2_with fail
          refine (len_any HW.out.2.2.2.2.1).mono ?_
          rintro e w10 ⟨rfl, rfl⟩
          go_wp2
          go_loopg [] (lu.length) (fun g wx => ∃ done, done.length + g = lu.length ∧ IterIs wx wc.heap.size U (fun n => Value.int .i64 n) lu done ∧ Mod (fun b => b = wc.heap.size) (wc.alloc o9) wx)
          case atStart => exact ⟨[], by simp, HW.out.2.2.2.1, Mod.refl _ _⟩
          case round =>
            obtain ⟨dn, hdg, hit, hmod⟩ := hrel
            obtain ⟨hinv9, hlu9, ht, hit9, hc9, hTf, hsz9⟩ := HW.out
            have hTlt := ht.lt
            rcases hit.next (P := Try.prog) with ⟨hfin, hnx⟩ | ⟨q, v, w', hlt, hm, hnd, hnx, hit', hm', hen⟩
            · have HE := Lib.hid (And.intro hmod hfin)
              clear hit hmod hdg hinv9 hlu9 ht hit9 hc9 hTf hsz9 hTlt hfin
              go_wp2
              go_roundg (n - k - 1)
              case measure =>
                obtain ⟨hinv, hkeys, hvals, hints, hrd, hkg, hn⟩ := HR.out
                omega
              case rel =>
                obtain ⟨hmod, hfin⟩ := HE.out
                obtain ⟨hinv, hkeys, hvals, hints, hrd, hkg, hn⟩ := HR.out
                obtain ⟨hinv3, hkv3, hs3, hv3, hok3⟩ := H3.out
                obtain ⟨hinv6, hks, hluk, hlui, hlu, hnod, hlenm, hkv4⟩ := HS.out
                obtain ⟨hinv9, hlu9, ht, hit9, hc9, hTf, hsz9⟩ := HW.out
                have hb9 := hinv9.below.size
                refine ⟨k + 1, by omega, rfl, es4, mput lm x (.int .i64 (k : Int)), (hinv9.alloc o9).mod hmod (fun b hb => ?_), ?_, ?_, ?_⟩
                · have e : b = wc.heap.size := hb
                  subst e
                  exact ⟨fun h => by have := hinv9.lt _ h; omega, fun h => by have := hinv9.last.lt; omega, hb9⟩
                · rw [kv_fst]; exact hks
                · intro q v hq
                  rw [hkv4, hkv3, lput_lget] at hq
                  rcases mem_lput' hq with ⟨rfl, rfl⟩ | ⟨hne, hq⟩
                  · exact ⟨rfl, mem_mput.2 (.inl ⟨rfl, rfl⟩)⟩
                  · obtain ⟨h1, h2⟩ := hvals q v hq
                    exact ⟨h1, mem_mput.2 (.inr ⟨hne, h2⟩)⟩
                · intro p hp
                  obtain ⟨q, u⟩ := p
                  rcases mem_mput.1 hp with ⟨_, rfl⟩ | ⟨_, hp⟩
                  · exact ⟨_, rfl⟩
                  · exact hints _ hp
            · have hq1 : (q, Value.int .i64 1) ∈ (es4.map (·.1)).map (fun q => (q, Value.int .i64 1)) := by
                have h1 : q ∈ lu.map (·.1) := List.mem_map.2 ⟨_, hm, rfl⟩
                rw [HS.out.2.2.1, ← HS.out.2.1] at h1
                exact List.mem_map.2 ⟨q, h1, rfl⟩
              have ht' : MapIs w' T (fun n => Value.int .i64 n) ((es4.map (·.1)).map (fun q => (q, Value.int .i64 1))) :=
                ((ht.alloc o9).mod hmod (fun e => by have e' : T = wc.heap.size := e; omega)).mod hm' (fun e => by have e' : T = wc.heap.size := e; omega)
              have hlk := ht'.look_hit keyInt Try.underlying29 hq1 false
              have HE := Lib.hid (And.intro (hmod.trans' hm') (And.intro hit' (And.intro hdg hlt)))
              clear hit hit' hmod hm' hdg hinv9 hlu9 ht ht' hit9 hc9 hTf hsz9 hTlt hlt hm hnd hq1
              go_wp2
              go_roundg (gk - 1)
              case measure =>
                obtain ⟨_, _, hdg, hlt⟩ := HE.out
                omega
              case rel =>
                obtain ⟨hmod, hit', hdg, hlt⟩ := HE.out
                exact ⟨dn ++ [(q, v)], by simp; omega, hit', hmod⟩
end Go.Proofs.Ytepgaphhinacmaa.CacheTrue
