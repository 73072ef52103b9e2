/- porterlaw11.awake; storing a table into a variable. -/
import Derived.Test.YtjccngahpafcaaaDoorRingJ
namespace Go.Proofs.YtjccngahpafcaaaDoor.RingF
open Go.RowKit Go.Por Go.Sort

/-- A whole variable is written; the world gets a letter. -/
theorem wpList_store_all {P : Program} {ops : Array Oper} {rest : List Oper} {op : Oper} {a : Act} {w : World} {Q : Exit → Act → World → Prop} (hgd : op.guard = none) (ty : TypeId) (x y : Operand) (ho : op.op = .store ty x y)
    (b : Nat) (cells : Array Value) (hx : a.eval x = .pointer (some ⟨b, 0, none⟩)) (hy : a.eval y = .agg cells) (c0 : Array Value) (t : TypeId) (hb : w.heap[b]? = some (.cells c0 t (0, 0))) (hc : cells.size = c0.size)
    (hi : (P.info? ty).map (·.size) = some cells.size) (h1 : cells.all (·.oneCell') = true)
    (h : ∀ w', w'.heap[b]? = some (.cells cells t (0, 0)) → Mod (fun x => x = b) w w' → w'.heap.size = w.heap.size → wpList P ops Q rest (a.put op.dst undef) w') : wpList P ops Q (op :: rest) a w := by
  refine wpList_store_mid hgd ty x y ho b 0 cells hx hy (there_block hb (by omega)) hi h1 ?_
  refine h _ ?_ (Mod.setCells (S := fun x => x = b) (.inl rfl) _ 0 (Mod.refl _ w)) ?_
  · have := setCells_whole hb (vs := cells.toList) (by simpa using hc)
    rwa [Array.toArray_toList] at this
  · have : ∀ (vs : List Value) (o : Nat) (w : World), (w.setCells b o vs).heap.size = w.heap.size := by
      intro vs
      induction vs with
      | nil => intro o w; rfl
      | cons v r ih => intro o w; rw [World.setCells, ih]; simp
    exact this _ _ _

theorem owner_range (n m s : Nat) (hn : 1 ≤ n) (hm : 1 ≤ m) : 0 ≤ ownerOf n m s ∧ ownerOf n m s < n := by
  have hl : 0 < (sorted n m).length := by rw [sorted_length]; exact Nat.mul_pos hn hm
  obtain ⟨x, hx⟩ : ∃ x, (sorted n m)[from' (sorted n m) (slotAt s) % (sorted n m).length]? = some x := ⟨_, List.getElem?_eq_getElem (Nat.mod_lt _ hl)⟩
  rw [owner_at n m s rfl hx]
  obtain ⟨i, j, hi, hj, rfl⟩ := mem_allPts.1 ((sorted_perm n m).mem_iff.1 (List.mem_of_getElem? hx))
  simp only
  omega
theorem owners_at (n m : Nat) {s : Nat} (hs : s < 16) : (owners n m)[s]? = some (ownerOf n m s) := by
  unfold owners
  rw [List.getElem?_map, List.getElem?_range hs]
  rfl
theorem diffs_set {os : List Int} {k : Nat} {x y : Int} (hx : os[k]? = some x) (hxy : x ≠ y) : ∀ n, diffs os (os.set k y) n = if k < n then [(k : Int)] else []
  | 0 => by simp [diffs]
  | n + 1 => by
    have hk : k < os.length := (List.getElem?_eq_some_iff.1 hx).1
    have ih := diffs_set hx hxy n
    by_cases h : k = n
    · subst h
      rw [diffs_yes, ih, if_neg (Nat.lt_irrefl _), if_pos (Nat.lt_succ_self _)]
      · rfl
      · rw [hx, List.getElem?_set_self hk]
        exact fun e => hxy (Option.some.inj e)
    · rw [diffs_no, ih]
      · by_cases h2 : k < n
        · rw [if_pos h2, if_pos (by omega)]
        · rw [if_neg h2, if_neg (by omega)]
      · rw [List.getElem?_set_ne h]

theorem own_ints {w : World} {base : Nat} {v : Value} {l : List Int} (h : w.ownsRow base 3 1 v l.length (l.map (Value.int .i64))) :
    ∃ a cap, v = .slice a l.length cap ∧ ∀ i x, l[i]? = some x → ∃ g, a = some ⟨g, 0, none⟩ ∧ g < w.heap.size ∧ w.cell? ⟨g, i, none⟩ = some (.int .i64 x) := by
  obtain ⟨h1, ⟨rfl, h2⟩ | ⟨g, cap, cur, rfl, hg, hb, _, _, _, hx⟩⟩ := h
  · refine ⟨none, 0, by rw [h2], fun i x hx => ?_⟩
    have := (List.getElem?_eq_some_iff.1 hx).1
    omega
  · refine ⟨_, cap, rfl, fun i x hx' => ⟨g, rfl, lt_block hb, cell_of hb ?_⟩⟩
    have hi := (List.getElem?_eq_some_iff.1 hx').1
    have := congrArg (fun q => q[i]?) hx
    simp only [List.getElem?_take, Nat.mul_one, hi, if_true, List.getElem?_map, hx', Option.map_some, Array.getElem?_toList] at this
    exact this

theorem place_empty : (place ⟨#[]⟩ : Nat) ≠ place ⟨#[97]⟩ := by decide +kernel

set_option maxRecDepth 100000 in
set_option maxHeartbeats 400000 in
theorem awake_any (w : World) : Calls Tryd.prog 8 #[] w fun e w' => e = .returned (.bool true) ∧ Below w.heap.size w w' := by
  obtain ⟨o5, ho5⟩ : ∃ o5, ownerOf 3 8 5 = o5 := ⟨_, rfl⟩
  have hr5 := owner_range 3 8 5 (by omega) (by omega)
  rw [ho5] at hr5
  have ha5 := owners_at 3 8 (s := 5) (by omega)
  rw [ho5] at ha5
  have hl := owners_length 3 8
  obtain ⟨os, hos⟩ : ∃ os, owners 3 8 = os := ⟨_, rfl⟩
  have HN := Lib.hid (new_good 3 8 w (by omega) (by omega) (by omega) (by omega))
  rw [hos] at HN ha5 hl
  have HO := Lib.hid (And.intro ha5 hl)
  clear ho5 ha5 hl hos
  go_enter Tryd.func8, Tryd.ntmps8
  go_wp2_with fail
  refine HN.out.mono ?_
  rintro e w1 ⟨rfl, hb1⟩
  have HB1 := Lib.hid hb1
  clear hb1
  obtain ⟨T1, hT1⟩ : ∃ T, w1.heap.size = T := ⟨_, rfl⟩
  have HT1 := Lib.hid hT1
  have HN1 := Lib.hid (show ∀ o, (w1.alloc o).heap[T1]? = some o from fun o => by rw [← hT1]; exact block_new w1 o)
  have q0 : 0 ≤ o5 := hr5.1
  have q1 : o5 ≤ 2 := by have := hr5.2; omega
  clear hr5
  go_wp2_with (first
    | (refine wpList_store_all rfl 24 (.tmp 1) (.tmp 8) rfl T1 (tcells 0 os) rfl rfl _ _ (HN1.out _) (by rw [tcells_size HO.out.2]; rfl) (infoT' _ HO.out.2) (tcells_one _ _) ?_; intro w2 hw2 hm2 hz2; rw [World.size_alloc, hT1] at hz2; have H2 := Lib.hid (And.intro hw2 (And.intro (((Mod.refl (fun x => x = T1) w1).alloc _).trans' hm2) hz2)); have c0 := cell_of hw2 (tcells_zero 0 os); have c5 : w2.cell? ⟨T1, 6, none⟩ = some (.int .i64 o5) := cell_of hw2 (tcells_at 0 HO.out.1); clear hw2 hm2 hz2)
    | (refine wpList_load_row rfl 24 (.tmp 1) rfl T1 rfl _ (tcells 0 os) _ _ H2.out.1 Tryd.underlying24 rfl (infoT' _ HO.out.2) ?_))
  obtain ⟨nd, hnd⟩ : ∃ nd, (o5 + 1) % 3 = nd := ⟨_, rfl⟩
  have hmv := move_good 0 os HO.out.2 5 nd o5 w2 (by unfold mvBad; omega) HO.out.1 (by omega)
  rw [show ((5 : Nat) : Int) = 5 from rfl, show (0 : Int) + 1 = 1 from rfl] at hmv
  have hne : o5 ≠ nd := by omega
  rw [hnd]
  have HV := Lib.hid (And.intro hnd hne)
  clear hnd hne
  ((with_reducible refine hmv.mono ?_); rintro e w3 ⟨rfl, hb3⟩)
  clear hmv
  have hl2 : (os.set 5 nd).length = 16 := by rw [List.length_set]; exact HO.out.2
  have h13 := (Mod.of_below hb3 (fun _ => False)).old H2.out.1 id
  have hz3 := hb3.size
  obtain ⟨T3, hT3⟩ : ∃ T, w3.heap.size = T := ⟨_, rfl⟩
  have HN3 := Lib.hid (show ∀ o, (w3.alloc o).heap[T3]? = some o from fun o => by rw [← hT3]; exact block_new w3 o)
  have H3 := Lib.hid (And.intro hb3 (And.intro hl2 (And.intro h13 (And.intro hz3 hT3))))
  have c1 : w3.cell? ⟨T1, 0, none⟩ = some (.int .i64 0) := cell_of h13 (tcells_zero 0 os)
  clear hb3 hl2 h13 hz3 c0 c5 hT1
  go_wp2_with (first
    | (refine wpList_store_all rfl 24 (.tmp 3) (.tmp 25) rfl T3 (tcells 1 (os.set 5 nd)) rfl rfl _ _ (HN3.out _) (by rw [tcells_size H3.out.2.1]; rfl) (infoT' _ H3.out.2.1) (tcells_one _ _) ?_; intro w4 hw4 hm4 hz4; rw [World.size_alloc, hT3] at hz4; have hm34 := ((Mod.refl (fun x => x = T3) w3).alloc _).trans' hm4; have h14 := hm34.old H3.out.2.2.1 (fun e => by have h1 := lt_block H3.out.2.2.1; have h2 := H3.out.2.2.2.2; omega); have c4 := cell_of hw4 (tcells_zero 1 (os.set 5 nd)); have H4 := Lib.hid (And.intro hw4 (And.intro hm34 (And.intro hz4 h14))); clear hw4 hm4 hz4 hm34 h14)
    | (refine wpList_load_row rfl 24 (.tmp 1) rfl T1 rfl _ (tcells 0 os) _ _ H4.out.2.2.2 Tryd.underlying24 rfl (infoT' _ HO.out.2) ?_)
    | (refine wpList_load_row rfl 24 (.tmp 3) rfl T3 rfl _ (tcells 1 (os.set 5 nd)) _ _ H4.out.1 Tryd.underlying24 rfl (infoT' _ H3.out.2.1) ?_))
  ((with_reducible refine (diff_any 0 os 1 (os.set 5 nd) HO.out.2 H3.out.2.1 w4).mono ?_); rintro e w5 ⟨v5, rfl, hown5, hb5⟩)
  rw [diffs_set HO.out.1 HV.out.2, if_pos (by omega)] at hown5
  obtain ⟨a5, cap5, rfl, hread5⟩ := own_ints hown5
  obtain ⟨g5, rfl, hg5, hc5⟩ := hread5 0 5 rfl
  have h35 := (Mod.of_below hb5 (fun _ => False)).old H4.out.1 id
  have c5 : w5.cell? ⟨T3, 0, none⟩ = some (.int .i64 1) := cell_of h35 (tcells_zero 1 (os.set 5 nd))
  have hbw : Below w.heap.size w w5 := by
    have z1 := HB1.out.size
    have g1 := HB1.out.trans (H2.out.2.1.to_below z1 (fun x hx => by have h1 := HT1.out; have h2 := HB1.out.size; omega))
    have g2 := g1.trans (H3.out.1.mono g1.size)
    have g3 := g2.trans (H4.out.2.1.to_below g2.size (fun x hx => by have h1 := H3.out.2.2.2.2; have h2 := g2.size; omega))
    exact g3.trans (hb5.mono g3.size)
  have H5 := Lib.hid hbw
  clear hown5 hb5 hread5 h35 hbw c4 hT3
  go_wp2_with fail
  refine (hash_any ⟨#[]⟩ (by decide) w5).mono ?_
  rintro e w6 ⟨rfl, hm6, hz6⟩
  have H6 := Lib.hid hm6
  clear hm6 hz6 hc5 c5
  go_wp2_with fail
  refine (hash_any ⟨#[97]⟩ (by decide) w6).mono ?_
  rintro e w7 ⟨rfl, hm7, hz7⟩
  have hpe : (((place ⟨#[]⟩ : Nat) : Int) != ((place ⟨#[97]⟩ : Nat) : Int)) = true := by
    rw [bne_iff_ne]
    exact fun h => place_empty (Int.ofNat.inj h)
  have HB := Lib.hid (H5.out.trans ((H6.out.trans' hm7).to_below H5.out.size (fun _ h => h.elim)))
  clear hm7 hz7
  generalize ((place ⟨#[]⟩ : Nat) : Int) = pa at *
  generalize ((place ⟨#[97]⟩ : Nat) : Int) = pb at *
  go_wp2
  go_ret
  exact ⟨rfl, HB.out⟩
end Go.Proofs.YtjccngahpafcaaaDoor.RingF
