/- porterref11.New: the document's first table is the program's; both side by side: New, Move; '==' of the document's tables; a guarded '==' in a region that draws. -/
import Derived.Test.YtjccngahpafcaaaDoorRingG
import Derived.Test.YtjccngahpafcaaaDoorRingEq
import Derived.Test.YtjccngahpafcaaaDoorDraw
import Derived.Test.YtjccngahpafcaaaDoorPRingTablesx5
import Derived.Deep.DeepCutAuto
import Derived.Deep.CutBlock
import Derived.Deep.LoopGhost
namespace Go.Por
theorem yields_eql {P : Program} {l : List Oper} {S : World → Prop} {a : Act} {op : Oper} (hw : Region.wanted op (yielded l.toArray a.tmps) = true) (t : TypeId) (x y : Operand) (ty : TypeId) (ho : op.op = .binOp .eql t x y ty) (xs ys : Array Value)
    (hx : a.eval x = .agg xs) (hy : a.eval y = .agg ys) (hg : P.eqGuardType P.depth t = false) (r : Bool) (he : ∀ w, (Op.equal t (.agg xs) (.agg ys)).run P w = .ok r w) : YieldsIf P l.toArray S op (.bool r) a :=
  .inl ⟨hw, fun w _ => by
    unfold execOp
    simp [ho, hx, hy, Sem.run_bind, run_eqGuard_agg w .eql t x y xs ys hg, binOp, he, Result.andThen]⟩
end Go.Por
namespace Go.Proofs.YtjccngahpafcaaaDoor.RingF
open Go.RowKit Go.Por Go.Sort Go.Proofs.YtjccngahpafcaaaDoor.PRingTables Go.Proofs.YtjccngahpafcaaaDoorW.PrintWords

/-! ### The nearest point, as it is found one by one -/
def Scan (l : List Pt) (a best own : Int) : Prop := (l = [] ∧ best = 1099511627776 ∧ own = 0) ∨ ∃ x, Best l a x ∧ best = far a x.1 ∧ own = x.2
theorem far_range (a p : Int) : 0 ≤ far a p ∧ far a p < 4294967296 := by unfold far; omega
theorem Scan.best {l : List Pt} {a best own : Int} (h : Scan l a best own) : 0 ≤ best ∧ best ≤ 1099511627776 := by
  rcases h with ⟨_, rfl, _⟩ | ⟨x, _, rfl, _⟩
  · omega
  · have := far_range a x.1; omega
theorem Scan.less {l : List Pt} {a best own : Int} (h : Scan l a best own) {y : Pt} (hy : far a y.1 < best) : Scan (l ++ [y]) a (far a y.1) y.2 := by
  refine .inr ⟨y, ⟨by simp, fun z hz => ?_⟩, rfl, rfl⟩
  rcases List.mem_append.1 hz with hz | hz
  · rcases h with ⟨rfl, _, _⟩ | ⟨x, hx, rfl, _⟩
    · simp at hz
    · have := hx.2 z hz
      omega
  · simp at hz
    subst hz
    omega
theorem Scan.more {l : List Pt} {a best own : Int} (h : Scan l a best own) {y : Pt} (hy : ¬ far a y.1 < best) (hl : ∀ z ∈ l, z.2 ≤ y.2) : Scan (l ++ [y]) a best own := by
  rcases h with ⟨rfl, rfl, _⟩ | ⟨x, hx, rfl, rfl⟩
  · have := far_range a y.1
    omega
  · refine .inr ⟨x, ⟨by simp [hx.1], fun z hz => ?_⟩, rfl, rfl⟩
    rcases List.mem_append.1 hz with hz | hz
    · exact hx.2 z hz
    · simp at hz
      subst hz
      have := hl x hx.1
      omega
theorem Scan.owner {n m s : Nat} (hn : 1 ≤ n) (hm : 1 ≤ m) {best own : Int} (h : Scan (allPts n m) (slotAt s) best own) : own = ownerOf n m s := by
  rcases h with ⟨h, _⟩ | ⟨x, hx, _, rfl⟩
  · have h1 := allPts_length n m
    have h2 := Nat.mul_pos hn hm
    rw [h] at h1
    simp at h1
    omega
  · exact (owner_is hn hm hx).symm
theorem below_node {n m p : Nat} {z : Pt} (h : z ∈ allPts n m ++ nodePts n p) : z.2 ≤ (n : Int) := by
  rcases List.mem_append.1 h with h | h
  · obtain ⟨i, j, hi, _, rfl⟩ := mem_allPts.1 h
    simp only
    omega
  · unfold nodePts at h
    obtain ⟨j, _, rfl⟩ := List.mem_map.1 h
    exact Int.le_refl _

/-! ### The document's digits -/
def dd (n : Nat) : ByteArray := if n < 10 then ⟨#[UInt8.ofNat (48 + n)]⟩ else ⟨#[UInt8.ofNat (48 + n / 10), UInt8.ofNat (48 + n % 10)]⟩
theorem dec_dd {n : Nat} (h : n < 100) : dec n = dd n := by
  unfold dec dd Lib.decDigits
  split
  · rfl
  · unfold Lib.decDigits
    rw [dif_pos (by omega)]
    rfl
theorem decimal_dd : ∀ n : Fin 64, porterref11_decimal.f 3 (n.1 : Int) = some (dd n.1) := by decide +kernel
theorem decimal_any (n : Nat) (h : n < 64) (w : World) : Calls Tryd.prog 31 #[.int .i64 (n : Int)] w fun e w' => e = .returned (.string (dec n)) ∧ Mod (fun _ => False) w w' ∧ w'.heap.size = w.heap.size := by
  rw [dec_dd (by omega)]
  exact (porterref11_decimal.calls 3 _ _ w (decimal_dd ⟨n, h⟩)).mono fun _ _ ⟨a, b⟩ => ⟨a, by obtain ⟨⟨n, rfl⟩⟩ := b; exact ⟨(Mod.refl _ w).drewN n, rfl⟩⟩

set_option maxRecDepth 100000 in
set_option maxHeartbeats 1600000 in
theorem rnew_bad (n p : Int) (w : World) (h : n < 1 ∨ 8 < n ∨ p < 1 ∨ 64 < p) :
    Calls Tryd.prog 15 #[.int .i64 n, .int .i64 p] w fun x w' => x = .returned (.tuple #[tval 0 (List.replicate 16 0), .int .i64 1]) ∧ Below w.heap.size w w' := by
  have HH := Lib.hid h
  clear h
  unfold tval
  go_enter Tryd.func15, Tryd.ntmps15
  go_upto_region 1 with fail
  obtain ⟨B, hB⟩ : ∃ B, w.heap.size = B := ⟨_, rfl⟩
  generalize hW2 : w.alloc (.cells #[.int .i64 0, .int .i64 0, .int .i64 0, .int .i64 0, .int .i64 0, .int .i64 0, .int .i64 0, .int .i64 0, .int .i64 0, .int .i64 0, .int .i64 0, .int .i64 0, .int .i64 0, .int .i64 0, .int .i64 0, .int .i64 0, .int .i64 0] 41) = W2 at *
  rw [hB]
  have hr1 : W2.heap[B]? = some (.cells (tcells 0 (List.replicate 16 0)) 41 (0, 0)) := by
    rw [← hW2, ← hB, zeros16]
    exact block_new w _
  have hb2 : Below w.heap.size w W2 := by rw [← hW2]; exact (Below.refl _ w).alloc (Nat.le_refl _) _
  have HW := Lib.hid (And.intro hr1 (And.intro hb2 hB))
  clear hr1 hb2 hW2 hB
  go_wp2_with (first
    | (refine wpList_store_mid rfl 41 (.tmp 4) (.tmp 27) rfl B 0 (tcells 0 (List.replicate 16 0)) rfl rfl (there_block HW.out.1 (Nat.le_refl _)) (infoR' 0 (by simp)) (tcells_one _ _) ?_))
  all_goals first
    | (exfalso; have h := HH.out; omega)
    | (refine bodyPost_ret (results_cell2 Tryd.results15 _ _ B _ (tcells 0 (List.replicate 16 0)) _ _ (.int .i64 1) (by rfl) (by rfl) (setb HW.out.1 0 (by simp)) Tryd.underlying41 rfl (infoR' 0 (by simp))) rfl ⟨rfl, ?_⟩
       exact HW.out.2.1.trans ((Mod.setCells (S := fun x => x = B) (.inl rfl) _ 0 (Mod.refl _ W2)).to_below HW.out.2.1.size (fun x hx => by rw [show x = B from hx, HW.out.2.2]; exact Nat.le_refl _)))
end Go.Proofs.YtjccngahpafcaaaDoor.RingF
namespace Go.Proofs.YtjccngahpafcaaaDoor.RingF
open Go.RowKit Go.Por Go.Sort Go.Proofs.YtjccngahpafcaaaDoor.PRingTables Go.Proofs.YtjccngahpafcaaaDoorW.PrintWords

theorem upto_zero {n m s : Nat} (h : s < 16) : (upto n m s)[s]? = some 0 := by
  unfold upto
  rw [List.getElem?_append_right (by simp), List.length_map, List.length_range, Nat.sub_self, List.getElem?_replicate, if_pos (by omega)]
theorem upto_set0 {n m s : Nat} (h : s < 16) : (upto n m s).set s 0 = upto n m s := by
  have h1 := upto_zero (n := n) (m := m) h
  obtain ⟨h2, h3⟩ := List.getElem?_eq_some_iff.1 h1
  have : (upto n m s).set s ((upto n m s)[s]) = upto n m s := List.set_getElem_self h2
  rwa [h3] at this

set_option maxRecDepth 100000 in
set_option maxHeartbeats 4000000 in
theorem rnew_good (n p : Nat) (w : World) (hn1 : 1 ≤ n) (hn2 : n ≤ 8) (hp1 : 1 ≤ p) (hp2 : p ≤ 64) :
    Calls Tryd.prog 15 #[.int .i64 (n : Int), .int .i64 (p : Int)] w fun x w' => x = .returned (.tuple #[tval 0 (owners n p), .int .i64 0]) ∧ Below w.heap.size w w' := by
  have q1 : ¬ (n : Int) < 1 := by omega
  have q2 : ¬ (8 : Int) < (n : Int) := by omega
  have q3 : ¬ (p : Int) < 1 := by omega
  have q4 : ¬ (64 : Int) < (p : Int) := by omega
  unfold tval
  go_enter Tryd.func15, Tryd.ntmps15
  go_upto_region 4 with fail
  obtain ⟨B, hB⟩ : ∃ B, w.heap.size = B := ⟨_, rfl⟩
  generalize hW2 : World.alloc (World.alloc w _) _ = W2 at *
  have hr1 : W2.heap[B]? = some (.cells (tcells 0 (List.replicate 16 0)) 41 (0, 0)) := by
    rw [← hW2, ← hB]
    exact block_alloc (block_new w _) _
  have hr2 : W2.heap[B + 1]? = some (.cells (tcells 0 (upto n p 0)) 41 (0, 0)) := by
    rw [← hW2, ← hB, show upto n p 0 = List.replicate 16 0 from rfl, zeros16]
    have := block_new (w.alloc (.cells #[.int .i64 0, .int .i64 0, .int .i64 0, .int .i64 0, .int .i64 0, .int .i64 0, .int .i64 0, .int .i64 0, .int .i64 0, .int .i64 0, .int .i64 0, .int .i64 0, .int .i64 0, .int .i64 0, .int .i64 0, .int .i64 0, .int .i64 0] 41)) (.cells #[.int .i64 0, .int .i64 0, .int .i64 0, .int .i64 0, .int .i64 0, .int .i64 0, .int .i64 0, .int .i64 0, .int .i64 0, .int .i64 0, .int .i64 0, .int .i64 0, .int .i64 0, .int .i64 0, .int .i64 0, .int .i64 0, .int .i64 0] 41)
    rw [World.size_alloc] at this
    exact this
  have hb2 : Below w.heap.size w W2 := by rw [← hW2]; exact ((Below.refl _ w).alloc (Nat.le_refl _) _).alloc (by simp) _
  have HW := Lib.hid (And.intro hr1 (And.intro hr2 (And.intro hb2 hB)))
  rw [hB]
  clear hr1 hr2 hb2 hW2 hB
  go_wp2
  go_loopg [7] 16 (fun g i wx => ∃ s : Nat, s + g = 16 ∧ i = .int .i64 (s : Int) ∧ wx.heap[B + 1]? = some (.cells (tcells 0 (upto n p s)) 41 (0, 0)) ∧ Mod (fun x => x = B + 1) W2 wx)
  case atStart => exact ⟨0, by omega, rfl, HW.out.2.1, Mod.refl _ _⟩
  case round =>
    obtain ⟨s, hsg, rfl, hT, hmod⟩ := hrel
    by_cases hg : gk = 0
    · have hk : ¬ ((s : Int) < 16) := by omega
      obtain rfl : s = 16 := by omega
      rw [upto_all] at hT
      have hB5 := hmod.old HW.out.1 (by omega)
      have hb5 := HW.out.2.2.1.trans (hmod.to_below HW.out.2.2.1.size (fun x hx => by have h1 := HW.out.2.2.2; have h2 : x = B + 1 := hx; omega))
      have H5 := Lib.hid (And.intro hT (And.intro hB5 hb5))
      clear hT hB5 hb5 hmod hsg hg
      go_wp2_with (first
        | (refine wpList_load_row rfl 41 (.tmp 6) rfl (B + 1) rfl _ (tcells 0 (owners n p)) _ _ H5.out.1 Tryd.underlying41 rfl (infoR' _ (owners_length n p)) ?_)
        | (refine wpList_store_mid rfl 41 (.tmp 4) (.tmp 67) rfl B 0 (tcells 0 (owners n p)) rfl rfl (there_block H5.out.2.1 (by rw [tcells_size (owners_length n p), tcells_size (by simp)]; exact Nat.le_refl _)) (infoR' _ (owners_length n p)) (tcells_one _ _) ?_))
      refine bodyPost_ret (results_cell2 Tryd.results15 _ _ B _ (tcells 0 (owners n p)) _ _ (.int .i64 0) (by rfl) (by rfl) (setb H5.out.2.1 _ (owners_length n p)) Tryd.underlying41 rfl (infoR' _ (owners_length n p))) rfl ⟨rfl, ?_⟩
      exact H5.out.2.2.trans ((Mod.setCells (S := fun x => x = B) (.inl rfl) _ 0 (Mod.refl _ wr)).to_below H5.out.2.2.size (fun x hx => by rw [show x = B from hx, HW.out.2.2.2]; exact Nat.le_refl _))
    have hs : (s : Int) < 16 := by omega
    have hs0 : (0 : Int) ≤ (s : Int) := by omega
    have s1 : (dec s).size ≤ 2 := dec_size (by omega)
    have HI := Lib.hid (And.intro hT (And.intro hmod hsg))
    clear hT hmod hsg
    go_wp2_with fail
    refine (decimal_any s (by omega) _).mono ?_
    rintro e w5 ⟨rfl, hm5, _⟩
    have H5 := Lib.hid hm5
    clear hm5
    go_wp2_with fail
    refine (refhash_any (slotT s) (by have := slotT_size (s := s) (by omega); omega) _).mono ?_
    rintro e w6 ⟨rfl, hm6, _⟩
    have hm := H5.out.trans' hm6
    obtain ⟨A, hA⟩ : ∃ A, ((place (slotT s) : Nat) : Int) = A := ⟨_, rfl⟩
    have hA0 : 0 ≤ A := by omega
    have hA1 : A < 4294967296 := by have := place_lt (slotT s); omega
    rw [hA]
    have H6 := Lib.hid (And.intro (hm.old HI.out.1 id) (And.intro (HI.out.2.1.trans hm (fun _ h => h.elim)) (And.intro (show slotAt s = A from hA) HI.out.2.2)))
    clear hm6 hm H5 hA HI
    go_wp2
    go_loopg [9, 10] n (fun g bv i wx => ∃ (a : Nat) (best own : Int), a + g = n ∧ i = .int .i64 (a : Int) ∧ bv = .int .u64 best ∧ Scan (allPts a p) A best own ∧ wx.heap[B + 1]? = some (.cells (tcells 0 ((upto n p s).set s own)) 41 (0, 0)) ∧ Mod (fun x => x = B + 1) W2 wx)
    case atStart => exact ⟨0, 1099511627776, 0, by omega, rfl, rfl, .inl ⟨rfl, rfl, rfl⟩, by rw [upto_set0 (by omega)]; exact H6.out.1, H6.out.2.1⟩
    case round =>
      obtain ⟨a, best, own, hag, rfl, rfl, hscan, hT, hmod⟩ := hrel
      by_cases hg2 : gk = 0
      · have hk : ¬ ((a : Int) < (n : Int)) := by omega
        obtain rfl : a = n := by omega
        have hown : own = ownerOf a p s := Scan.owner hn1 hp1 (by rw [H6.out.2.2.1]; exact hscan)
        rw [hown, upto_set (by omega)] at hT
        have HE := Lib.hid (And.intro hT hmod)
        clear hT hmod hag hg2 hscan hown
        go_wp2
        go_roundg (16 - s - 1)
        case measure => have := H6.out.2.2.2; omega
        case rel => exact ⟨s + 1, by have := H6.out.2.2.2; omega, by go_num, HE.out⟩
      have ha : (a : Int) < (n : Int) := by omega
      have HO := Lib.hid (And.intro hscan (And.intro hT (And.intro hmod hag)))
      clear hscan hT hmod hag
      go_wp2
      go_loopg [9, 11] p (fun g bv i wx => ∃ (b : Nat) (best own : Int), b + g = p ∧ i = .int .i64 (b : Int) ∧ bv = .int .u64 best ∧ Scan (allPts a p ++ nodePts a b) A best own ∧ wx.heap[B + 1]? = some (.cells (tcells 0 ((upto n p s).set s own)) 41 (0, 0)) ∧ Mod (fun x => x = B + 1) W2 wx)
      case atStart => exact ⟨0, best, own, by omega, rfl, rfl, by rw [show nodePts a 0 = [] from rfl, List.append_nil]; exact HO.out.1, HO.out.2.1, HO.out.2.2.1⟩
      case round =>
        obtain ⟨b, best2, own2, hbg, rfl, rfl, hscan, hT, hmod⟩ := hrel
        by_cases hg3 : gk = 0
        · have hk : ¬ ((b : Int) < (p : Int)) := by omega
          obtain rfl : b = p := by omega
          rw [← allPts_succ] at hscan
          have HE := Lib.hid (And.intro hscan (And.intro hT hmod))
          clear hscan hT hmod hbg hg3
          go_wp2
          go_roundg (n - a - 1)
          case measure => have := HO.out.2.2.2; omega
          case rel => exact ⟨a + 1, _, _, by have := HO.out.2.2.2; omega, by go_num, rfl, HE.out⟩
        have hb : (b : Int) < (p : Int) := by omega
        have s2 : (dec a).size ≤ 2 := dec_size (by omega)
        have s3 : (dec b).size ≤ 2 := dec_size (by omega)
        have s4 : ((⟨#[110, 111, 100, 101, 32]⟩ : ByteArray) ++ dec a).size ≤ 9 := by rw [append_size]; show 5 + _ ≤ 9; omega
        have s5 : ((⟨#[110, 111, 100, 101, 32]⟩ : ByteArray) ++ dec a ++ (⟨#[32, 112, 111, 105, 110, 116, 32]⟩ : ByteArray)).size ≤ 20 := by rw [append_size]; show _ + 7 ≤ 20; omega
        have hbest := Scan.best hscan
        have HI := Lib.hid (And.intro hscan (And.intro hT (And.intro hmod hbg)))
        clear hscan hT hmod hbg
        go_wp2_with fail
        refine (decimal_any a (by omega) _).mono ?_
        rintro e w7 ⟨rfl, hm7, _⟩
        have H7 := Lib.hid hm7
        clear hm7
        go_wp2_with fail
        refine (decimal_any b (by omega) _).mono ?_
        rintro e w8 ⟨rfl, hm8, _⟩
        have H8 := Lib.hid (H7.out.trans' hm8)
        clear hm8 H7
        go_wp2_with fail
        refine (refhash_any (nodeT a b) (by have := nodeT_size (n := a) (p := b) (by omega) (by omega); omega) _).mono ?_
        rintro e w9 ⟨rfl, hm9, _⟩
        have hm := H8.out.trans' hm9
        obtain ⟨Y, hY⟩ : ∃ Y, ((place (nodeT a b) : Nat) : Int) = Y := ⟨_, rfl⟩
        have hY0 : 0 ≤ Y := by omega
        have hY1 : Y < 4294967296 := by have := place_lt (nodeT a b); omega
        have hpt : nodePts a (b + 1) = nodePts a b ++ [(Y, (a : Int))] := by rw [nodePts_succ, hY]
        rw [hY]
        have hT9 := hm.old HI.out.2.1 id
        have hm9' := HI.out.2.2.1.trans hm (fun _ h => h.elim)
        have H9 := Lib.hid (And.intro hT9 (And.intro hm9' (And.intro hpt HI.out.2.2.2)))
        clear hm9 hm H8 hY hT9 hm9' hpt
        go_upto_region 16 with fail
        obtain ⟨F, hF⟩ : ∃ F, (Y + 4294967296 - A) % 4294967296 = F := ⟨_, rfl⟩
        rw [hF]
        have hFf : far A Y = F := hF
        have ho : ∃ o, ((upto n p s).set s own2)[s]? = some o := ⟨own2, List.getElem?_set_self (by rw [upto_length (by omega)]; omega)⟩
        obtain ⟨o, ho⟩ := ho
        have ct : w9.cell? ⟨B + 1, 1 + s, none⟩ = some (.int .i64 o) := cell_of H9.out.1 (tcells_at 0 ho)
        have cf := fun i => free_of (i := i) H9.out.1
        have HF := Lib.hid hFf
        clear hF hFf ho
        by_cases hless : F < best2
        · go_wp2
          go_roundg (gk - 1)
          case measure => have := H9.out.2.2.2; omega
          case rel =>
            refine ⟨b + 1, F, (a : Int), by have := H9.out.2.2.2; omega, by go_num, rfl, ?_, ?_, H9.out.2.1.setCell (p := ⟨B + 1, 1 + s, none⟩) (.inl rfl) _⟩
            · rw [H9.out.2.2.1, ← List.append_assoc, ← HF.out]
              exact Scan.less (y := (Y, (a : Int))) HI.out.1 (by rw [HF.out]; exact hless)
            · have h := block_setCell H9.out.1 (i := 1 + s) (.int .i64 (a : Int))
              rw [tcells_set, List.set_set] at h
              exact h
        · go_wp2
          go_roundg (gk - 1)
          case measure => have := H9.out.2.2.2; omega
          case rel =>
            refine ⟨b + 1, best2, own2, by have := H9.out.2.2.2; omega, by go_num, rfl, ?_, H9.out.1, H9.out.2.1⟩
            rw [H9.out.2.2.1, ← List.append_assoc]
            exact Scan.more (y := (Y, (a : Int))) HI.out.1 (by rw [HF.out]; omega) (fun z hz => below_node hz)
end Go.Proofs.YtjccngahpafcaaaDoor.RingF
namespace Go.Proofs.YtjccngahpafcaaaDoor.RingF
open Go.RowKit Go.Por Go.Sort Go.Proofs.YtjccngahpafcaaaDoorW.PrintWords

theorem eqTabR (d : Nat) (e e' : Int) (xs ys : List Int) (hx : xs.length = 16) (hy : ys.length = 16) (w : World) :
    (Op.equalIn (d + 3) 41 (.agg (tcells e xs)) (.agg (tcells e' ys))).run Tryd.prog w = .ok (e == e' && decide (xs = ys)) w := by
  refine eqA_of Tryd.underlying41 (by kernel_rfl) ?_
  refine eqf_cons (a := .int .i64 e) (b := .int .i64 e') (by rfl) (run_part_plain w (by kernel_rfl) (tcells_zero e xs)) (run_part_plain w (by kernel_rfl) (tcells_zero e' ys)) (by go_simp) ?_
  exact eqf_last (by rfl) (part_owners e xs hx w) (part_owners e' ys hy w) (eqOwn d xs ys hx hy w)
theorem eqTabR_same (e : Int) (xs : List Int) (hx : xs.length = 16) (w : World) : (Op.equal 41 (.agg (tcells e xs)) (.agg (tcells e xs))).run Tryd.prog w = .ok true w := by
  have h := eqTabR 9997 e e xs xs hx hx w
  rw [show (e == e && decide (xs = xs)) = true by simp] at h
  exact h

theorem new2 (n p : Int) : ∃ os c, os.length = 16 ∧
    (∀ w, Calls Tryd.prog 11 #[.int .i64 n, .int .i64 p] w fun x w' => x = .returned (.tuple #[tval 0 os, .int .i64 c]) ∧ Below w.heap.size w w') ∧
    (∀ w, Calls Tryd.prog 15 #[.int .i64 n, .int .i64 p] w fun x w' => x = .returned (.tuple #[tval 0 os, .int .i64 c]) ∧ Below w.heap.size w w') := by
  by_cases h : n < 1 ∨ 8 < n ∨ p < 1 ∨ 64 < p
  · exact ⟨_, _, by simp, fun w => new_bad n p w h, fun w => rnew_bad n p w h⟩
  · refine ⟨_, 0, owners_length n.toNat p.toNat, fun w => ?_, fun w => ?_⟩
    · have := new_good n.toNat p.toNat w (by omega) (by omega) (by omega) (by omega)
      rwa [show (n.toNat : Int) = n by omega, show (p.toNat : Int) = p by omega] at this
    · have := rnew_good n.toNat p.toNat w (by omega) (by omega) (by omega) (by omega)
      rwa [show (n.toNat : Int) = n by omega, show (p.toNat : Int) = p by omega] at this
theorem move2 (e : Int) (os : List Int) (hl : os.length = 16) (s nd : Int) : ∃ e1 o1 c, o1.length = 16 ∧
    (∀ w, Calls Tryd.prog 10 #[tval e os, .int .i64 s, .int .i64 nd] w fun x w' => x = .returned (.tuple #[tval e1 o1, .int .i64 c]) ∧ Below w.heap.size w w') ∧
    (∀ w, Calls Tryd.prog 16 #[tval e os, .int .i64 s, .int .i64 nd] w fun x w' => x = .returned (.tuple #[tval e1 o1, .int .i64 c]) ∧ Below w.heap.size w w') := by
  by_cases h : mvBad e s nd
  · exact ⟨_, _, _, by simp, fun w => move_bad e os s nd w h, fun w => rmove_bad e os s nd w h⟩
  have h' : 0 ≤ s ∧ s ≤ 15 := by unfold mvBad at h; omega
  obtain ⟨k, rfl⟩ : ∃ k : Nat, s = k := ⟨s.toNat, by omega⟩
  obtain ⟨y, hy⟩ : ∃ y, os[k]? = some y := ⟨_, List.getElem?_eq_getElem (by omega)⟩
  by_cases hyn : y = nd
  · subst hyn
    exact ⟨_, _, _, by simp, fun w => move_twice e os k y w h hy, fun w => rmove_twice e os k y w h hy⟩
  · exact ⟨_, _, _, by simp [hl], fun w => move_good e os hl k nd y w h hy hyn, fun w => rmove_good e os hl k nd y w h hy hyn⟩
end Go.Proofs.YtjccngahpafcaaaDoor.RingF
