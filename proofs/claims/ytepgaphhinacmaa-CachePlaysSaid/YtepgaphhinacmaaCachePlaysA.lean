/- The document's cache, as printed, and the list of pairs: plain. -/
import Derived.Test.YtepgaphhinacmaaRef10K
import Derived.Test.YtepgaphhinacmaaPCachePlaysx2
import Derived.Test.YtepgaphhinacmaaLru
namespace Go.Proofs.Ytepgaphhinacmaa.CachePlays
open Go.RowKit Go.Por Go.Proofs.YtepgaphhinacmaaW.PrintWords Go.Proofs.Ytepgaphhinacmaa.PCachePlays Go.Proofs.Ytepgaphhinacmaa.Ref10K

abbrev KV := ByteArray × Int
def mkP (x : KV) : Pr := ⟨x.1, x.2⟩
theorem mkP_inj : ∀ {l l' : List KV}, l.map mkP = l'.map mkP → l = l' := by
  intro l l' h
  refine List.map_inj_right (f := mkP) (fun a b hab => ?_) |>.1 h
  cases a; cases b
  simp only [mkP, S59.mk.injEq] at hab
  rw [hab.1, hab.2]
/-- The first place of a key, from a place on; -1: none. -/
def fidx : List KV → ByteArray → Nat → Int
  | [], _, _ => -1
  | x :: r, k, t => if x.1 = k then t else fidx r k (t + 1)
theorem wrap_small {i : Int} (h0 : -5000 ≤ i) (h : i ≤ 5000) : wrap64 i = i := by unfold wrap64; omega
theorem list_ne {a b : ByteArray} (h : a ≠ b) : ¬ a.toList = b.toList := fun e => h (toList_inj e)

theorem rd_mk {l : List KV} {t : Nat} {x : KV} (hx : l[t]? = some x) : rd_T59 (l.map mkP) (t : Int) = mkP x := by
  unfold rd_T59
  rw [Int.toNat_natCast, List.getD_eq_getElem?_getD, List.getElem?_map, hx]
  rfl
theorem find_l (l : List KV) (hl : l.length ≤ 4096) (key : ByteArray) (s h m : Int) : ∀ (d k t : Nat), t + d = l.length → d < k → porterref10_find.l0 k key (t : Int) (l.map mkP) s h m = some (fidx (l.drop t) key t)
  | 0, k + 1, t, ht, _ => by
    simp only [porterref10_find.l0]
    rw [if_neg (by rw [List.length_map]; omega), List.drop_eq_nil_of_le (by omega)]
    rfl
  | d + 1, k + 1, t, ht, hk => by
    obtain ⟨x, hx⟩ : ∃ x, l[t]? = some x := ⟨_, List.getElem?_eq_getElem (by omega)⟩
    have hd : l.drop t = x :: l.drop (t + 1) := by
      rw [List.drop_eq_getElem_cons (by omega)]
      congr 1
      simpa [List.getElem?_eq_getElem (show t < l.length by omega)] using hx
    simp only [porterref10_find.l0]
    rw [if_pos (by rw [List.length_map]; omega), if_pos (by omega), rd_mk hx, hd]
    by_cases hxk : x.1 = key
    · rw [if_pos (by rw [show (mkP x).f0 = x.1 from rfl, hxk]), fidx, if_pos hxk]
    · rw [if_neg (show ¬ (mkP x).f0.toList = key.toList from list_ne hxk), fidx, if_neg hxk, wrap_small (by omega) (by omega)]
      exact find_l l hl key s h m d k (t + 1) (by omega) (by omega)
theorem find_f (l : List KV) (hl : l.length ≤ 4096) (key : ByteArray) (s h m : Int) : porterref10_find.f (l.length + 1) (l.map mkP) s h m key = some (fidx l key 0) := by
  have := find_l l hl key s h m l.length (l.length + 1) 0 (by omega) (by omega)
  simpa [porterref10_find.f] using this

theorem fidx_none : ∀ {l : List KV} {k : ByteArray} {t : Nat}, k ∉ l.map (·.1) → fidx l k t = -1
  | [], _, _, _ => rfl
  | x :: r, k, t, h => by
    simp only [List.map_cons, List.mem_cons, not_or] at h
    rw [fidx, if_neg (fun e => h.1 e.symm), fidx_none h.2]
theorem fidx_split : ∀ {xs ys : List KV} {k : ByteArray} {v : Int} {t : Nat}, k ∉ xs.map (·.1) → fidx (xs ++ (k, v) :: ys) k t = (t + xs.length : Nat)
  | [], ys, k, v, t, _ => by
    rw [List.nil_append, fidx, if_pos rfl]
    rfl
  | x :: r, ys, k, v, t, h => by
    simp only [List.map_cons, List.mem_cons, not_or] at h
    rw [List.cons_append, fidx, if_neg (fun e => h.1 e.symm), fidx_split h.2]
    simp only [List.length_cons]
    omega
theorem split_of {l : List KV} {k : ByteArray} {v : Int} (hn : (l.map (·.1)).Nodup) (h : klook l k = some v) : ∃ xs ys, l = xs ++ (k, v) :: ys ∧ k ∉ xs.map (·.1) ∧ kdrop l k = xs ++ ys := by
  obtain ⟨xs, ys, rfl⟩ := List.append_of_mem (klook_some h)
  rw [List.map_append, List.map_cons] at hn
  have h1 : k ∉ xs.map (·.1) := fun hk => (List.nodup_append.1 hn).2.2 k hk k (by simp) rfl
  have h2 : k ∉ ys.map (·.1) := (List.nodup_cons.1 (List.nodup_append.1 hn).2.1).1
  refine ⟨xs, ys, rfl, h1, ?_⟩
  unfold kdrop
  rw [List.filter_append, List.filter_cons_of_neg (by simp)]
  congr 1
  · exact List.filter_eq_self.2 fun x hx => by simp; exact fun e => h1 (List.mem_map.2 ⟨x, hx, e⟩)
  · exact List.filter_eq_self.2 fun x hx => by simp; exact fun e => h2 (List.mem_map.2 ⟨x, hx, e⟩)

theorem bind_at {α β : Type} (a : α) (g : α → Option β) : (some a).bind g = g a := by
  cases h : g a with
  | none => exact h
  | some b => exact h
theorem without_f (l : List KV) (hl : l.length ≤ 4096) (s h m : Int) {i : Nat} (hi : i < l.length) : porterref10_without.f (l.map mkP) s h m (i : Int) = some ((l.eraseIdx i).map mkP) := by
  unfold porterref10_without.f
  obtain ⟨L, hL, hLL⟩ : ∃ L : Nat, L = 5864062014805 ∧ 9000 ≤ L := ⟨_, rfl, by omega⟩
  rw [← hL]
  clear hL
  rw [bind_at, bind_at, bind_at, bind_at]
  have hw : wrap64 ((i : Int) + 1) = ((i + 1 : Nat) : Int) := by rw [wrap_small (by omega) (by omega)]; omega
  rw [hw]
  simp only [Int.toNat_natCast, List.length_map, List.length_append, List.length_take, List.length_drop, List.length_nil]
  rw [if_pos (by omega), if_pos (by omega), if_pos (by omega), if_pos (by omega), if_pos (by omega), if_pos (by omega)]
  refine congrArg some ?_
  rw [List.eraseIdx_eq_take_drop_succ, List.map_append, List.map_take, List.map_drop, List.nil_append]

theorem get_f (l : List KV) (hl : l.length ≤ 4096) (hn : (l.map (·.1)).Nodup) (key : ByteArray) (s h m : Int) :
    ∃ k, porterref10_Get.f k (l.map mkP) s h m key = some ((lget l key).map mkP, s, (if (klook l key).isSome then wrap64 (h + 1) else h), (if (klook l key).isSome then m else wrap64 (m + 1)), (klook l key).getD 0, (klook l key).isSome) := by
  refine ⟨l.length + 1, ?_⟩
  unfold porterref10_Get.f
  obtain ⟨L, hL, hLL⟩ : ∃ L : Nat, L = 5864062014805 ∧ 9000 ≤ L := ⟨_, rfl, by omega⟩
  rw [← hL]
  clear hL
  rw [find_f l hl]
  simp only [Option.bind_some]
  cases hk : klook l key with
  | none =>
    rw [fidx_none (klook_none.1 hk), if_pos (by omega), lget, hk]
    rfl
  | some v =>
    obtain ⟨xs, ys, rfl, hx, hd⟩ := split_of hn hk
    have hi : xs.length < (xs ++ (key, v) :: ys).length := by simp
    have hrd := rd_mk (l := xs ++ (key, v) :: ys) (t := xs.length) (x := (key, v)) (by simp)
    have hle : (((xs ++ (key, v) :: ys).eraseIdx xs.length).map mkP).length ≤ 4096 := by
      rw [List.length_map, List.length_eraseIdx, if_pos hi]; omega
    rw [fidx_split hx, Nat.zero_add, if_neg (by omega), if_pos (by omega), if_pos (by rw [List.length_map]; omega), without_f _ hl s _ m hi, hrd]
    simp only [Option.bind_some]
    rw [if_pos (by simp only [List.length_singleton]; omega), lget, hk]
    have he : (xs ++ (key, v) :: ys).eraseIdx xs.length = xs ++ ys := by
      rw [List.eraseIdx_append_of_length_le (Nat.le_refl _), Nat.sub_self]; rfl
    rw [he, ← hd]
    rfl
theorem put_f (l : List KV) (hl : l.length ≤ 4096) (hn : (l.map (·.1)).Nodup) (key : ByteArray) (v : Int) (s h m : Int) (hs1 : 1 ≤ s) (hs2 : s ≤ 4096) (hls : (l.length : Int) ≤ s) :
    ∃ k, porterref10_Put.f k (l.map mkP) s h m key v = some ((lput s l key v).map mkP, s, h, m) := by
  refine ⟨l.length + 1, ?_⟩
  unfold porterref10_Put.f
  obtain ⟨L, hL, hLL⟩ : ∃ L : Nat, L = 5864062014805 ∧ 9000 ≤ L := ⟨_, rfl, by omega⟩
  rw [← hL]
  clear hL
  rw [find_f l hl]
  simp only [Option.bind_some]
  cases hk : klook l key with
  | none =>
    rw [fidx_none (klook_none.1 hk), if_neg (by omega), List.length_map]
    by_cases hf : (l.length : Int) = s
    · have hi : l.length - 1 < l.length := by omega
      have hw : wrap64 (s - 1) = ((l.length - 1 : Nat) : Int) := by rw [wrap_small (by omega) (by omega)]; omega
      have hle : ((l.eraseIdx (l.length - 1)).map mkP).length ≤ 4096 := by
        rw [List.length_map, List.length_eraseIdx, if_pos hi]; omega
      rw [if_pos hf, hw, without_f _ hl s h m hi]
      simp only [Option.bind_some]
      rw [if_pos (by simp only [List.length_singleton]; omega), lput, hk, if_neg (by simp), if_pos hf, List.eraseIdx_eq_dropLast (by omega)]
      rfl
    · rw [if_neg hf, if_pos (by simp only [List.length_singleton]; omega), lput, hk, if_neg (by simp), if_neg hf]
      rfl
  | some u =>
    obtain ⟨xs, ys, rfl, hx, hd⟩ := split_of hn hk
    have hi : xs.length < (xs ++ (key, u) :: ys).length := by simp
    have hle : (((xs ++ (key, u) :: ys).eraseIdx xs.length).map mkP).length ≤ 4096 := by
      rw [List.length_map, List.length_eraseIdx, if_pos hi]; omega
    rw [fidx_split hx, Nat.zero_add, if_pos (by omega), without_f _ hl s h m hi]
    simp only [Option.bind_some]
    have he : (xs ++ (key, u) :: ys).eraseIdx xs.length = xs ++ ys := by
      rw [List.eraseIdx_append_of_length_le (Nat.le_refl _), Nat.sub_self]; rfl
    rw [if_pos (by simp only [List.length_singleton]; omega), lput, hk, if_pos (by simp), he, ← hd]
    rfl
theorem kept_map (p : ByteArray) (l : List KV) : kept p (l.map mkP) = (l.filter (fun x => !pre x.1 p)).map mkP := by
  unfold kept
  rw [List.filter_map]
  rfl
end Go.Proofs.Ytepgaphhinacmaa.CachePlays
