/- watch.Play. -/
import Derived.Test.YtobcakjlfdejjaaEqL
import Derived.Test.YtobcakjlfdejjaaIter
set_option linter.unusedVariables false
set_option linter.unusedSimpArgs false
namespace Go.Proofs.Ytobcakjlfdejjaa.Watch
open Go.RowKit Go.Por Go.Sort

def kputG {κ : Type} [DecidableEq κ] (ks : List κ) (t : κ) : List κ := if t ∈ ks then ks else ks ++ [t]
def kput (ks : List Tup) (t : Tup) : List Tup := kputG ks t
def kdel (ks : List Tup) (t : Tup) : List Tup := ks.filter (fun x => decide (x ≠ t))
def kstep (ks : List Tup) (c : Chg) : List Tup := if c.2.1 then kdel (kput ks c.2.2) c.2.2 else kput ks c.2.2
def playK (ts : List Tup) (cs : List Chg) : List Tup := cs.foldl kstep (ts.foldl kput [])
/-- What watch.Play hands back. -/
def playL (ts : List Tup) (cs : List Chg) : List Tup := (playK ts cs).mergeSort tle
theorem kput_le (ks : List Tup) (t : Tup) : (kput ks t).length ≤ ks.length + 1 := by
  unfold kput kputG
  split <;> simp
theorem kstep_le (ks : List Tup) (c : Chg) : (kstep ks c).length ≤ ks.length + 1 := by
  unfold kstep
  split
  · exact Nat.le_trans (List.length_filter_le _ _) (kput_le ks _)
  · exact kput_le ks _
theorem fold_le {α : Type} (f : List Tup → α → List Tup) (hf : ∀ ks a, (f ks a).length ≤ ks.length + 1) : ∀ (l : List α) (ks : List Tup), (l.foldl f ks).length ≤ ks.length + l.length
  | [], ks => by simp
  | a :: l, ks => by
    have h1 := fold_le f hf l (f ks a)
    have h2 := hf ks a
    rw [List.foldl_cons, List.length_cons]
    omega
theorem playK_le (ts : List Tup) (cs : List Chg) : (playK ts cs).length ≤ ts.length + cs.length := by
  have h1 := fold_le kput kput_le ts []
  have h2 := fold_le kstep kstep_le cs (ts.foldl kput [])
  rw [List.length_nil, Nat.zero_add] at h1
  unfold playK
  omega
theorem foldl_succ {α β : Type} (f : β → α → β) (l : List α) (b : β) (t : Nat) (x : α) (h : l[t]? = some x) : (l.take (t + 1)).foldl f b = f ((l.take t).foldl f b) x := by
  rw [List.take_add_one, h, List.foldl_append]
  rfl
def km (ks : List Tup) : List (Tup × Value) := ks.map (fun t => (t, Value.int .i64 1))
theorem km_fst (ks : List Tup) : (km ks).map Prod.fst = ks := by
  unfold km
  rw [List.map_map]
  exact List.map_id _
theorem km_put (ks : List Tup) (t : Tup) : mput (km ks) t (.int .i64 1) = km (kput ks t) := by
  unfold mput kput kputG
  rw [km_fst]
  split
  · unfold km
    rw [List.map_map]
    refine List.map_congr_left (fun x _ => ?_)
    show (if x = t then (t, Value.int .i64 1) else (x, Value.int .i64 1)) = _
    split
    · rename_i e; rw [e]
    · rfl
  · unfold km
    rw [List.map_append]
    rfl
theorem km_del (ks : List Tup) (t : Tup) : mdel (km ks) t = km (kdel ks t) := by
  unfold mdel km kdel
  rw [List.filter_map]
  rfl
theorem km_store {W : World} {B : Nat} {ks : List Tup} (h : MapIs W B encT (km ks)) (t : Tup) : ∃ W5, (Instr.mapUpdate 69 (.map (some B)) (encT t) (.int .i64 1)).run Try.prog W = .ok () W5 ∧ MapIs W5 B encT (km (kput ks t)) ∧ Mod (fun x => x = B) W W5 := by
  obtain ⟨o, h1, h2⟩ := h.store keyTup Try.underlying69 t (.int .i64 1)
  rw [km_put] at h2
  exact ⟨_, h1, h2, setB_mod _ _ _⟩
theorem km_delete {W : World} {B : Nat} {ks : List Tup} (h : MapIs W B encT (km ks)) (t : Tup) : ∃ W5, (Builtin.delete_ #[69, 37] 0 #[.map (some B), encT t]).run Try.prog W = .ok (.tuple #[]) W5 ∧ MapIs W5 B encT (km (kdel ks t)) ∧ Mod (fun x => x = B) W W5 := by
  obtain ⟨o, h1, h2⟩ := h.delete (ty := 0) (t2 := 37) keyTup Try.underlying69 t
  rw [km_del] at h2
  exact ⟨_, h1, h2, setB_mod _ _ _⟩
theorem sort_perm {a b : List Tup} (h : a.Perm b) : a.mergeSort tle = b.mergeSort tle := by
  have tr : ∀ x y z : Tup, tle x y = true → tle y z = true → tle x z = true := fun x y z h1 h2 => by
    unfold tle at *
    simp only [Bool.not_eq_true'] at *
    exact tupSwo.ntrans _ _ _ h2 h1
  have tot : ∀ x y : Tup, (tle x y || tle y x) = true := fun x y => by
    unfold tle
    cases h1 : ltOf tcmp y x with
    | false => rfl
    | true => rw [Stab.SWO.asymm' tupSwo h1]; rfl
  refine List.Perm.eq_of_pairwise (le := fun x y => tle x y = true) (fun x y _ _ h1 h2 => ?_) (List.pairwise_mergeSort tr tot a) (List.pairwise_mergeSort tr tot b) ((List.mergeSort_perm _ _).trans (h.trans (List.mergeSort_perm _ _).symm))
  unfold tle at *
  simp only [Bool.not_eq_true'] at *
  exact tupTotal x y h2 h1
end Go.Proofs.Ytobcakjlfdejjaa.Watch
