/- The cache at keys string and values int: out, first. What each does to the ring. -/
import Derived.Test.YtepgaphhinacmaaRows
import Derived.Test.YtepgaphhinacmaaRing
import Derived.Test.YtepgaphhinacmaaMap
import Derived.BigRegion
import Derived.Outline
namespace Go.Proofs.Ytepgaphhinacmaa.CacheSI
open Go.RowKit Go.Por

set_option maxHeartbeats 400000 in
theorem out_raw (e p n : Nat) (x y : Value) (w : World)
   (h1 : w.cell? ⟨e, 2, none⟩ = some (.pointer (some ⟨p, 0, none⟩)))
   (h2 : w.cell? ⟨e, 3, none⟩ = some (.pointer (some ⟨n, 0, none⟩)))
   (h3 : w.cell? ⟨p, 3, none⟩ = some x)
   (h4 : w.frozen? ⟨p, 3, none⟩ = false)
   (h5 : (w.setCell ⟨p, 3, none⟩ (.pointer (some ⟨n, 0, none⟩))).cell? ⟨n, 2, none⟩ = some y)
   (h6 : w.frozen? ⟨n, 2, none⟩ = false) :
    Calls Try.prog 60 #[.pointer (some ⟨e, 0, none⟩)] w fun e w' => e = .returned (.tuple #[]) ∧
      w' = ((w.setCell ⟨p, 3, none⟩ (.pointer (some ⟨n, 0, none⟩))).setCell ⟨n, 2, none⟩ (.pointer (some ⟨p, 0, none⟩))).drew := by
  go_enter Try.func60, Try.ntmps60
  go_wp2
  go_region
  all_goals (go_end0; exact ⟨rfl, rfl⟩)

theorem out_call' {w : World} {r e : Nat} {xs ys : List Nat} (hn : (r :: (xs ++ e :: ys)).Nodup) (hl : ∀ b ∈ r :: (xs ++ e :: ys), Lk 2 w b) (h : Ring 2 w r (xs ++ e :: ys)) :
    Calls Try.prog 60 #[.pointer (some ⟨e, 0, none⟩)] w fun e' w' => e' = .returned (.tuple #[]) ∧ Ring 2 w' r (xs ++ ys) ∧
      (∀ t pre post b, pre.length = 2 → Nd w t pre post b → Nd w' t pre post b) ∧ Mod (fun x => x ∈ r :: (xs ++ e :: ys)) w w' ∧ w'.cell? ⟨e, 3, none⟩ = w.cell? ⟨e, 3, none⟩ := by
  obtain ⟨p, n, h1, h2, hp, hq, hr, hpe⟩ := ring_out hn hl h
  obtain ⟨x, hx⟩ := (hl p hp).next
  obtain ⟨y, hy⟩ := ((hl n hq).set p (2 + 1) (.inr rfl) (ptr n)).prev
  refine (out_raw e p n x y w h1 h2 hx (hl p hp).free hy (hl n hq).free).mono ?_
  rintro e' w' ⟨rfl, rfl⟩
  refine ⟨rfl, hr.drew, fun t pre post b hpre hb => ?_, ?_, ?_⟩
  · exact ((hb.setLink p _ (.inr (by rw [hpre])) _).setLink n _ (.inl hpre.symm) _).drew
  · exact (((Mod.refl _ w).setCell (p := ⟨p, 3, none⟩) (.inl hp) _).setCell (p := ⟨n, 2, none⟩) (.inl hq) _).drew
  · rw [World.cell?_drew, cell_ne (.inr (by omega)), cell_ne (.inl hpe)]
theorem out_call {w : World} {r e : Nat} {xs ys : List Nat} (hn : (r :: (xs ++ e :: ys)).Nodup) (hl : ∀ b ∈ r :: (xs ++ e :: ys), Lk 2 w b) (h : Ring 2 w r (xs ++ e :: ys)) :
    Calls Try.prog 60 #[.pointer (some ⟨e, 0, none⟩)] w fun e' w' => e' = .returned (.tuple #[]) ∧ Ring 2 w' r (xs ++ ys) ∧
      (∀ t pre post b, pre.length = 2 → Nd w t pre post b → Nd w' t pre post b) ∧ Mod (fun x => x ∈ r :: (xs ++ e :: ys)) w w' :=
  (out_call' hn hl h).mono fun _ _ ⟨a, b, c, d, _⟩ => ⟨a, b, c, d⟩

set_option maxHeartbeats 800000 in
theorem first_raw (r e n : Nat) (x y z u : Value) (w : World) (_her : e ≠ r) (_hen : e ≠ n)
   (h1 : w.cell? ⟨r, 3, none⟩ = some (.pointer (some ⟨n, 0, none⟩)))
   (h2 : w.cell? ⟨e, 2, none⟩ = some x) (_h3 : w.cell? ⟨e, 3, none⟩ = some y)
   (f1 : w.frozen? ⟨r, 3, none⟩ = false) (f2 : w.frozen? ⟨e, 2, none⟩ = false) (f3 : w.frozen? ⟨e, 3, none⟩ = false) (f4 : w.frozen? ⟨n, 2, none⟩ = false)
   (a1 : (w.setCell ⟨e, 2, none⟩ (.pointer (some ⟨r, 0, none⟩))).cell? ⟨e, 3, none⟩ = some y)
   (a2 : ((w.setCell ⟨e, 2, none⟩ (.pointer (some ⟨r, 0, none⟩))).setCell ⟨e, 3, none⟩ (.pointer (some ⟨n, 0, none⟩))).cell? ⟨e, 2, none⟩ = some (.pointer (some ⟨r, 0, none⟩)))
   (a3 : ((w.setCell ⟨e, 2, none⟩ (.pointer (some ⟨r, 0, none⟩))).setCell ⟨e, 3, none⟩ (.pointer (some ⟨n, 0, none⟩))).cell? ⟨e, 3, none⟩ = some (.pointer (some ⟨n, 0, none⟩)))
   (a4 : ((w.setCell ⟨e, 2, none⟩ (.pointer (some ⟨r, 0, none⟩))).setCell ⟨e, 3, none⟩ (.pointer (some ⟨n, 0, none⟩))).cell? ⟨r, 3, none⟩ = some z)
   (a5 : (((w.setCell ⟨e, 2, none⟩ (.pointer (some ⟨r, 0, none⟩))).setCell ⟨e, 3, none⟩ (.pointer (some ⟨n, 0, none⟩))).setCell ⟨r, 3, none⟩ (.pointer (some ⟨e, 0, none⟩))).cell? ⟨n, 2, none⟩ = some u) :
    Calls Try.prog 61 #[.pointer (some ⟨r, 0, none⟩), .pointer (some ⟨e, 0, none⟩)] w fun e' w' => e' = .returned (.tuple #[]) ∧
      w' = ((((w.setCell ⟨e, 2, none⟩ (.pointer (some ⟨r, 0, none⟩))).setCell ⟨e, 3, none⟩ (.pointer (some ⟨n, 0, none⟩))).setCell ⟨r, 3, none⟩ (.pointer (some ⟨e, 0, none⟩))).setCell ⟨n, 2, none⟩ (.pointer (some ⟨e, 0, none⟩))).drew.drew := by
  go_enter Try.func61, Try.ntmps61
  go_wp2
  go_region
  all_goals (go_wp2; go_region)
  all_goals (go_end0; exact ⟨rfl, rfl⟩)

theorem first_call {w : World} {r e : Nat} {bs : List Nat} (hn : (r :: bs).Nodup) (he : e ∉ r :: bs) (hl : ∀ b ∈ r :: bs, Lk 2 w b) (hle : Lk 2 w e) (h : Ring 2 w r bs) :
    Calls Try.prog 61 #[.pointer (some ⟨r, 0, none⟩), .pointer (some ⟨e, 0, none⟩)] w fun e' w' => e' = .returned (.tuple #[]) ∧ Ring 2 w' r (e :: bs) ∧
      (∀ t pre post b, pre.length = 2 → Nd w t pre post b → Nd w' t pre post b) ∧ Mod (fun x => x ∈ e :: r :: bs) w w' := by
  obtain ⟨n, h1, hq, hr⟩ := ring_first hn he hl hle h
  have her : e ≠ r := fun h => he (by simp [h])
  have hen : e ≠ n := fun h => he (h ▸ hq)
  obtain ⟨x, hx⟩ := hle.prev
  obtain ⟨y, hy⟩ := hle.next
  obtain ⟨u, hu⟩ := ((((hl n hq).set e 2 (.inl rfl) (ptr r)).set e (2 + 1) (.inr rfl) (ptr n)).set r (2 + 1) (.inr rfl) (ptr e)).prev
  have a1 : (w.setCell ⟨e, 2, none⟩ (ptr r)).cell? ⟨e, 3, none⟩ = some y := by rw [cell_ne (.inr (by omega))]; exact hy
  have a2 : ((w.setCell ⟨e, 2, none⟩ (ptr r)).setCell ⟨e, 3, none⟩ (ptr n)).cell? ⟨e, 2, none⟩ = some (ptr r) := by
    rw [cell_ne (.inr (by omega))]; exact World.cell?_setCell_same _ _ _ hx
  have a3 : ((w.setCell ⟨e, 2, none⟩ (ptr r)).setCell ⟨e, 3, none⟩ (ptr n)).cell? ⟨e, 3, none⟩ = some (ptr n) := World.cell?_setCell_same _ _ _ a1
  have a4 : ((w.setCell ⟨e, 2, none⟩ (ptr r)).setCell ⟨e, 3, none⟩ (ptr n)).cell? ⟨r, 3, none⟩ = some (ptr n) := by
    rw [cell_ne (.inl her), cell_ne (.inl her)]; exact h1
  have a5 : (((w.setCell ⟨e, 2, none⟩ (ptr r)).setCell ⟨e, 3, none⟩ (ptr n)).setCell ⟨r, 3, none⟩ (ptr e)).cell? ⟨n, 2, none⟩ = some u := hu
  refine (first_raw r e n x y (ptr n) u w her hen h1 hx hy (hl r (by simp)).free hle.free hle.free (hl n hq).free a1 a2 a3 a4 a5).mono ?_
  rintro e' w' ⟨rfl, rfl⟩
  refine ⟨rfl, hr.drew.drew, fun t pre post b hpre hb => ?_, ?_⟩
  · exact (((((hb.setLink e _ (.inl hpre.symm) _).setLink e _ (.inr (by rw [hpre])) _).setLink r _ (.inr (by rw [hpre])) _).setLink n _ (.inl hpre.symm) _).drew).drew
  · exact ((((((Mod.refl _ w).setCell (p := ⟨e, 2, none⟩) (.inl (by simp)) _).setCell (p := ⟨e, 3, none⟩) (.inl (by simp)) _).setCell (p := ⟨r, 3, none⟩) (.inl (by simp)) _).setCell (p := ⟨n, 2, none⟩) (.inl (List.mem_cons_of_mem _ hq)) _).drew).drew
end Go.Proofs.Ytepgaphhinacmaa.CacheSI
