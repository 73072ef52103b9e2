/- The outbox at keys string and values int: where a key is; Keys. -/
import Derived.Test.YtepgaphhinacmaaOutAOI
namespace Go.Proofs.Ytepgaphhinacmaa.OutOI
open Go.RowKit Go.Por

theorem place_none {l : List It} {k : ByteArray} (h : ∀ x ∈ l, x.1 ≠ k) : place l k = -1 := by
  have : l.findIdx? (fun x => decide (x.1 = k)) = none := by
    rw [List.findIdx?_eq_none_iff]
    intro x hx
    simpa using h x hx
  rw [place, this]
theorem place_some {l : List It} {k : ByteArray} {i : Nat} {x : It} (hx : l[i]? = some x) (hk : x.1 = k) (h : ∀ j, j < i → ∀ y, l[j]? = some y → y.1 ≠ k) : place l k = i := by
  have hi : i < l.length := by
    rcases Nat.lt_or_ge i l.length with h | h
    · exact h
    · simp [List.getElem?_eq_none h] at hx
  have e : l[i] = x := by simpa [List.getElem?_eq_getElem hi] using hx
  have : l.findIdx? (fun x => decide (x.1 = k)) = some i := by
    rw [List.findIdx?_eq_some_iff_getElem]
    refine ⟨hi, by rw [e]; simpa using hk, fun j hj => ?_⟩
    have := h j hj l[j] (List.getElem?_eq_getElem (by omega))
    simpa using this
  rw [place, this]
/-- What a place tells. -/
theorem place_cases (l : List It) (k : ByteArray) : (place l k = -1 ∧ ∀ x ∈ l, x.1 ≠ k) ∨ ∃ (i : Nat) (x : It), place l k = i ∧ l[i]? = some x ∧ x.1 = k := by
  unfold place
  cases h : l.findIdx? (fun x => decide (x.1 = k)) with
  | none =>
    rw [List.findIdx?_eq_none_iff] at h
    exact .inl ⟨rfl, fun x hx => by simpa using h x hx⟩
  | some i =>
    rw [List.findIdx?_eq_some_iff_getElem] at h
    obtain ⟨hi, hk, _⟩ := h
    exact .inr ⟨i, l[i], rfl, List.getElem?_eq_getElem hi, by simpa using hk⟩

theorem place_cases' (l : List It) (k : ByteArray) : (place l k = -1 ∧ ∀ x ∈ l, x.1 ≠ k) ∨ ∃ (i : Nat) (x : It), place l k = i ∧ l[i]? = some x ∧ x.1 = k ∧ ∀ j, j < i → ∀ y, l[j]? = some y → y.1 ≠ k := by
  unfold place
  cases h : l.findIdx? (fun x => decide (x.1 = k)) with
  | none =>
    rw [List.findIdx?_eq_none_iff] at h
    exact .inl ⟨rfl, fun x hx => by simpa using h x hx⟩
  | some i =>
    rw [List.findIdx?_eq_some_iff_getElem] at h
    obtain ⟨hi, hk, hb⟩ := h
    refine .inr ⟨i, l[i], rfl, List.getElem?_eq_getElem hi, by simpa using hk, fun j hj y hy => ?_⟩
    have h1 := hb j hj
    have hjl : j < l.length := by omega
    rw [List.getElem?_eq_getElem hjl] at hy
    cases hy
    simpa using h1

set_option maxHeartbeats 800000 in
theorem index_any {w : World} {v : Value} {l : List It} (h : OwnS cells 3 w 134 v l) (hlen : l.length ≤ 4096) {kb : Nat} {key : ByteArray} (hk : w.cell? ⟨kb, 0, none⟩ = some (.string key)) (hlt : kb < w.heap.size) :
    Calls Try.prog 68 #[v, .func (.func 69) #[] #[.pointer (some ⟨kb, 0, none⟩)]] w fun e w' => e = .returned (.int .i64 (place l key)) ∧ Below w.heap.size w w' := by
  obtain ⟨a, cap, rfl, hrow⟩ : ∃ a cap, v = .slice a l.length cap ∧ (0 < l.length → ∃ g, a = some ⟨g, 0, none⟩) := by
    rcases h.form with ⟨rfl, rfl⟩ | ⟨g, cap, rfl, _⟩
    · exact ⟨none, 0, rfl, fun h => by simp at h⟩
    · exact ⟨_, cap, rfl, fun _ => ⟨g, rfl⟩⟩
  have HH := Lib.hid (And.intro h hrow)
  clear h hrow
  go_enter Try.func68, Try.ntmps68
  go_wp2
  go_loopg [8] (l.length) (fun g i wx => ∃ t : Nat, t + g = l.length ∧ i = .int .i64 (t : Int) ∧ (∀ j, j < t → ∀ y, l[j]? = some y → y.1 ≠ key) ∧ Below w.heap.size w wx)
  case atStart => exact ⟨0, by omega, rfl, fun j hj => by omega, Below.refl _ _⟩
  case round =>
    obtain ⟨t, htg, rfl, hno, hbel⟩ := hrel
    by_cases hg : gk = 0
    · have hk0 : ¬ ((t : Int) < (l.length : Int)) := by omega
      have HE := Lib.hid (And.intro hno (And.intro hbel (show t = l.length by omega)))
      clear hno hbel htg hg
      go_wp2
      go_ret
      obtain ⟨hno, hbel, ht⟩ := HE.out
      refine ⟨?_, hbel⟩
      rw [place_none (fun x hx => by
        obtain ⟨j, hj⟩ := List.getElem?_of_mem hx
        have : j < l.length := by
          rcases Nat.lt_or_ge j l.length with h | h
          · exact h
          · simp [List.getElem?_eq_none h] at hj
        exact hno j (by omega) x hj)]
      rfl
    · have ht : t < l.length := by omega
      obtain ⟨g, rfl⟩ := HH.out.2 (by omega)
      obtain ⟨x, hx⟩ : ∃ x, l[t]? = some x := ⟨_, List.getElem?_eq_getElem ht⟩
      have hgl := HH.out.1.lt
      have c0 : wr.cell? ⟨g, t * 3, none⟩ = some (.string x.1) := by
        rw [hbel.cell (p := ⟨g, t * 3, none⟩) hgl]; exact HH.out.1.cell cells3 hx (j := 0) (by omega) rfl
      have c1 : wr.cell? ⟨g, t * 3 + 1, none⟩ = some (Value.int .i64 x.2.1) := by
        rw [hbel.cell (p := ⟨g, t * 3 + 1, none⟩) hgl]; exact HH.out.1.cell cells3 hx (j := 1) (by omega) rfl
      have c2 : wr.cell? ⟨g, t * 3 + 2, none⟩ = some (.int .i64 x.2.2) := by
        rw [hbel.cell (p := ⟨g, t * 3 + 2, none⟩) hgl]; exact HH.out.1.cell cells3 hx (j := 2) (by omega) rfl
      have ck : wr.cell? ⟨kb, 0, none⟩ = some (.string key) := by rw [hbel.cell (p := ⟨kb, 0, none⟩) hlt]; exact hk
      have hbs := hbel.size
      have HE := Lib.hid (And.intro hno (And.intro hbel (And.intro htg hx)))
      clear hno hbel htg hg hx
      go_wp2_with fail
      refine (ask_any wr ck (by omega) x).mono ?_
      rintro e w1 ⟨rfl, hb1⟩
      obtain ⟨hno, hbel, htg, hx⟩ := HE.out
      have HF := Lib.hid (hbel.trans (hb1.mono hbs))
      clear hno hbel htg hx hb1
      by_cases hkx : x.1 = key
      · have e1 : decide (x.1 = key) = true := by simp [hkx]
        rw [e1]
        have HK := Lib.hid hkx
        clear hkx e1
        go_wp2
        go_ret
        obtain ⟨hno, hbel, htg, hx⟩ := HE.out
        exact ⟨by rw [place_some hx HK.out hno]; rfl, HF.out⟩
      · have e1 : decide (x.1 = key) = false := by simp [hkx]
        rw [e1]
        have HK := Lib.hid hkx
        clear hkx e1
        go_wp2
        go_roundg (gk - 1)
        case measure => have := HE.out.2.2.1; omega
        case rel =>
          obtain ⟨hno, hbel, htg, hx⟩ := HE.out
          refine ⟨t + 1, by omega, by go_num, fun j hj y hy => ?_, HF.out⟩
          by_cases hjt : j = t
          · subst hjt
            rw [hx] at hy
            cases hy
            exact HK.out
          · exact hno j (by omega) y hy

set_option maxHeartbeats 400000 in
theorem find_any {w : World} {O : Nat} {v : Value} {l : List It} {p s : Int} (H : OutIs w O v l p s) (hlen : l.length ≤ 4096) (key : ByteArray) :
    Calls Try.prog 63 #[.pointer (some ⟨O, 0, none⟩), .string key] w fun e w' => e = .returned (.int .i64 (place l key)) ∧ Below w.heap.size w w' := by
  have c := H.items
  have hlt := lt_block H.root
  have HH := Lib.hid H
  clear H
  go_enter Try.func63, Try.ntmps63
  go_wp2_with fail
  have h2 : OwnS cells 3 (w.alloc (.cells #[.string key] 9)) 134 v l := HH.out.own.alloc _
  refine (index_any h2 hlen (kb := w.heap.size) (key := key) (by simp) (by simp)).mono ?_
  rintro e w1 ⟨rfl, hb1⟩
  have HB := Lib.hid (((Below.refl _ w).alloc (Nat.le_refl _) (.cells #[.string key] 9)).trans (hb1.mono (by simp)))
  clear h2 hb1
  go_wp2
  go_ret
  exact ⟨rfl, HB.out⟩
end Go.Proofs.Ytepgaphhinacmaa.OutOI
