/- What a tuple is, plain. No program in sight. -/
import Derived.Lib.SlTrimSet
import Derived.Lib.Bytealg
set_option linter.unusedVariables false
set_option linter.unusedSimpArgs false
namespace Go.Por.Tupl
open Go

def okByte (c : UInt8) : Bool := c == 95 || (48 ≤ c && c ≤ 57) || (97 ≤ c && c ≤ 122)
/-- Is it a name? -/
def nameL (l : List UInt8) : Bool := !l.isEmpty && decide (l.length ≤ 32) && l.all okByte
def cset : List UInt8 := [97, 98, 99, 100, 101, 102, 103, 104, 105, 106, 107, 108, 109, 110, 111, 112, 113, 114, 115, 116, 117, 118, 119, 120, 121, 122, 48, 49, 50, 51, 52, 53, 54, 55, 56, 57, 95]
theorem cset_ok (c : UInt8) : cset.contains c = okByte c := by
  have h : ∀ n : Nat, n < 256 → cset.contains (UInt8.ofNat n) = okByte (UInt8.ofNat n) := by decide +kernel
  have h2 := h c.toNat c.toNat_lt
  rwa [UInt8.ofNat_toNat] at h2
theorem dropWhile_nil {α : Type} {p : α → Bool} : ∀ {l : List α}, l.dropWhile p = [] ↔ ∀ x ∈ l, p x = true
  | [] => by simp
  | x :: l => by
    rw [List.dropWhile_cons]
    by_cases h : p x = true
    · rw [if_pos h, dropWhile_nil]
      constructor
      · intro k y hy
        rcases List.mem_cons.1 hy with e | hy
        · rw [e]; exact h
        · exact k y hy
      · exact fun k y hy => k y (List.mem_cons_of_mem _ hy)
    · rw [if_neg h]
      constructor
      · intro k; cases k
      · exact fun k => absurd (k x List.mem_cons_self) h
theorem dropWhile_head {α : Type} {p : α → Bool} : ∀ {l : List α} {x : α} {r : List α}, l.dropWhile p = x :: r → p x = false
  | y :: l, x, r, h => by
    rw [List.dropWhile_cons] at h
    by_cases k : p y = true
    · rw [if_pos k] at h; exact dropWhile_head h
    · rw [if_neg k] at h
      cases h
      simpa using k
theorem trim_nil (l cs : List UInt8) : Lib.trimS l cs = [] ↔ ∀ c ∈ l, cs.contains c = true := by
  unfold Lib.trimS Lib.trimLeftS
  rw [dropWhile_nil]
  unfold Lib.trimRightS
  constructor
  · intro h
    have h1 : l.reverse.dropWhile (cs.contains ·) = [] := by
      cases e : l.reverse.dropWhile (cs.contains ·) with
      | nil => rfl
      | cons x r =>
        have hx := dropWhile_head e
        have := h x (by rw [e]; simp)
        rw [hx] at this
        cases this
    exact fun c hc => dropWhile_nil.1 h1 c (List.mem_reverse.2 hc)
  · intro h c hc
    have h1 : l.reverse.dropWhile (cs.contains ·) = [] := dropWhile_nil.2 (fun x hx => h x (List.mem_reverse.1 hx))
    rw [h1] at hc
    cases hc
theorem trim_name (l : List UInt8) : (Lib.trimS l cset).isEmpty = l.all okByte := by
  rw [Bool.eq_iff_iff, List.isEmpty_iff, trim_nil, List.all_eq_true]
  simp only [cset_ok]
/-- The error's number of an object. -/
def objE (l : List UInt8) : Int :=
  if Lib.indexByte l 58 < 0 then 51 else if nameL (l.take (Lib.indexByte l 58).toNat) && nameL (l.drop ((Lib.indexByte l 58).toNat + 1)) then 0 else 50
/-- The error's number of a user. -/
def usrE (l : List UInt8) : Int :=
  if Lib.indexByte l 35 < 0 then objE l
  else if objE (l.take (Lib.indexByte l 35).toNat) = 0 then (if nameL (l.drop ((Lib.indexByte l 35).toNat + 1)) then 0 else 50) else objE (l.take (Lib.indexByte l 35).toNat)
/-- The error's number of a tuple. -/
def tchk (x : ByteArray × ByteArray × ByteArray) : Int :=
  if objE x.1.data.toList = 0 then (if nameL x.2.1.data.toList then usrE x.2.2.data.toList else 50) else objE x.1.data.toList
theorem indexByte_lo (l : List UInt8) (c : UInt8) : -1 ≤ Lib.indexByte l c := by
  induction l with
  | nil => simp [Lib.indexByte]
  | cons b l ih =>
    unfold Lib.indexByte
    split
    · omega
    · split <;> omega
theorem indexByte_hi (l : List UInt8) (c : UInt8) : Lib.indexByte l c < l.length ∨ l = [] := by
  induction l with
  | nil => exact .inr rfl
  | cons b l ih =>
    left
    unfold Lib.indexByte
    simp only [List.length_cons]
    split
    · omega
    · rename_i h
      split
      · omega
      · rename_i h2
        rcases ih with k | k
        · omega
        · rw [k] at h2; simp [Lib.indexByte] at h2
theorem indexByte_lt {l : List UInt8} {c : UInt8} (h : 0 ≤ Lib.indexByte l c) : (Lib.indexByte l c).toNat < l.length := by
  rcases indexByte_hi l c with k | k
  · omega
  · rw [k] at h; simp [Lib.indexByte] at h
end Go.Por.Tupl
