/- A text's place on the ring, as the program and the document reckon it: one number. -/
import Derived.Test.YtjccngahpafcaaaDoorPRingTablesx1
import Derived.Test.YtjccngahpafcaaaDoorPRingTablesx4
import Derived.Test.YtjccngahpafcaaaDoorPRingTablesx6
namespace Go.Proofs.YtjccngahpafcaaaDoor.RingF
open Go.RowKit Go.Proofs.YtjccngahpafcaaaDoorW.PrintWords Go.Proofs.YtjccngahpafcaaaDoor.PRingTables

def hstep (h : Nat) (c : UInt8) : Nat := ((h ^^^ c.toNat) * 16777619) % 4294967296
def hmix1 (h : Nat) : Nat := ((h ^^^ (h / 65536)) * 2246822507) % 4294967296
def hmix2 (h : Nat) : Nat := ((h ^^^ (h / 8192)) * 3266489909) % 4294967296
def hmix3 (h : Nat) : Nat := h ^^^ (h / 65536)
def hfin (h : Nat) : Nat := hmix3 (hmix2 (hmix1 h))
def hfold (h : Nat) (l : List UInt8) : Nat := l.foldl hstep h
/-- A text's place. -/
def place (s : ByteArray) : Nat := hfin (hfold 2166136261 s.data.toList)

theorem xor32 {a b : Nat} (ha : a < 4294967296) (hb : b < 4294967296) : a ^^^ b < 4294967296 := Nat.xor_lt_two_pow (n := 32) ha hb
theorem hstep_lt (h : Nat) (c : UInt8) : hstep h c < 4294967296 := Nat.mod_lt _ (by decide)
theorem hfold_lt : ∀ (l : List UInt8) (h : Nat), h < 4294967296 → hfold h l < 4294967296
  | [], _, h => h
  | c :: r, h, _ => hfold_lt r (hstep h c) (hstep_lt h c)
theorem hfin_lt (h : Nat) : hfin h < 4294967296 := by
  have h2 : hmix2 (hmix1 h) < 4294967296 := Nat.mod_lt _ (by decide)
  exact xor32 h2 (Nat.lt_of_le_of_lt (Nat.div_le_self _ _) h2)
theorem place_lt (s : ByteArray) : place s < 4294967296 := hfin_lt _

theorem bits_xor (k : IntKind) (a b : Nat) (hk : ∀ n : Int, 0 ≤ n → n < 4294967296 → k.wrap n = n) (hb : 32 ≤ k.bits) (h1 : a < 4294967296) (h2 : b < 4294967296) : bits .xor k (a : Int) (b : Int) = ((a ^^^ b : Nat) : Int) := by
  have hp : 2 ^ 32 ≤ 2 ^ k.bits := Nat.pow_le_pow_right (by decide) hb
  have ha' : a % 2 ^ k.bits = a := Nat.mod_eq_of_lt (Nat.lt_of_lt_of_le h1 hp)
  have hb' : b % 2 ^ k.bits = b := Nat.mod_eq_of_lt (Nat.lt_of_lt_of_le h2 hp)
  have h3 := xor32 h1 h2
  simp only [bits, BitVec.ofInt_natCast, BitVec.toNat_xor, BitVec.toNat_ofNat, ha', hb']
  exact hk _ (Int.natCast_nonneg _) (by omega)
theorem wrap32 (n : Int) (h0 : 0 ≤ n) (h1 : n < 4294967296) : IntKind.u32.wrap n = n := by rw [IntKind.wrap_u32]; omega
theorem wrap64u (n : Int) (h0 : 0 ≤ n) (h1 : n < 18446744073709551616) : IntKind.u64.wrap n = n := by
  simp [IntKind.wrap, IntKind.bits, IntKind.signed]; omega
theorem x32 {a b : Nat} (h1 : a < 4294967296) (h2 : b < 4294967296) : bits .xor .u32 (a : Int) (b : Int) = ((a ^^^ b : Nat) : Int) := bits_xor .u32 a b wrap32 (by decide) h1 h2
theorem x64 {a b : Nat} (h1 : a < 4294967296) (h2 : b < 4294967296) : bits .xor .u64 (a : Int) (b : Int) = ((a ^^^ b : Nat) : Int) := bits_xor .u64 a b (fun n h0 h => wrap64u n h0 (by omega)) (by decide) h1 h2

theorem bt_at {s : ByteArray} {i : Nat} {c : UInt8} (h : s.data.toList[i]? = some c) : bt s (i : Int) = (c.toNat : Int) := by
  obtain ⟨hi, hc⟩ := List.getElem?_eq_some_iff.1 h
  have hi' : i < s.size := by simpa using hi
  unfold bt
  rw [dif_pos (by simpa using hi')]
  simp only [Int.toNat_natCast]
  rw [← hc]
  rfl
theorem hfin_prog (h : Nat) (hh : h < 4294967296) : (Go.bits .xor .u32 (((Go.bits .xor .u32 (((Go.bits .xor .u32 (h : Int) ((h : Int) / 65536)) * 2246822507) % 4294967296) ((((Go.bits .xor .u32 (h : Int) ((h : Int) / 65536)) * 2246822507) % 4294967296) / 8192)) * 3266489909) % 4294967296) ((((Go.bits .xor .u32 (((Go.bits .xor .u32 (h : Int) ((h : Int) / 65536)) * 2246822507) % 4294967296) ((((Go.bits .xor .u32 (h : Int) ((h : Int) / 65536)) * 2246822507) % 4294967296) / 8192)) * 3266489909) % 4294967296) / 65536)) = (hfin h : Int) := by
  have e1 : Go.bits .xor .u32 (h : Int) ((h : Int) / 65536) = ((h ^^^ (h / 65536) : Nat) : Int) := x32 hh (Nat.lt_of_le_of_lt (Nat.div_le_self _ _) hh)
  have m1 : hmix1 h < 4294967296 := Nat.mod_lt _ (by decide)
  have m2 : hmix2 (hmix1 h) < 4294967296 := Nat.mod_lt _ (by decide)
  rw [e1, show (((h ^^^ (h / 65536) : Nat) : Int) * 2246822507) % 4294967296 = ((hmix1 h : Nat) : Int) by unfold hmix1; omega]
  have e2 : Go.bits .xor .u32 ((hmix1 h : Nat) : Int) (((hmix1 h : Nat) : Int) / 8192) = ((hmix1 h ^^^ (hmix1 h / 8192) : Nat) : Int) := x32 m1 (Nat.lt_of_le_of_lt (Nat.div_le_self _ _) m1)
  rw [e2, show (((hmix1 h ^^^ (hmix1 h / 8192) : Nat) : Int) * 3266489909) % 4294967296 = ((hmix2 (hmix1 h) : Nat) : Int) by unfold hmix2; omega]
  exact x32 m2 (Nat.lt_of_le_of_lt (Nat.div_le_self _ _) m2)
theorem wrap_i {i : Nat} (h : i ≤ 9223372036854775806) : wrap64 ((i : Int) + 1) = ((i + 1 : Nat) : Int) := by unfold wrap64; omega

theorem hash_l (s : ByteArray) (hs : s.size ≤ 9223372036854775807) : ∀ (d k i h : Nat), i + d = s.size → d < k → h < 4294967296 → ring_Hash.l0 k s (h : Int) (s.size : Int) (i : Int) = some ((hfin (hfold h (s.data.toList.drop i)) : Nat) : Int)
  | 0, k + 1, i, h, hi, _, hh => by
    simp only [ring_Hash.l0]
    rw [if_neg (by omega), hfin_prog h hh, List.drop_eq_nil_of_le (by simp; omega)]
    rfl
  | d + 1, k + 1, i, h, hi, hk, hh => by
    have hl : i < s.data.toList.length := by simp; omega
    obtain ⟨c, hc⟩ : ∃ c, s.data.toList[i]? = some c := ⟨_, List.getElem?_eq_getElem hl⟩
    have hd : s.data.toList.drop i = c :: s.data.toList.drop (i + 1) := by
      rw [List.drop_eq_getElem_cons hl]
      congr 1
      rw [List.getElem?_eq_getElem hl] at hc
      exact Option.some.inj hc
    have hcl : c.toNat < 256 := c.toNat_lt
    simp only [ring_Hash.l0]
    rw [if_pos (by omega), if_pos (by omega), if_pos (by omega), bt_at hc, show ((c.toNat : Int) % 4294967296) = ((c.toNat : Nat) : Int) by omega, x32 hh (by omega),
      show (((h ^^^ c.toNat : Nat) : Int) * 16777619) % 4294967296 = ((hstep h c : Nat) : Int) by unfold hstep; omega, wrap_i (by omega), hash_l s hs d k (i + 1) (hstep h c) (by omega) (by omega) (hstep_lt h c), hd]
    rfl
theorem hash_f (s : ByteArray) (hs : s.size ≤ 9223372036854775807) : ring_Hash.f (s.size + 1) s = some ((place s : Nat) : Int) := by
  have := hash_l s hs s.size (s.size + 1) 0 2166136261 (by omega) (by omega) (by omega)
  rw [List.drop_zero] at this
  exact this
theorem slot_f (s : ByteArray) (hs : s.size ≤ 9223372036854775807) : ring_Slot.f (s.size + 1) s = some ((place s % 16 : Nat) : Int) := by
  unfold ring_Slot.f
  rw [hash_f s hs, Option.bind_some]
  have := place_lt s
  have h1 : Int.tmod ((place s : Nat) : Int) 16 = ((place s % 16 : Nat) : Int) := by rw [Int.tmod_eq_emod_of_nonneg (by omega)]; omega
  rw [h1]
  refine congrArg some ?_
  unfold wrap64
  omega

theorem shift_l (h n : Nat) (hh : h < 4294967296) (hn : n ≤ 100) : ∀ (d k i low : Nat), i + d = n → d < k → low < 4294967296 → porterref11_shift.l0 k (h : Int) (n : Int) (low : Int) (i : Int) = some ((h ^^^ (low / 2 ^ d) : Nat) : Int)
  | 0, k + 1, i, low, hi, _, hl => by
    simp only [porterref11_shift.l0]
    rw [if_neg (by omega), x64 hh hl]
    simp
  | d + 1, k + 1, i, low, hi, hk, hl => by
    simp only [porterref11_shift.l0]
    have e1 : Int.tdiv (low : Int) 2 = ((low / 2 : Nat) : Int) := by rw [Int.tdiv_eq_ediv_of_nonneg (by omega)]; omega
    rw [if_pos (by omega), e1, wrap64u _ (by omega) (by omega), wrap_i (by omega), shift_l h n hh hn d k (i + 1) (low / 2) (by omega) (by omega) (by omega), Nat.div_div_eq_div_mul, Nat.pow_succ', ]
theorem shift_f (h n k : Nat) (hh : h < 4294967296) (hn : n ≤ 100) (hk : n < k) : porterref11_shift.f k (h : Int) (n : Int) = some ((h ^^^ (h / 2 ^ n) : Nat) : Int) :=
  shift_l h n hh hn n k 0 h (by omega) hk hh

theorem tmod_u {a : Nat} (h : a < 18446744073709551616) : Int.tmod (IntKind.u64.wrap (a : Int)) 4294967296 = ((a % 4294967296 : Nat) : Int) := by
  rw [wrap64u _ (by omega) (by omega), Int.tmod_eq_emod_of_nonneg (by omega)]
  omega
theorem hfin_ref (h k : Nat) (hh : h < 4294967296) (hk : 20 ≤ k) :
    ((porterref11_shift.f k (h : Int) 16).bind fun t122 => ((porterref11_shift.f k (Int.tmod (IntKind.u64.wrap (t122 * 2246822507)) 4294967296) 13).bind fun t123 => ((porterref11_shift.f k (Int.tmod (IntKind.u64.wrap (t123 * 3266489909)) 4294967296) 16).bind fun t124 => (some t124)))) = some ((hfin h : Nat) : Int) := by
  have m1 : hmix1 h < 4294967296 := Nat.mod_lt _ (by decide)
  have m2 : hmix2 (hmix1 h) < 4294967296 := Nat.mod_lt _ (by decide)
  have s1 := shift_f h 16 k hh (by omega) (by omega)
  have s2 := shift_f (hmix1 h) 13 k m1 (by omega) (by omega)
  have s3 := shift_f (hmix2 (hmix1 h)) 16 k m2 (by omega) (by omega)
  have x1 := xor32 hh (Nat.lt_of_le_of_lt (Nat.div_le_self h 65536) hh)
  have x2 := xor32 m1 (Nat.lt_of_le_of_lt (Nat.div_le_self (hmix1 h) 8192) m1)
  have e1 : Int.tmod (IntKind.u64.wrap (((h ^^^ (h / 65536) : Nat) : Int) * 2246822507)) 4294967296 = ((hmix1 h : Nat) : Int) := by
    rw [show ((h ^^^ (h / 65536) : Nat) : Int) * 2246822507 = (((h ^^^ (h / 65536)) * 2246822507 : Nat) : Int) by omega, tmod_u (by omega)]
    rfl
  have e2 : Int.tmod (IntKind.u64.wrap (((hmix1 h ^^^ (hmix1 h / 8192) : Nat) : Int) * 3266489909)) 4294967296 = ((hmix2 (hmix1 h) : Nat) : Int) := by
    rw [show ((hmix1 h ^^^ (hmix1 h / 8192) : Nat) : Int) * 3266489909 = (((hmix1 h ^^^ (hmix1 h / 8192)) * 3266489909 : Nat) : Int) by omega, tmod_u (by omega)]
    rfl
  rw [show porterref11_shift.f k (h : Int) 16 = some ((h ^^^ (h / 65536) : Nat) : Int) from s1, Option.bind_some, e1,
    show porterref11_shift.f k ((hmix1 h : Nat) : Int) 13 = some ((hmix1 h ^^^ (hmix1 h / 8192) : Nat) : Int) from s2, Option.bind_some, e2,
    show porterref11_shift.f k ((hmix2 (hmix1 h) : Nat) : Int) 16 = some ((hmix2 (hmix1 h) ^^^ (hmix2 (hmix1 h) / 65536) : Nat) : Int) from s3, Option.bind_some]
  rfl
theorem refhash_l (s : ByteArray) (hs : s.size ≤ 9223372036854775807) : ∀ (d k i h : Nat), i + d = s.size → d + 20 < k → h < 4294967296 → porterref11_Hash.l0 k s (h : Int) (i : Int) = some ((hfin (hfold h (s.data.toList.drop i)) : Nat) : Int)
  | 0, k + 1, i, h, hi, hk, hh => by
    simp only [porterref11_Hash.l0]
    rw [if_neg (by omega), hfin_ref h k hh (by omega), List.drop_eq_nil_of_le (by simp; omega)]
    rfl
  | d + 1, k + 1, i, h, hi, hk, hh => by
    have hl : i < s.data.toList.length := by simp; omega
    obtain ⟨c, hc⟩ : ∃ c, s.data.toList[i]? = some c := ⟨_, List.getElem?_eq_getElem hl⟩
    have hd : s.data.toList.drop i = c :: s.data.toList.drop (i + 1) := by
      rw [List.drop_eq_getElem_cons hl]
      congr 1
      rw [List.getElem?_eq_getElem hl] at hc
      exact Option.some.inj hc
    have hcl : c.toNat < 256 := c.toNat_lt
    have x1 := xor32 hh (show c.toNat < 4294967296 by omega)
    have e1 : Int.tmod (IntKind.u64.wrap (((h ^^^ c.toNat : Nat) : Int) * 16777619)) 4294967296 = ((hstep h c : Nat) : Int) := by
      rw [show ((h ^^^ c.toNat : Nat) : Int) * 16777619 = (((h ^^^ c.toNat) * 16777619 : Nat) : Int) by omega, tmod_u (by omega)]
      rfl
    simp only [porterref11_Hash.l0]
    rw [if_pos (by omega), if_pos (by omega), bt_at hc, wrap64u (c.toNat : Int) (by omega) (by omega), x64 hh (by omega), e1, wrap_i (by omega), refhash_l s hs d k (i + 1) (hstep h c) (by omega) (by omega) (hstep_lt h c), hd]
    rfl
theorem refhash_f (s : ByteArray) (hs : s.size ≤ 9223372036854775807) : porterref11_Hash.f (s.size + 21) s = some ((place s : Nat) : Int) := by
  have := refhash_l s hs s.size (s.size + 21) 0 2166136261 (by omega) (by omega) (by omega)
  rw [List.drop_zero] at this
  exact this
end Go.Proofs.YtjccngahpafcaaaDoor.RingF
