/- The law WatchDoes of the watch, where what came in is of bulk at most 1048576: raw changes done to raw tuples, the rows : part 30 of 38: what it leans on. -/
import Derived.Test.YtobcakjlfdejjaaDoA
import Derived.Test.YtobcakjlfdejjaaDoB
import Derived.Test.YtobcakjlfdejjaaDoC
import Derived.Test.YtobcakjlfdejjaaDoD
import Derived.Test.YtobcakjlfdejjaaDoE
import Derived.Test.YtobcakjlfdejjaaDoF
import Derived.Test.YtobcakjlfdejjaaDoG
import Derived.Test.YtobcakjlfdejjaaDoH
import Derived.Test.YtobcakjlfdejjaaDoI
import Derived.Test.YtobcakjlfdejjaaDoJ
import Derived.Test.YtobcakjlfdejjaaDoK
import Derived.Test.YtobcakjlfdejjaaDoL
import Derived.Test.YtobcakjlfdejjaaDoM
import Derived.Test.YtobcakjlfdejjaaDoN
import Derived.Test.YtobcakjlfdejjaaDoO
import Derived.Test.YtobcakjlfdejjaaDoP
import Derived.Test.YtobcakjlfdejjaaDoQ
import Derived.Test.YtobcakjlfdejjaaDoR
import Derived.Test.YtobcakjlfdejjaaDoS
import Derived.Test.YtobcakjlfdejjaaDoT
import Derived.Test.YtobcakjlfdejjaaDoU
import Derived.Test.YtobcakjlfdejjaaDoV
import Derived.Test.YtobcakjlfdejjaaDoW
import Derived.Test.YtobcakjlfdejjaaDoX
import Derived.Test.YtobcakjlfdejjaaDoY
import Derived.Test.YtobcakjlfdejjaaDoZ
import Derived.Test.YtobcakjlfdejjaaDoAA
import Derived.Test.YtobcakjlfdejjaaDoAB
import Derived.Test.YtobcakjlfdejjaaDoAC
section
set_option linter.unusedVariables false
set_option linter.unusedSimpArgs false
namespace Go.Proofs.Ytobcakjlfdejjaa.PWatchDoesR
open Go.RowKit Go.Por Go.Sort Go.Proofs.Ytobcakjlfdejjaa.Watch Go.Proofs.YtobcakjlfdejjaaW.PrintWords Go.Proofs.Ytobcakjlfdejjaa.PWatchDoes

abbrev SpM := S41
abbrev SpC := S43
abbrev SpD := S59
abbrev SpR := S39
def spC (x : Chg) : SpC := ⟨x.1, ⟨x.2.1, spT x.2.2⟩⟩
def spD (x : Chg) : SpD := ⟨x.1, x.2.1, spT x.2.2⟩
def spR (x : RowT) : SpR := ⟨spT x.1, x.2.1, x.2.2⟩
def spM (x : Mut) : SpM := ⟨x.1, spT x.2⟩
theorem rdC {l : List Chg} {t : Nat} {x : Chg} (hx : l[t]? = some x) : rd_T43 (l.map spC) (t : Int) = spC x := by
  unfold rd_T43
  rw [Int.toNat_natCast, List.getD_eq_getElem?_getD, List.getElem?_map, hx]
  rfl
theorem rdD {l : List Chg} {t : Nat} {x : Chg} (hx : l[t]? = some x) : rd_T59 (l.map spD) (t : Int) = spD x := by
  unfold rd_T59
  rw [Int.toNat_natCast, List.getD_eq_getElem?_getD, List.getElem?_map, hx]
  rfl
theorem rdR {l : List RowT} {t : Nat} {x : RowT} (hx : l[t]? = some x) : rd_T39 (l.map spR) (t : Int) = spR x := by
  unfold rd_T39
  rw [Int.toNat_natCast, List.getD_eq_getElem?_getD, List.getElem?_map, hx]
  rfl
theorem plain_l (l : List Chg) (hl : l.length < 2199023255552) : ∀ (d i k : Nat), i + d = l.length → d < k →
    porterlaw22_plain.l0 k ((l.take i).map spD) (l.map spC) (l.length : Int) (i : Int) = some (l.map spD)
  | 0, i, k + 1, hi, _ => by
    rw [porterlaw22_plain.l0, if_neg (by omega), List.take_of_length_le (by omega)]
  | d + 1, i, k + 1, hi, hk => by
    obtain ⟨x, hx⟩ : ∃ x, l[i]? = some x := ⟨_, List.getElem?_eq_getElem (by omega)⟩
    have ih := plain_l l hl d (i + 1) k (by omega) (by omega)
    rw [take_at hx, List.map_append] at ih
    rw [porterlaw22_plain.l0, if_pos (by omega), if_pos (by omega), if_pos (by rw [List.length_map]; omega), if_pos (by rw [List.length_map, List.length_take]; omega), rdC hx, wrap_succ (by omega)]
    exact ih
theorem plain_f (l : List Chg) (hl : l.length < 2199023255552) {k : Nat} (hk : l.length < k) : porterlaw22_plain.f k (l.map spC) = some (l.map spD) := by
  have h := plain_l l hl l.length 0 k (by omega) hk
  rw [List.take_zero, List.map_nil] at h
  unfold porterlaw22_plain.f
  rw [List.length_map]
  exact h
end Go.Proofs.Ytobcakjlfdejjaa.PWatchDoesR
end
