/- The law WatchDoes of the watch, where what came in is of bulk at most 1048576: raw changes done to raw tuples, the rows : part 22 of 38: what it leans on. -/
import Derived.Test.YtobcakjlfdejjaaDoA
import Derived.Test.YtobcakjlfdejjaaDoB
import Derived.Test.YtobcakjlfdejjaaDoC
import Derived.Test.YtobcakjlfdejjaaDoD
import Derived.Test.YtobcakjlfdejjaaDoE
import Derived.Test.YtobcakjlfdejjaaDoF
import Derived.Test.YtobcakjlfdejjaaDoG
import Derived.Test.YtobcakjlfdejjaaDoH
import Derived.Test.YtobcakjlfdejjaaDoI
import Derived.Test.YtobcakjlfdejjaaDoJ
import Derived.Test.YtobcakjlfdejjaaDoK
import Derived.Test.YtobcakjlfdejjaaDoL
import Derived.Test.YtobcakjlfdejjaaDoM
import Derived.Test.YtobcakjlfdejjaaDoN
import Derived.Test.YtobcakjlfdejjaaDoO
import Derived.Test.YtobcakjlfdejjaaDoP
import Derived.Test.YtobcakjlfdejjaaDoQ
import Derived.Test.YtobcakjlfdejjaaDoR
import Derived.Test.YtobcakjlfdejjaaDoS
import Derived.Test.YtobcakjlfdejjaaDoT
import Derived.Test.YtobcakjlfdejjaaDoU
section
set_option linter.unusedVariables false
set_option linter.unusedSimpArgs false
namespace Go.Proofs.Ytobcakjlfdejjaa.Watch
open Go.RowKit Go.Por Go.Sort

theorem tle_trans {x y z : Tup} (h1 : tle x y = true) (h2 : tle y z = true) : tle x z = true := by
  unfold tle at *
  simp only [Bool.not_eq_true'] at *
  exact tupSwo.ntrans _ _ _ h2 h1
theorem tle_total (x y : Tup) : (tle x y || tle y x) = true := by
  unfold tle
  cases h1 : ltOf tcmp y x with
  | false => rfl
  | true => rw [Stab.SWO.asymm' tupSwo h1]; rfl
/-- A list of tuples in order, each once. -/
def Rising (l : List Tup) : Prop := l.Pairwise (fun x y => tle x y = true ∧ x ≠ y)
theorem Rising.sorted {l : List Tup} (h : Rising l) : l.Pairwise (fun x y => tle x y = true) := List.Pairwise.imp (R := fun x y => tle x y = true ∧ x ≠ y) (S := fun x y => tle x y = true) (fun h => h.1) h
end Go.Proofs.Ytobcakjlfdejjaa.Watch
end
