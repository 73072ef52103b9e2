/- WatchNet, where what came in is of bulk at most 1048576: what leads from some tuples to others does so in a store, and n: part 26 of 32: what it leans on. -/
import Derived.Test.YtojjnfhgldjgbaaGreatDoorNtA
import Derived.Test.YtojjnfhgldjgbaaGreatDoorNtB
import Derived.Test.YtojjnfhgldjgbaaGreatDoorNtC
import Derived.Test.YtojjnfhgldjgbaaGreatDoorNtD
import Derived.Test.YtojjnfhgldjgbaaGreatDoorNtE
import Derived.Test.YtojjnfhgldjgbaaGreatDoorNtK
import Derived.Test.YtojjnfhgldjgbaaGreatDoorNtL
import Derived.Test.YtojjnfhgldjgbaaGreatDoorNtM
import Derived.Test.YtojjnfhgldjgbaaGreatDoorNtN
import Derived.Test.YtojjnfhgldjgbaaGreatDoorNtO
import Derived.Test.YtojjnfhgldjgbaaGreatDoorNtP
import Derived.Test.YtojjnfhgldjgbaaGreatDoorNtQ
import Derived.Test.YtojjnfhgldjgbaaGreatDoorNtR
import Derived.Test.YtojjnfhgldjgbaaGreatDoorNtS
import Derived.Test.YtojjnfhgldjgbaaGreatDoorNtT
import Derived.Test.YtojjnfhgldjgbaaGreatDoorNtU
import Derived.Test.YtojjnfhgldjgbaaGreatDoorNtV
import Derived.Test.YtojjnfhgldjgbaaGreatDoorNtW
import Derived.Test.YtojjnfhgldjgbaaGreatDoorNtX
section
set_option linter.unusedVariables false
set_option linter.unusedSimpArgs false
namespace Go.Proofs.YtojjnfhgldjgbaaGreatDoor.Watch
open Go.RowKit Go.Por Go.Sort

structure Ris (s : Int × List Chg) (n : Nat) : Prop where
  low : 0 ≤ s.1
  pair : s.2.Pairwise (fun x y => x.1 < y.1)
  each : ∀ c ∈ s.2, 0 < c.1 ∧ c.1 ≤ 1125899906842624
  under : ∀ c ∈ s.2, c.1 ≤ s.1
  len : s.2.length ≤ n
end Go.Proofs.YtojjnfhgldjgbaaGreatDoor.Watch
end
