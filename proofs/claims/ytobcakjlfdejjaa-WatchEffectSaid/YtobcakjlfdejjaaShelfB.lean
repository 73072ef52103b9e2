/-
  DERIVED: THE SHELF's CONTRACTS AT THIS DUMP, IN PLAIN WORDS (tools/lay-plain.mjs out of 'YtobcakjlfdejjaaShelfB.lean', which tools/lay-shelf.mjs wrote): THE SAME DECLARATIONS UNDER THE SAME NAMES: 'import', 'namespace', 'open', 'def', 'theorem' AND NOTHING ELSE: no command of the shelf's: FOR A HAND-IN. Each laying: the table of numbers ('.._ren') and one theorem, a field a fact of the dump's own or the kernel's comparison; each contract: ONE APPLICATION.
-/
import Derived.Shelf.Small.Bits
import Derived.Shelf.Small.Strs
import Derived.Shelf.Strconv.Itoa0
import Derived.Ground.SlgnProg
import Derived.Shelf.SlicesG.SearchI
import Derived.Ground.SlgcProg
import Derived.Shelf.SlicesG.Cmp
import Derived.Shelf.SlGeneric
import Derived.Shelf.SlSortCmp.NoneTotal
import Derived.Ground.SlsfProg
import Derived.Test.YtobcakjlfdejjaaProg
namespace Go.Proofs
open Go.Shelf
def Try.laysInsChg_ren : Go.Shelf.Ren := ⟨fun | 20 => 56 | n => n, fun | 24 => 43 | 22 => 25 | 3 => 3 | 25 => 62 | 4 => 4 | 0 => 0 | n => n, fun | n => n⟩
theorem Try.laysInsChg : Go.Proofs.SlLaysF0.n20 Try.prog Try.laysInsChg_ren := {
  mixed := by kernel_rfl
  f20 := ⟨Try.f56.name, by decide, Try.func56.trans (congrArg some (by kernel_rfl))⟩
  t0 := Try.underlying0
  a0 := Try.isAgg0
  z0 := Try.sizeOf0
  v0 := Try.zeroValue0
  t3 := Try.underlying3
  a3 := Try.isAgg3
  z3 := Try.sizeOf3
  v3 := Try.zeroValue3
  t4 := Try.underlying4
  a4 := Try.isAgg4
  z4 := Try.sizeOf4
  v4 := Try.zeroValue4
  t22 := Try.underlying25
  a22 := Try.isAgg25
  z22 := Try.sizeOf25
  v22 := Try.zeroValue25
  t25 := Try.underlying62
  a25 := Try.isAgg62
  z25 := Try.sizeOf62
  v25 := Try.zeroValue62 }
theorem Try.insChg_laid : SlLaysF0.n20 Try.prog Try.laysInsChg_ren := Try.laysInsChg
def Try.laysInsRow_ren : Go.Shelf.Ren := ⟨fun | 20 => 69 | n => n, fun | 24 => 39 | 22 => 22 | 3 => 3 | 25 => 74 | 4 => 4 | 0 => 0 | n => n, fun | n => n⟩
theorem Try.laysInsRow : Go.Proofs.SlLaysF0.n20 Try.prog Try.laysInsRow_ren := {
  mixed := by kernel_rfl
  f20 := ⟨Try.f69.name, by decide, Try.func69.trans (congrArg some (by kernel_rfl))⟩
  t0 := Try.underlying0
  a0 := Try.isAgg0
  z0 := Try.sizeOf0
  v0 := Try.zeroValue0
  t3 := Try.underlying3
  a3 := Try.isAgg3
  z3 := Try.sizeOf3
  v3 := Try.zeroValue3
  t4 := Try.underlying4
  a4 := Try.isAgg4
  z4 := Try.sizeOf4
  v4 := Try.zeroValue4
  t22 := Try.underlying22
  a22 := Try.isAgg22
  z22 := Try.sizeOf22
  v22 := Try.zeroValue22
  t25 := Try.underlying74
  a25 := Try.isAgg74
  z25 := Try.sizeOf74
  v25 := Try.zeroValue74 }
theorem Try.insRow_laid : SlLaysF0.n20 Try.prog Try.laysInsRow_ren := Try.laysInsRow
end Go.Proofs
