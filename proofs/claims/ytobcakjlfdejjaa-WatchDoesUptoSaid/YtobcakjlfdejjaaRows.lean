/-
  No cell of these rows narrows 'for every input' (looked for: loops, veiled, ifaces, maps, wideKeys, modest, calm, conditions, laid).
  DERIVED. THE GIVEN ROWS OF THIS SEAT. 5 by the template 'for every input the law returns true; each argument reads behind the call as it read before'; 0 by the template 'total and deterministic' (their statements: YtobcakjlfdejjaaTotals.lean).
  GIVEN WITH THE SEED: the statements are not yours to turn. If you find one false, say at which input.
  Laid BY PROGRAM, IN A SANDBOX (cutbox-rows.mjs): the forced cells as the released guide's own fill.sh prints them over the translation 2374fd67aefae0d7… (all of the seat's roots in one cut). By AI agents, Wed Nov 11 2026. No macro, syntax, notation, axiom, sorry.
-/
import Derived.Test.YtobcakjlfdejjaaChecked
import GoSem.Claim
import GoSem.ClaimJoined
import GoSem.ClaimMapViews
import Derived.JoinedTies
import Derived.KernelRfl
namespace Go.Proofs.Ytobcakjlfdejjaa
/- THE CELL 'sum', in the pinned program and in every row, IS THE sha256 OF THE DUMP (.gsa) THAT YtobcakjlfdejjaaProg.lean LOADS. Nothing in Lean hashes anything: it is a label: what it is worth is what the hold of that sum in a sandbox is worth. -/
noncomputable def Try.pinned : Pinned := { name := "ytobcakjlfdejjaa", sum := "2374fd67aefae0d7ad3356f15fcdd505656610f0c2892d4fc6a4b1111fe6cf38", checked := Try.checked }
namespace Rows
def none {H : Type} : Left H := { results := [], args := [] }

/-- 'porterlaw22.WatchTells': WHATEVER THE INPUT: true; the input reads as it did. -/
def watchTellsSpec : ChangeSpec := { name := "watchTells", fn := fun _ => fun
  | [d1, d2, d3] => { results := [.lit (.bool true)], args := [d1, d2, d3] }
  | _ => none }
def watchTellsRow : OpenClaim := { program := "ytobcakjlfdejjaa", sum := "2374fd67aefae0d7ad3356f15fcdd505656610f0c2892d4fc6a4b1111fe6cf38", func := "porter/porterlaw22.WatchTells", spec := "watchTells", inPlace := ["internal/bytealg.abigen_runtime_cmpstring"], unfollowed := true, recurses := true, plainKeys := false, apart := false }
def WatchTellsSaid : Prop := watchTellsRow.holds Try.pinned (OpenSpec.ofChange watchTellsSpec)

/-- ITS FALSE NEIGHBOUR: 'it returns false'. Refute it at one input. -/
def watchTellsWrong : ChangeSpec := { name := "watchTells", fn := fun _ => fun
  | [d1, d2, d3] => { results := [.lit (.bool false)], args := [d1, d2, d3] }
  | _ => none }
def WatchTellsWrongFalsely : Prop := watchTellsRow.holds Try.pinned (OpenSpec.ofChange watchTellsWrong)

/-- 'porterlaw22.WatchKeeps': WHATEVER THE INPUT: true; the input reads as it did. -/
def watchKeepsSpec : ChangeSpec := { name := "watchKeeps", fn := fun _ => fun
  | [d1, d2] => { results := [.lit (.bool true)], args := [d1, d2] }
  | _ => none }
def watchKeepsRow : OpenClaim := { program := "ytobcakjlfdejjaa", sum := "2374fd67aefae0d7ad3356f15fcdd505656610f0c2892d4fc6a4b1111fe6cf38", func := "porter/porterlaw22.WatchKeeps", spec := "watchKeeps", inPlace := ["internal/bytealg.abigen_runtime_cmpstring"], unfollowed := true, recurses := true, plainKeys := false, apart := false }
def WatchKeepsSaid : Prop := watchKeepsRow.holds Try.pinned (OpenSpec.ofChange watchKeepsSpec)

/-- ITS FALSE NEIGHBOUR: 'it returns false'. Refute it at one input. -/
def watchKeepsWrong : ChangeSpec := { name := "watchKeeps", fn := fun _ => fun
  | [d1, d2] => { results := [.lit (.bool false)], args := [d1, d2] }
  | _ => none }
def WatchKeepsWrongFalsely : Prop := watchKeepsRow.holds Try.pinned (OpenSpec.ofChange watchKeepsWrong)

/-- 'porterlaw22.WatchEffect': WHATEVER THE INPUT: true; the input reads as it did. -/
def watchEffectSpec : ChangeSpec := { name := "watchEffect", fn := fun _ => fun
  | [d] => { results := [.lit (.bool true)], args := [d] }
  | _ => none }
def watchEffectRow : OpenClaim := { program := "ytobcakjlfdejjaa", sum := "2374fd67aefae0d7ad3356f15fcdd505656610f0c2892d4fc6a4b1111fe6cf38", func := "porter/porterlaw22.WatchEffect", spec := "watchEffect", inPlace := ["internal/bytealg.abigen_runtime_cmpstring"], unfollowed := true, recurses := true, plainKeys := false, apart := false }
def WatchEffectSaid : Prop := watchEffectRow.holds Try.pinned (OpenSpec.ofChange watchEffectSpec)

/-- ITS FALSE NEIGHBOUR: 'it returns false'. Refute it at one input. -/
def watchEffectWrong : ChangeSpec := { name := "watchEffect", fn := fun _ => fun
  | [d] => { results := [.lit (.bool false)], args := [d] }
  | _ => none }
def WatchEffectWrongFalsely : Prop := watchEffectRow.holds Try.pinned (OpenSpec.ofChange watchEffectWrong)

/-- 'porterlaw22.WatchDoes': WHATEVER THE INPUT: true; the input reads as it did. -/
def watchDoesSpec : ChangeSpec := { name := "watchDoes", fn := fun _ => fun
  | [d1, d2, d3] => { results := [.lit (.bool true)], args := [d1, d2, d3] }
  | _ => none }
def watchDoesRow : OpenClaim := { program := "ytobcakjlfdejjaa", sum := "2374fd67aefae0d7ad3356f15fcdd505656610f0c2892d4fc6a4b1111fe6cf38", func := "porter/porterlaw22.WatchDoes", spec := "watchDoes", inPlace := ["internal/bytealg.abigen_runtime_cmpstring"], unfollowed := true, recurses := true, plainKeys := false, apart := false }
def WatchDoesSaid : Prop := watchDoesRow.holds Try.pinned (OpenSpec.ofChange watchDoesSpec)

/-- ITS FALSE NEIGHBOUR: 'it returns false'. Refute it at one input. -/
def watchDoesWrong : ChangeSpec := { name := "watchDoes", fn := fun _ => fun
  | [d1, d2, d3] => { results := [.lit (.bool false)], args := [d1, d2, d3] }
  | _ => none }
def WatchDoesWrongFalsely : Prop := watchDoesRow.holds Try.pinned (OpenSpec.ofChange watchDoesWrong)

/-- 'porterlaw22.WatchEmpty': WHATEVER THE INPUT: true; the input reads as it did. -/
def watchEmptySpec : ChangeSpec := { name := "watchEmpty", fn := fun _ => fun
  | [d1, d2, d3] => { results := [.lit (.bool true)], args := [d1, d2, d3] }
  | _ => none }
def watchEmptyRow : OpenClaim := { program := "ytobcakjlfdejjaa", sum := "2374fd67aefae0d7ad3356f15fcdd505656610f0c2892d4fc6a4b1111fe6cf38", func := "porter/porterlaw22.WatchEmpty", spec := "watchEmpty", inPlace := ["internal/bytealg.abigen_runtime_cmpstring"], unfollowed := true, recurses := true, plainKeys := false, apart := false }
def WatchEmptySaid : Prop := watchEmptyRow.holds Try.pinned (OpenSpec.ofChange watchEmptySpec)

/-- ITS FALSE NEIGHBOUR: 'it returns false'. Refute it at one input. -/
def watchEmptyWrong : ChangeSpec := { name := "watchEmpty", fn := fun _ => fun
  | [d1, d2, d3] => { results := [.lit (.bool false)], args := [d1, d2, d3] }
  | _ => none }
def WatchEmptyWrongFalsely : Prop := watchEmptyRow.holds Try.pinned (OpenSpec.ofChange watchEmptyWrong)

/- THE SECOND FORM. 'bulk': how many values and letters a reading holds, each counted each time it is reached (what is shared counts as often as it is met; a slice's spare places count too). A statement '..UptoSaid' is the law's where the arguments, and the package variables that the reading takes, are together of bulk at most 1048576: NARROWER than '..Said'. Prove '..Said' where nothing that the law and all that it calls make is longer than what came in: it says more and counts as full. Else prove '..UptoSaid'. A law counts once. -/
mutual
def uptoBulk {H : Type} : DataW H → Nat
  | .lit (.string bytes) => bytes.length + 1
  | .lit _ => 1
  | .nil => 1
  | .ptr d => uptoBulk d + 1
  | .slice elems spare => uptoBulkAll elems + uptoBulkAll spare + 1
  | .agg parts => uptoBulkAll parts + 1
  | .iface _ d => uptoBulk d + 1
  | .map entries => uptoBulkEntries entries + 1
  | .held _ => 1
def uptoBulkAll {H : Type} : List (DataW H) → Nat
  | [] => 0
  | d :: r => uptoBulk d + uptoBulkAll r
def uptoBulkEntries {H : Type} : List (Lit × DataW H) → Nat
  | [] => 0
  | x :: r => uptoBulkEntry x + uptoBulkEntries r
def uptoBulkEntry {H : Type} : Lit × DataW H → Nat
  | (.string bytes, d) => bytes.length + uptoBulk d + 1
  | (_, d) => uptoBulk d + 1
 end
def uptoSmall : (H : Type) → List (DataW H) → Bool := fun _ ds => decide (uptoBulkAll ds ≤ 1048576)
def OpenSpec.upto (s : _root_.Go.ChangeSpec) : _root_.Go.OpenSpec := { _root_.Go.OpenSpec.ofChange s with cond := some uptoSmall }

/-- 'porterlaw22.WatchTells', WHERE WHAT IT READS IS OF BULK AT MOST 1048576: true; the input reads as it did. -/
def watchTellsUptoRow : OpenClaim := { program := "ytobcakjlfdejjaa", sum := "2374fd67aefae0d7ad3356f15fcdd505656610f0c2892d4fc6a4b1111fe6cf38", func := "porter/porterlaw22.WatchTells", spec := "watchTells", inPlace := ["internal/bytealg.abigen_runtime_cmpstring"], unfollowed := true, recurses := true, plainKeys := false, apart := false, narrowed := true }
def WatchTellsUptoSaid : Prop := watchTellsUptoRow.holds Try.pinned (OpenSpec.upto watchTellsSpec)

/-- 'porterlaw22.WatchKeeps', WHERE WHAT IT READS IS OF BULK AT MOST 1048576: true; the input reads as it did. -/
def watchKeepsUptoRow : OpenClaim := { program := "ytobcakjlfdejjaa", sum := "2374fd67aefae0d7ad3356f15fcdd505656610f0c2892d4fc6a4b1111fe6cf38", func := "porter/porterlaw22.WatchKeeps", spec := "watchKeeps", inPlace := ["internal/bytealg.abigen_runtime_cmpstring"], unfollowed := true, recurses := true, plainKeys := false, apart := false, narrowed := true }
def WatchKeepsUptoSaid : Prop := watchKeepsUptoRow.holds Try.pinned (OpenSpec.upto watchKeepsSpec)

/-- 'porterlaw22.WatchEffect', WHERE WHAT IT READS IS OF BULK AT MOST 1048576: true; the input reads as it did. -/
def watchEffectUptoRow : OpenClaim := { program := "ytobcakjlfdejjaa", sum := "2374fd67aefae0d7ad3356f15fcdd505656610f0c2892d4fc6a4b1111fe6cf38", func := "porter/porterlaw22.WatchEffect", spec := "watchEffect", inPlace := ["internal/bytealg.abigen_runtime_cmpstring"], unfollowed := true, recurses := true, plainKeys := false, apart := false, narrowed := true }
def WatchEffectUptoSaid : Prop := watchEffectUptoRow.holds Try.pinned (OpenSpec.upto watchEffectSpec)

/-- 'porterlaw22.WatchDoes', WHERE WHAT IT READS IS OF BULK AT MOST 1048576: true; the input reads as it did. -/
def watchDoesUptoRow : OpenClaim := { program := "ytobcakjlfdejjaa", sum := "2374fd67aefae0d7ad3356f15fcdd505656610f0c2892d4fc6a4b1111fe6cf38", func := "porter/porterlaw22.WatchDoes", spec := "watchDoes", inPlace := ["internal/bytealg.abigen_runtime_cmpstring"], unfollowed := true, recurses := true, plainKeys := false, apart := false, narrowed := true }
def WatchDoesUptoSaid : Prop := watchDoesUptoRow.holds Try.pinned (OpenSpec.upto watchDoesSpec)

/-- 'porterlaw22.WatchEmpty', WHERE WHAT IT READS IS OF BULK AT MOST 1048576: true; the input reads as it did. -/
def watchEmptyUptoRow : OpenClaim := { program := "ytobcakjlfdejjaa", sum := "2374fd67aefae0d7ad3356f15fcdd505656610f0c2892d4fc6a4b1111fe6cf38", func := "porter/porterlaw22.WatchEmpty", spec := "watchEmpty", inPlace := ["internal/bytealg.abigen_runtime_cmpstring"], unfollowed := true, recurses := true, plainKeys := false, apart := false, narrowed := true }
def WatchEmptyUptoSaid : Prop := watchEmptyUptoRow.holds Try.pinned (OpenSpec.upto watchEmptySpec)

end Rows
end Go.Proofs.Ytobcakjlfdejjaa
