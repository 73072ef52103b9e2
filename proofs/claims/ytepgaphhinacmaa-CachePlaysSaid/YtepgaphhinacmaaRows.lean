/-
  No cell of these rows narrows 'for every input' (looked for: loops, veiled, ifaces, maps, wideKeys, modest, calm, conditions, laid).
  DERIVED. THE GIVEN ROWS OF THIS SEAT. 7 by the template 'for every input the law returns true; each argument reads behind the call as it read before'; 0 by the template 'total and deterministic' (their statements: YtepgaphhinacmaaTotals.lean).
  GIVEN WITH THE SEED: the statements are not yours to turn. If you find one false, say at which input.
  Laid BY PROGRAM, IN A SANDBOX (cutbox-rows.mjs): the forced cells as the released guide's own fill.sh prints them over the translation eb7ecfe767acdbb2… (all of the seat's roots in one cut). By AI agents, Wed Nov 11 2026. No macro, syntax, notation, axiom, sorry.
-/
import Derived.Test.YtepgaphhinacmaaChecked
import GoSem.Claim
import GoSem.ClaimJoined
import GoSem.ClaimMapViews
import Derived.JoinedTies
import Derived.KernelRfl
namespace Go.Proofs.Ytepgaphhinacmaa
/- THE CELL 'sum', in the pinned program and in every row, IS THE sha256 OF THE DUMP (.gsa) THAT YtepgaphhinacmaaProg.lean LOADS. Nothing in Lean hashes anything: it is a label: what it is worth is what the hold of that sum in a sandbox is worth. -/
noncomputable def Try.pinned : Pinned := { name := "ytepgaphhinacmaa", sum := "eb7ecfe767acdbb230089a52bbd935fda2dd02d1f76d14395ecf959e0eb8ac27", checked := Try.checked }
namespace Rows
def none {H : Type} : Left H := { results := [], args := [] }

/-- 'porterlaw10.CacheTrue': WHATEVER THE INPUT: true; the input reads as it did. -/
def cacheTrueSpec : ChangeSpec := { name := "cacheTrue", fn := fun _ => fun
  | [d1, d2] => { results := [.lit (.bool true)], args := [d1, d2] }
  | _ => none }
def cacheTrueRow : OpenClaim := { program := "ytepgaphhinacmaa", sum := "eb7ecfe767acdbb230089a52bbd935fda2dd02d1f76d14395ecf959e0eb8ac27", func := "porter/porterlaw10.CacheTrue", spec := "cacheTrue", apart := false }
def CacheTrueSaid : Prop := cacheTrueRow.holds Try.pinned (OpenSpec.ofChange cacheTrueSpec)

/-- ITS FALSE NEIGHBOUR: 'it returns false'. Refute it at one input. -/
def cacheTrueWrong : ChangeSpec := { name := "cacheTrue", fn := fun _ => fun
  | [d1, d2] => { results := [.lit (.bool false)], args := [d1, d2] }
  | _ => none }
def CacheTrueWrongFalsely : Prop := cacheTrueRow.holds Try.pinned (OpenSpec.ofChange cacheTrueWrong)

/-- 'porterlaw10.CacheCuts': WHATEVER THE INPUT: true; the input reads as it did. -/
def cacheCutsSpec : ChangeSpec := { name := "cacheCuts", fn := fun _ => fun
  | [d1, d2, d3] => { results := [.lit (.bool true)], args := [d1, d2, d3] }
  | _ => none }
def cacheCutsRow : OpenClaim := { program := "ytepgaphhinacmaa", sum := "eb7ecfe767acdbb230089a52bbd935fda2dd02d1f76d14395ecf959e0eb8ac27", func := "porter/porterlaw10.CacheCuts", spec := "cacheCuts", unfollowed := true, recurses := true, apart := false }
def CacheCutsSaid : Prop := cacheCutsRow.holds Try.pinned (OpenSpec.ofChange cacheCutsSpec)

/-- ITS FALSE NEIGHBOUR: 'it returns false'. Refute it at one input. -/
def cacheCutsWrong : ChangeSpec := { name := "cacheCuts", fn := fun _ => fun
  | [d1, d2, d3] => { results := [.lit (.bool false)], args := [d1, d2, d3] }
  | _ => none }
def CacheCutsWrongFalsely : Prop := cacheCutsRow.holds Try.pinned (OpenSpec.ofChange cacheCutsWrong)

/-- 'porterlaw10.CachePlays': WHATEVER THE INPUT: true; the input reads as it did. -/
def cachePlaysSpec : ChangeSpec := { name := "cachePlays", fn := fun _ => fun
  | [d1, d2] => { results := [.lit (.bool true)], args := [d1, d2] }
  | _ => none }
def cachePlaysRow : OpenClaim := { program := "ytepgaphhinacmaa", sum := "eb7ecfe767acdbb230089a52bbd935fda2dd02d1f76d14395ecf959e0eb8ac27", func := "porter/porterlaw10.CachePlays", spec := "cachePlays", unfollowed := true, recurses := true, apart := false }
def CachePlaysSaid : Prop := cachePlaysRow.holds Try.pinned (OpenSpec.ofChange cachePlaysSpec)

/-- ITS FALSE NEIGHBOUR: 'it returns false'. Refute it at one input. -/
def cachePlaysWrong : ChangeSpec := { name := "cachePlays", fn := fun _ => fun
  | [d1, d2] => { results := [.lit (.bool false)], args := [d1, d2] }
  | _ => none }
def CachePlaysWrongFalsely : Prop := cachePlaysRow.holds Try.pinned (OpenSpec.ofChange cachePlaysWrong)

/-- 'porterlaw13.OutboxDue': WHATEVER THE INPUT: true; the input reads as it did. -/
def outboxDueSpec : ChangeSpec := { name := "outboxDue", fn := fun _ => fun
  | [d1, d2, d3] => { results := [.lit (.bool true)], args := [d1, d2, d3] }
  | _ => none }
def outboxDueRow : OpenClaim := { program := "ytepgaphhinacmaa", sum := "eb7ecfe767acdbb230089a52bbd935fda2dd02d1f76d14395ecf959e0eb8ac27", func := "porter/porterlaw13.OutboxDue", spec := "outboxDue", unfollowed := true, recurses := true, apart := false }
def OutboxDueSaid : Prop := outboxDueRow.holds Try.pinned (OpenSpec.ofChange outboxDueSpec)

/-- ITS FALSE NEIGHBOUR: 'it returns false'. Refute it at one input. -/
def outboxDueWrong : ChangeSpec := { name := "outboxDue", fn := fun _ => fun
  | [d1, d2, d3] => { results := [.lit (.bool false)], args := [d1, d2, d3] }
  | _ => none }
def OutboxDueWrongFalsely : Prop := outboxDueRow.holds Try.pinned (OpenSpec.ofChange outboxDueWrong)

/-- 'porterlaw13.OutboxSeen': WHATEVER THE INPUT: true; the input reads as it did. -/
def outboxSeenSpec : ChangeSpec := { name := "outboxSeen", fn := fun _ => fun
  | [d1, d2] => { results := [.lit (.bool true)], args := [d1, d2] }
  | _ => none }
def outboxSeenRow : OpenClaim := { program := "ytepgaphhinacmaa", sum := "eb7ecfe767acdbb230089a52bbd935fda2dd02d1f76d14395ecf959e0eb8ac27", func := "porter/porterlaw13.OutboxSeen", spec := "outboxSeen", unfollowed := true, recurses := true, apart := false }
def OutboxSeenSaid : Prop := outboxSeenRow.holds Try.pinned (OpenSpec.ofChange outboxSeenSpec)

/-- ITS FALSE NEIGHBOUR: 'it returns false'. Refute it at one input. -/
def outboxSeenWrong : ChangeSpec := { name := "outboxSeen", fn := fun _ => fun
  | [d1, d2] => { results := [.lit (.bool false)], args := [d1, d2] }
  | _ => none }
def OutboxSeenWrongFalsely : Prop := outboxSeenRow.holds Try.pinned (OpenSpec.ofChange outboxSeenWrong)

/-- 'porterlaw13.OutboxPlays': WHATEVER THE INPUT: true; the input reads as it did. -/
def outboxPlaysSpec : ChangeSpec := { name := "outboxPlays", fn := fun _ => fun
  | [d1, d2, d3] => { results := [.lit (.bool true)], args := [d1, d2, d3] }
  | _ => none }
def outboxPlaysRow : OpenClaim := { program := "ytepgaphhinacmaa", sum := "eb7ecfe767acdbb230089a52bbd935fda2dd02d1f76d14395ecf959e0eb8ac27", func := "porter/porterlaw13.OutboxPlays", spec := "outboxPlays", unfollowed := true, recurses := true, apart := false }
def OutboxPlaysSaid : Prop := outboxPlaysRow.holds Try.pinned (OpenSpec.ofChange outboxPlaysSpec)

/-- ITS FALSE NEIGHBOUR: 'it returns false'. Refute it at one input. -/
def outboxPlaysWrong : ChangeSpec := { name := "outboxPlays", fn := fun _ => fun
  | [d1, d2, d3] => { results := [.lit (.bool false)], args := [d1, d2, d3] }
  | _ => none }
def OutboxPlaysWrongFalsely : Prop := outboxPlaysRow.holds Try.pinned (OpenSpec.ofChange outboxPlaysWrong)

/-- 'porterlaw13.OutboxRow': WHATEVER THE INPUT: true; the input reads as it did. -/
def outboxRowSpec : ChangeSpec := { name := "outboxRow", fn := fun _ => fun
  | [d1, d2] => { results := [.lit (.bool true)], args := [d1, d2] }
  | _ => none }
def outboxRowRow : OpenClaim := { program := "ytepgaphhinacmaa", sum := "eb7ecfe767acdbb230089a52bbd935fda2dd02d1f76d14395ecf959e0eb8ac27", func := "porter/porterlaw13.OutboxRow", spec := "outboxRow", unfollowed := true, recurses := true, apart := false }
def OutboxRowSaid : Prop := outboxRowRow.holds Try.pinned (OpenSpec.ofChange outboxRowSpec)

/-- ITS FALSE NEIGHBOUR: 'it returns false'. Refute it at one input. -/
def outboxRowWrong : ChangeSpec := { name := "outboxRow", fn := fun _ => fun
  | [d1, d2] => { results := [.lit (.bool false)], args := [d1, d2] }
  | _ => none }
def OutboxRowWrongFalsely : Prop := outboxRowRow.holds Try.pinned (OpenSpec.ofChange outboxRowWrong)

/- THE SECOND FORM. 'bulk': how many values and letters a reading holds, each counted each time it is reached (what is shared counts as often as it is met; a slice's spare places count too). A statement '..UptoSaid' is the law's where the arguments, and the package variables that the reading takes, are together of bulk at most 1048576: NARROWER than '..Said'. Prove '..Said' where nothing that the law and all that it calls make is longer than what came in: it says more and counts as full. Else prove '..UptoSaid'. A law counts once. -/
mutual
def uptoBulk {H : Type} : DataW H → Nat
  | .lit (.string bytes) => bytes.length + 1
  | .lit _ => 1
  | .nil => 1
  | .ptr d => uptoBulk d + 1
  | .slice elems spare => uptoBulkAll elems + uptoBulkAll spare + 1
  | .agg parts => uptoBulkAll parts + 1
  | .iface _ d => uptoBulk d + 1
  | .map entries => uptoBulkEntries entries + 1
  | .held _ => 1
def uptoBulkAll {H : Type} : List (DataW H) → Nat
  | [] => 0
  | d :: r => uptoBulk d + uptoBulkAll r
def uptoBulkEntries {H : Type} : List (Lit × DataW H) → Nat
  | [] => 0
  | x :: r => uptoBulkEntry x + uptoBulkEntries r
def uptoBulkEntry {H : Type} : Lit × DataW H → Nat
  | (.string bytes, d) => bytes.length + uptoBulk d + 1
  | (_, d) => uptoBulk d + 1
 end
def uptoSmall : (H : Type) → List (DataW H) → Bool := fun _ ds => decide (uptoBulkAll ds ≤ 1048576)
def OpenSpec.upto (s : _root_.Go.ChangeSpec) : _root_.Go.OpenSpec := { _root_.Go.OpenSpec.ofChange s with cond := some uptoSmall }

/-- 'porterlaw10.CacheTrue', WHERE WHAT IT READS IS OF BULK AT MOST 1048576: true; the input reads as it did. -/
def cacheTrueUptoRow : OpenClaim := { program := "ytepgaphhinacmaa", sum := "eb7ecfe767acdbb230089a52bbd935fda2dd02d1f76d14395ecf959e0eb8ac27", func := "porter/porterlaw10.CacheTrue", spec := "cacheTrue", apart := false, narrowed := true }
def CacheTrueUptoSaid : Prop := cacheTrueUptoRow.holds Try.pinned (OpenSpec.upto cacheTrueSpec)

/-- 'porterlaw10.CacheCuts', WHERE WHAT IT READS IS OF BULK AT MOST 1048576: true; the input reads as it did. -/
def cacheCutsUptoRow : OpenClaim := { program := "ytepgaphhinacmaa", sum := "eb7ecfe767acdbb230089a52bbd935fda2dd02d1f76d14395ecf959e0eb8ac27", func := "porter/porterlaw10.CacheCuts", spec := "cacheCuts", unfollowed := true, recurses := true, apart := false, narrowed := true }
def CacheCutsUptoSaid : Prop := cacheCutsUptoRow.holds Try.pinned (OpenSpec.upto cacheCutsSpec)

/-- 'porterlaw10.CachePlays', WHERE WHAT IT READS IS OF BULK AT MOST 1048576: true; the input reads as it did. -/
def cachePlaysUptoRow : OpenClaim := { program := "ytepgaphhinacmaa", sum := "eb7ecfe767acdbb230089a52bbd935fda2dd02d1f76d14395ecf959e0eb8ac27", func := "porter/porterlaw10.CachePlays", spec := "cachePlays", unfollowed := true, recurses := true, apart := false, narrowed := true }
def CachePlaysUptoSaid : Prop := cachePlaysUptoRow.holds Try.pinned (OpenSpec.upto cachePlaysSpec)

/-- 'porterlaw13.OutboxDue', WHERE WHAT IT READS IS OF BULK AT MOST 1048576: true; the input reads as it did. -/
def outboxDueUptoRow : OpenClaim := { program := "ytepgaphhinacmaa", sum := "eb7ecfe767acdbb230089a52bbd935fda2dd02d1f76d14395ecf959e0eb8ac27", func := "porter/porterlaw13.OutboxDue", spec := "outboxDue", unfollowed := true, recurses := true, apart := false, narrowed := true }
def OutboxDueUptoSaid : Prop := outboxDueUptoRow.holds Try.pinned (OpenSpec.upto outboxDueSpec)

/-- 'porterlaw13.OutboxSeen', WHERE WHAT IT READS IS OF BULK AT MOST 1048576: true; the input reads as it did. -/
def outboxSeenUptoRow : OpenClaim := { program := "ytepgaphhinacmaa", sum := "eb7ecfe767acdbb230089a52bbd935fda2dd02d1f76d14395ecf959e0eb8ac27", func := "porter/porterlaw13.OutboxSeen", spec := "outboxSeen", unfollowed := true, recurses := true, apart := false, narrowed := true }
def OutboxSeenUptoSaid : Prop := outboxSeenUptoRow.holds Try.pinned (OpenSpec.upto outboxSeenSpec)

/-- 'porterlaw13.OutboxPlays', WHERE WHAT IT READS IS OF BULK AT MOST 1048576: true; the input reads as it did. -/
def outboxPlaysUptoRow : OpenClaim := { program := "ytepgaphhinacmaa", sum := "eb7ecfe767acdbb230089a52bbd935fda2dd02d1f76d14395ecf959e0eb8ac27", func := "porter/porterlaw13.OutboxPlays", spec := "outboxPlays", unfollowed := true, recurses := true, apart := false, narrowed := true }
def OutboxPlaysUptoSaid : Prop := outboxPlaysUptoRow.holds Try.pinned (OpenSpec.upto outboxPlaysSpec)

/-- 'porterlaw13.OutboxRow', WHERE WHAT IT READS IS OF BULK AT MOST 1048576: true; the input reads as it did. -/
def outboxRowUptoRow : OpenClaim := { program := "ytepgaphhinacmaa", sum := "eb7ecfe767acdbb230089a52bbd935fda2dd02d1f76d14395ecf959e0eb8ac27", func := "porter/porterlaw13.OutboxRow", spec := "outboxRow", unfollowed := true, recurses := true, apart := false, narrowed := true }
def OutboxRowUptoSaid : Prop := outboxRowUptoRow.holds Try.pinned (OpenSpec.upto outboxRowSpec)

end Rows
end Go.Proofs.Ytepgaphhinacmaa
