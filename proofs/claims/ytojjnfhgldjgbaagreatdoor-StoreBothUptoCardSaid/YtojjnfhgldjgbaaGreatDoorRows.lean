/-
  NARROWER THAN 'FOR EVERY INPUT', by the rows' own cells (each row's printed sentence says how): WatchSplits: laid · WatchPlays: laid · WatchNet: laid · StoreIdles: laid · StoreBoth: laid · StoreHistory: laid · StoreCollects: laid · StoreMoves: laid · StorePlays: laid.
  DERIVED. THE GIVEN ROWS OF THIS SEAT. 9 by the template 'for every input the law returns true; each argument reads behind the call as it read before'; 0 by the template 'total and deterministic' (their statements: YtojjnfhgldjgbaaGreatDoorTotals.lean).
  GIVEN WITH THE SEED: the statements are not yours to turn. If you find one false, say at which input.
  Laid BY PROGRAM, IN A SANDBOX (cutbox-rows.mjs): the forced cells as the released guide's own fill.sh prints them over the translation b708582be2ab50c1… (all of the seat's roots in one cut). By AI agents, Wed Nov 11 2026. No macro, syntax, notation, axiom, sorry.
-/
import Derived.Test.YtojjnfhgldjgbaaGreatDoorChecked
import GoSem.PinnedTables
import GoSem.Claim
import GoSem.ClaimJoined
import GoSem.ClaimMapViews
import Derived.JoinedTies
import Derived.KernelRfl
namespace Go.Proofs.YtojjnfhgldjgbaaGreatDoor
/- THE CELL 'sum', in the pinned program and in every row, IS THE sha256 OF THE DUMP (.gsa) THAT YtojjnfhgldjgbaaGreatDoorProg.lean LOADS. Nothing in Lean hashes anything: it is a label: what it is worth is what the hold of that sum in a sandbox is worth. -/
noncomputable def Tryz.pinned : Pinned := { name := "ytojjnfhgldjgbaagreatdoor", sum := "b708582be2ab50c1bd8594218052d66f05e0210da502229b8bc3e7b97e09507c", checked := Tryz.checked }
namespace Rows
def none {H : Type} : Left H := { results := [], args := [] }

/- WHAT THE LISTED PACKAGE-LEVEL VARIABLES READ AS WHEN THE CALL BEGINS. Each datum BY PROGRAM (the guide's laid-datum.mjs) off the statement by which the dump's own 'gosem.cut.vars' lays the variable. In a bare row this is a premise. The card (YtojjnfhgldjgbaaGreatDoorCards.lean) ties it to the program's text. -/
def laid_unicode_utf8_acceptRanges {H : Type} : DataW H := .agg [.agg [.lit (.int .u8 128), .lit (.int .u8 191)], .agg [.lit (.int .u8 160), .lit (.int .u8 191)], .agg [.lit (.int .u8 128), .lit (.int .u8 159)], .agg [.lit (.int .u8 144), .lit (.int .u8 191)], .agg [.lit (.int .u8 128), .lit (.int .u8 143)], .agg [.lit (.int .u8 0), .lit (.int .u8 0)], .agg [.lit (.int .u8 0), .lit (.int .u8 0)], .agg [.lit (.int .u8 0), .lit (.int .u8 0)], .agg [.lit (.int .u8 0), .lit (.int .u8 0)], .agg [.lit (.int .u8 0), .lit (.int .u8 0)], .agg [.lit (.int .u8 0), .lit (.int .u8 0)], .agg [.lit (.int .u8 0), .lit (.int .u8 0)], .agg [.lit (.int .u8 0), .lit (.int .u8 0)], .agg [.lit (.int .u8 0), .lit (.int .u8 0)], .agg [.lit (.int .u8 0), .lit (.int .u8 0)], .agg [.lit (.int .u8 0), .lit (.int .u8 0)]]
/-- One of Go's own tables, pinned by name: the form's constant. -/
def laid_unicode_utf8_first : DataW Unit := Go.Pinned.utf8First

/-- 'porterlaw22.WatchSplits': WHATEVER THE INPUT: true; the input reads as it did. -/
def watchSplitsSpec : ChangeSpec := { name := "watchSplits", fn := fun _ => fun
  | [d1, d2] => { results := [.lit (.bool true)], args := [d1, d2] }
  | _ => none }
def watchSplitsRow : OpenClaim := { program := "ytojjnfhgldjgbaagreatdoor", sum := "b708582be2ab50c1bd8594218052d66f05e0210da502229b8bc3e7b97e09507c", func := "porter/porterlaw22.WatchSplits", spec := "watchSplits", inPlace := ["internal/bytealg.abigen_runtime_cmpstring", "internal/bytealg.IndexByteString", "internal/bytealg.IndexString"], unfollowed := true, recurses := true, named := ["internal/bytealg.MaxLen", "unicode/utf8.first", "unicode/utf8.acceptRanges"], plainKeys := false, apart := false, laid := [("unicode/utf8.acceptRanges", laid_unicode_utf8_acceptRanges), ("unicode/utf8.first", laid_unicode_utf8_first)] }
def WatchSplitsSaid : Prop := watchSplitsRow.holds Tryz.pinned (OpenSpec.ofChange watchSplitsSpec)

/-- ITS FALSE NEIGHBOUR: 'it returns false'. Refute it at one input. -/
def watchSplitsWrong : ChangeSpec := { name := "watchSplits", fn := fun _ => fun
  | [d1, d2] => { results := [.lit (.bool false)], args := [d1, d2] }
  | _ => none }
def WatchSplitsWrongFalsely : Prop := watchSplitsRow.holds Tryz.pinned (OpenSpec.ofChange watchSplitsWrong)

/-- 'porterlaw22.WatchPlays': WHATEVER THE INPUT: true; the input reads as it did. -/
def watchPlaysSpec : ChangeSpec := { name := "watchPlays", fn := fun _ => fun
  | [d1, d2, d3] => { results := [.lit (.bool true)], args := [d1, d2, d3] }
  | _ => none }
def watchPlaysRow : OpenClaim := { program := "ytojjnfhgldjgbaagreatdoor", sum := "b708582be2ab50c1bd8594218052d66f05e0210da502229b8bc3e7b97e09507c", func := "porter/porterlaw22.WatchPlays", spec := "watchPlays", inPlace := ["internal/bytealg.abigen_runtime_cmpstring", "internal/bytealg.IndexByteString", "internal/bytealg.IndexString"], unfollowed := true, recurses := true, named := ["internal/bytealg.MaxLen", "unicode/utf8.first", "unicode/utf8.acceptRanges"], plainKeys := false, apart := false, laid := [("unicode/utf8.acceptRanges", laid_unicode_utf8_acceptRanges), ("unicode/utf8.first", laid_unicode_utf8_first)] }
def WatchPlaysSaid : Prop := watchPlaysRow.holds Tryz.pinned (OpenSpec.ofChange watchPlaysSpec)

/-- ITS FALSE NEIGHBOUR: 'it returns false'. Refute it at one input. -/
def watchPlaysWrong : ChangeSpec := { name := "watchPlays", fn := fun _ => fun
  | [d1, d2, d3] => { results := [.lit (.bool false)], args := [d1, d2, d3] }
  | _ => none }
def WatchPlaysWrongFalsely : Prop := watchPlaysRow.holds Tryz.pinned (OpenSpec.ofChange watchPlaysWrong)

/-- 'porterlaw22.WatchNet': WHATEVER THE INPUT: true; the input reads as it did. -/
def watchNetSpec : ChangeSpec := { name := "watchNet", fn := fun _ => fun
  | [d1, d2] => { results := [.lit (.bool true)], args := [d1, d2] }
  | _ => none }
def watchNetRow : OpenClaim := { program := "ytojjnfhgldjgbaagreatdoor", sum := "b708582be2ab50c1bd8594218052d66f05e0210da502229b8bc3e7b97e09507c", func := "porter/porterlaw22.WatchNet", spec := "watchNet", inPlace := ["internal/bytealg.abigen_runtime_cmpstring", "internal/bytealg.IndexByteString", "internal/bytealg.IndexString"], unfollowed := true, recurses := true, named := ["internal/bytealg.MaxLen", "unicode/utf8.first", "unicode/utf8.acceptRanges"], plainKeys := false, apart := false, laid := [("unicode/utf8.acceptRanges", laid_unicode_utf8_acceptRanges), ("unicode/utf8.first", laid_unicode_utf8_first)] }
def WatchNetSaid : Prop := watchNetRow.holds Tryz.pinned (OpenSpec.ofChange watchNetSpec)

/-- ITS FALSE NEIGHBOUR: 'it returns false'. Refute it at one input. -/
def watchNetWrong : ChangeSpec := { name := "watchNet", fn := fun _ => fun
  | [d1, d2] => { results := [.lit (.bool false)], args := [d1, d2] }
  | _ => none }
def WatchNetWrongFalsely : Prop := watchNetRow.holds Tryz.pinned (OpenSpec.ofChange watchNetWrong)

/-- 'porterlaw07.StoreIdles': WHATEVER THE INPUT: true; the input reads as it did. -/
def storeIdlesSpec : ChangeSpec := { name := "storeIdles", fn := fun _ => fun
  | [d1, d2] => { results := [.lit (.bool true)], args := [d1, d2] }
  | _ => none }
def storeIdlesRow : OpenClaim := { program := "ytojjnfhgldjgbaagreatdoor", sum := "b708582be2ab50c1bd8594218052d66f05e0210da502229b8bc3e7b97e09507c", func := "porter/porterlaw07.StoreIdles", spec := "storeIdles", inPlace := ["internal/bytealg.IndexByteString", "internal/bytealg.IndexString", "internal/bytealg.abigen_runtime_cmpstring"], unfollowed := true, recurses := true, named := ["internal/bytealg.MaxLen", "unicode/utf8.first", "unicode/utf8.acceptRanges"], plainKeys := false, apart := false, laid := [("unicode/utf8.acceptRanges", laid_unicode_utf8_acceptRanges), ("unicode/utf8.first", laid_unicode_utf8_first)] }
def StoreIdlesSaid : Prop := storeIdlesRow.holds Tryz.pinned (OpenSpec.ofChange storeIdlesSpec)

/-- ITS FALSE NEIGHBOUR: 'it returns false'. Refute it at one input. -/
def storeIdlesWrong : ChangeSpec := { name := "storeIdles", fn := fun _ => fun
  | [d1, d2] => { results := [.lit (.bool false)], args := [d1, d2] }
  | _ => none }
def StoreIdlesWrongFalsely : Prop := storeIdlesRow.holds Tryz.pinned (OpenSpec.ofChange storeIdlesWrong)

/-- 'porterlaw07.StoreBoth': WHATEVER THE INPUT: true; the input reads as it did. -/
def storeBothSpec : ChangeSpec := { name := "storeBoth", fn := fun _ => fun
  | [d1, d2] => { results := [.lit (.bool true)], args := [d1, d2] }
  | _ => none }
def storeBothRow : OpenClaim := { program := "ytojjnfhgldjgbaagreatdoor", sum := "b708582be2ab50c1bd8594218052d66f05e0210da502229b8bc3e7b97e09507c", func := "porter/porterlaw07.StoreBoth", spec := "storeBoth", inPlace := ["internal/bytealg.IndexByteString", "internal/bytealg.IndexString", "internal/bytealg.abigen_runtime_cmpstring"], unfollowed := true, recurses := true, named := ["internal/bytealg.MaxLen", "unicode/utf8.first", "unicode/utf8.acceptRanges"], plainKeys := false, apart := false, laid := [("unicode/utf8.acceptRanges", laid_unicode_utf8_acceptRanges), ("unicode/utf8.first", laid_unicode_utf8_first)] }
def StoreBothSaid : Prop := storeBothRow.holds Tryz.pinned (OpenSpec.ofChange storeBothSpec)

/-- ITS FALSE NEIGHBOUR: 'it returns false'. Refute it at one input. -/
def storeBothWrong : ChangeSpec := { name := "storeBoth", fn := fun _ => fun
  | [d1, d2] => { results := [.lit (.bool false)], args := [d1, d2] }
  | _ => none }
def StoreBothWrongFalsely : Prop := storeBothRow.holds Tryz.pinned (OpenSpec.ofChange storeBothWrong)

/-- 'porterlaw07.StoreHistory': WHATEVER THE INPUT: true; the input reads as it did. -/
def storeHistorySpec : ChangeSpec := { name := "storeHistory", fn := fun _ => fun
  | [d1, d2] => { results := [.lit (.bool true)], args := [d1, d2] }
  | _ => none }
def storeHistoryRow : OpenClaim := { program := "ytojjnfhgldjgbaagreatdoor", sum := "b708582be2ab50c1bd8594218052d66f05e0210da502229b8bc3e7b97e09507c", func := "porter/porterlaw07.StoreHistory", spec := "storeHistory", inPlace := ["internal/bytealg.IndexByteString", "internal/bytealg.IndexString", "internal/bytealg.abigen_runtime_cmpstring"], unfollowed := true, recurses := true, named := ["internal/bytealg.MaxLen", "unicode/utf8.first", "unicode/utf8.acceptRanges"], plainKeys := false, apart := false, laid := [("unicode/utf8.acceptRanges", laid_unicode_utf8_acceptRanges), ("unicode/utf8.first", laid_unicode_utf8_first)] }
def StoreHistorySaid : Prop := storeHistoryRow.holds Tryz.pinned (OpenSpec.ofChange storeHistorySpec)

/-- ITS FALSE NEIGHBOUR: 'it returns false'. Refute it at one input. -/
def storeHistoryWrong : ChangeSpec := { name := "storeHistory", fn := fun _ => fun
  | [d1, d2] => { results := [.lit (.bool false)], args := [d1, d2] }
  | _ => none }
def StoreHistoryWrongFalsely : Prop := storeHistoryRow.holds Tryz.pinned (OpenSpec.ofChange storeHistoryWrong)

/-- 'porterlaw07.StoreCollects': WHATEVER THE INPUT: true; the input reads as it did. -/
def storeCollectsSpec : ChangeSpec := { name := "storeCollects", fn := fun _ => fun
  | [d1, d2, d3] => { results := [.lit (.bool true)], args := [d1, d2, d3] }
  | _ => none }
def storeCollectsRow : OpenClaim := { program := "ytojjnfhgldjgbaagreatdoor", sum := "b708582be2ab50c1bd8594218052d66f05e0210da502229b8bc3e7b97e09507c", func := "porter/porterlaw07.StoreCollects", spec := "storeCollects", inPlace := ["internal/bytealg.IndexByteString", "internal/bytealg.IndexString", "internal/bytealg.abigen_runtime_cmpstring"], unfollowed := true, recurses := true, named := ["internal/bytealg.MaxLen", "unicode/utf8.first", "unicode/utf8.acceptRanges"], plainKeys := false, apart := false, laid := [("unicode/utf8.acceptRanges", laid_unicode_utf8_acceptRanges), ("unicode/utf8.first", laid_unicode_utf8_first)] }
def StoreCollectsSaid : Prop := storeCollectsRow.holds Tryz.pinned (OpenSpec.ofChange storeCollectsSpec)

/-- ITS FALSE NEIGHBOUR: 'it returns false'. Refute it at one input. -/
def storeCollectsWrong : ChangeSpec := { name := "storeCollects", fn := fun _ => fun
  | [d1, d2, d3] => { results := [.lit (.bool false)], args := [d1, d2, d3] }
  | _ => none }
def StoreCollectsWrongFalsely : Prop := storeCollectsRow.holds Tryz.pinned (OpenSpec.ofChange storeCollectsWrong)

/-- 'porterlaw07.StoreMoves': WHATEVER THE INPUT: true; the input reads as it did. -/
def storeMovesSpec : ChangeSpec := { name := "storeMoves", fn := fun _ => fun
  | [d1, d2] => { results := [.lit (.bool true)], args := [d1, d2] }
  | _ => none }
def storeMovesRow : OpenClaim := { program := "ytojjnfhgldjgbaagreatdoor", sum := "b708582be2ab50c1bd8594218052d66f05e0210da502229b8bc3e7b97e09507c", func := "porter/porterlaw07.StoreMoves", spec := "storeMoves", inPlace := ["internal/bytealg.IndexByteString", "internal/bytealg.IndexString", "internal/bytealg.abigen_runtime_cmpstring"], unfollowed := true, recurses := true, named := ["internal/bytealg.MaxLen", "unicode/utf8.first", "unicode/utf8.acceptRanges"], plainKeys := false, apart := false, laid := [("unicode/utf8.acceptRanges", laid_unicode_utf8_acceptRanges), ("unicode/utf8.first", laid_unicode_utf8_first)] }
def StoreMovesSaid : Prop := storeMovesRow.holds Tryz.pinned (OpenSpec.ofChange storeMovesSpec)

/-- ITS FALSE NEIGHBOUR: 'it returns false'. Refute it at one input. -/
def storeMovesWrong : ChangeSpec := { name := "storeMoves", fn := fun _ => fun
  | [d1, d2] => { results := [.lit (.bool false)], args := [d1, d2] }
  | _ => none }
def StoreMovesWrongFalsely : Prop := storeMovesRow.holds Tryz.pinned (OpenSpec.ofChange storeMovesWrong)

/-- 'porterlaw07.StorePlays': WHATEVER THE INPUT: true; the input reads as it did. -/
def storePlaysSpec : ChangeSpec := { name := "storePlays", fn := fun _ => fun
  | [d] => { results := [.lit (.bool true)], args := [d] }
  | _ => none }
def storePlaysRow : OpenClaim := { program := "ytojjnfhgldjgbaagreatdoor", sum := "b708582be2ab50c1bd8594218052d66f05e0210da502229b8bc3e7b97e09507c", func := "porter/porterlaw07.StorePlays", spec := "storePlays", inPlace := ["internal/bytealg.IndexByteString", "internal/bytealg.IndexString", "internal/bytealg.abigen_runtime_cmpstring"], unfollowed := true, recurses := true, named := ["internal/bytealg.MaxLen", "unicode/utf8.first", "unicode/utf8.acceptRanges"], plainKeys := false, apart := false, laid := [("unicode/utf8.acceptRanges", laid_unicode_utf8_acceptRanges), ("unicode/utf8.first", laid_unicode_utf8_first)] }
def StorePlaysSaid : Prop := storePlaysRow.holds Tryz.pinned (OpenSpec.ofChange storePlaysSpec)

/-- ITS FALSE NEIGHBOUR: 'it returns false'. Refute it at one input. -/
def storePlaysWrong : ChangeSpec := { name := "storePlays", fn := fun _ => fun
  | [d] => { results := [.lit (.bool false)], args := [d] }
  | _ => none }
def StorePlaysWrongFalsely : Prop := storePlaysRow.holds Tryz.pinned (OpenSpec.ofChange storePlaysWrong)

/- THE SECOND FORM. 'bulk': how many values and letters a reading holds, each counted each time it is reached (what is shared counts as often as it is met; a slice's spare places count too). A statement '..UptoSaid' is the law's where the arguments, and the package variables that the reading takes, are together of bulk at most 1048576: NARROWER than '..Said'. Prove '..Said' where nothing that the law and all that it calls make is longer than what came in: it says more and counts as full. Else prove '..UptoSaid'. A law counts once. -/
mutual
def uptoBulk {H : Type} : DataW H → Nat
  | .lit (.string bytes) => bytes.length + 1
  | .lit _ => 1
  | .nil => 1
  | .ptr d => uptoBulk d + 1
  | .slice elems spare => uptoBulkAll elems + uptoBulkAll spare + 1
  | .agg parts => uptoBulkAll parts + 1
  | .iface _ d => uptoBulk d + 1
  | .map entries => uptoBulkEntries entries + 1
  | .held _ => 1
def uptoBulkAll {H : Type} : List (DataW H) → Nat
  | [] => 0
  | d :: r => uptoBulk d + uptoBulkAll r
def uptoBulkEntries {H : Type} : List (Lit × DataW H) → Nat
  | [] => 0
  | x :: r => uptoBulkEntry x + uptoBulkEntries r
def uptoBulkEntry {H : Type} : Lit × DataW H → Nat
  | (.string bytes, d) => bytes.length + uptoBulk d + 1
  | (_, d) => uptoBulk d + 1
 end
def uptoSmall : (H : Type) → List (DataW H) → Bool := fun _ ds => decide (uptoBulkAll ds ≤ 1048576)
def OpenSpec.upto (s : _root_.Go.ChangeSpec) : _root_.Go.OpenSpec := { _root_.Go.OpenSpec.ofChange s with cond := some uptoSmall }

/-- 'porterlaw22.WatchSplits', WHERE WHAT IT READS IS OF BULK AT MOST 1048576: true; the input reads as it did. -/
def watchSplitsUptoRow : OpenClaim := { program := "ytojjnfhgldjgbaagreatdoor", sum := "b708582be2ab50c1bd8594218052d66f05e0210da502229b8bc3e7b97e09507c", func := "porter/porterlaw22.WatchSplits", spec := "watchSplits", inPlace := ["internal/bytealg.abigen_runtime_cmpstring", "internal/bytealg.IndexByteString", "internal/bytealg.IndexString"], unfollowed := true, recurses := true, named := ["internal/bytealg.MaxLen", "unicode/utf8.first", "unicode/utf8.acceptRanges"], plainKeys := false, apart := false, laid := [("unicode/utf8.acceptRanges", laid_unicode_utf8_acceptRanges), ("unicode/utf8.first", laid_unicode_utf8_first)], narrowed := true }
def WatchSplitsUptoSaid : Prop := watchSplitsUptoRow.holds Tryz.pinned (OpenSpec.upto watchSplitsSpec)

/-- 'porterlaw22.WatchPlays', WHERE WHAT IT READS IS OF BULK AT MOST 1048576: true; the input reads as it did. -/
def watchPlaysUptoRow : OpenClaim := { program := "ytojjnfhgldjgbaagreatdoor", sum := "b708582be2ab50c1bd8594218052d66f05e0210da502229b8bc3e7b97e09507c", func := "porter/porterlaw22.WatchPlays", spec := "watchPlays", inPlace := ["internal/bytealg.abigen_runtime_cmpstring", "internal/bytealg.IndexByteString", "internal/bytealg.IndexString"], unfollowed := true, recurses := true, named := ["internal/bytealg.MaxLen", "unicode/utf8.first", "unicode/utf8.acceptRanges"], plainKeys := false, apart := false, laid := [("unicode/utf8.acceptRanges", laid_unicode_utf8_acceptRanges), ("unicode/utf8.first", laid_unicode_utf8_first)], narrowed := true }
def WatchPlaysUptoSaid : Prop := watchPlaysUptoRow.holds Tryz.pinned (OpenSpec.upto watchPlaysSpec)

/-- 'porterlaw22.WatchNet', WHERE WHAT IT READS IS OF BULK AT MOST 1048576: true; the input reads as it did. -/
def watchNetUptoRow : OpenClaim := { program := "ytojjnfhgldjgbaagreatdoor", sum := "b708582be2ab50c1bd8594218052d66f05e0210da502229b8bc3e7b97e09507c", func := "porter/porterlaw22.WatchNet", spec := "watchNet", inPlace := ["internal/bytealg.abigen_runtime_cmpstring", "internal/bytealg.IndexByteString", "internal/bytealg.IndexString"], unfollowed := true, recurses := true, named := ["internal/bytealg.MaxLen", "unicode/utf8.first", "unicode/utf8.acceptRanges"], plainKeys := false, apart := false, laid := [("unicode/utf8.acceptRanges", laid_unicode_utf8_acceptRanges), ("unicode/utf8.first", laid_unicode_utf8_first)], narrowed := true }
def WatchNetUptoSaid : Prop := watchNetUptoRow.holds Tryz.pinned (OpenSpec.upto watchNetSpec)

/-- 'porterlaw07.StoreIdles', WHERE WHAT IT READS IS OF BULK AT MOST 1048576: true; the input reads as it did. -/
def storeIdlesUptoRow : OpenClaim := { program := "ytojjnfhgldjgbaagreatdoor", sum := "b708582be2ab50c1bd8594218052d66f05e0210da502229b8bc3e7b97e09507c", func := "porter/porterlaw07.StoreIdles", spec := "storeIdles", inPlace := ["internal/bytealg.IndexByteString", "internal/bytealg.IndexString", "internal/bytealg.abigen_runtime_cmpstring"], unfollowed := true, recurses := true, named := ["internal/bytealg.MaxLen", "unicode/utf8.first", "unicode/utf8.acceptRanges"], plainKeys := false, apart := false, laid := [("unicode/utf8.acceptRanges", laid_unicode_utf8_acceptRanges), ("unicode/utf8.first", laid_unicode_utf8_first)], narrowed := true }
def StoreIdlesUptoSaid : Prop := storeIdlesUptoRow.holds Tryz.pinned (OpenSpec.upto storeIdlesSpec)

/-- 'porterlaw07.StoreBoth', WHERE WHAT IT READS IS OF BULK AT MOST 1048576: true; the input reads as it did. -/
def storeBothUptoRow : OpenClaim := { program := "ytojjnfhgldjgbaagreatdoor", sum := "b708582be2ab50c1bd8594218052d66f05e0210da502229b8bc3e7b97e09507c", func := "porter/porterlaw07.StoreBoth", spec := "storeBoth", inPlace := ["internal/bytealg.IndexByteString", "internal/bytealg.IndexString", "internal/bytealg.abigen_runtime_cmpstring"], unfollowed := true, recurses := true, named := ["internal/bytealg.MaxLen", "unicode/utf8.first", "unicode/utf8.acceptRanges"], plainKeys := false, apart := false, laid := [("unicode/utf8.acceptRanges", laid_unicode_utf8_acceptRanges), ("unicode/utf8.first", laid_unicode_utf8_first)], narrowed := true }
def StoreBothUptoSaid : Prop := storeBothUptoRow.holds Tryz.pinned (OpenSpec.upto storeBothSpec)

/-- 'porterlaw07.StoreHistory', WHERE WHAT IT READS IS OF BULK AT MOST 1048576: true; the input reads as it did. -/
def storeHistoryUptoRow : OpenClaim := { program := "ytojjnfhgldjgbaagreatdoor", sum := "b708582be2ab50c1bd8594218052d66f05e0210da502229b8bc3e7b97e09507c", func := "porter/porterlaw07.StoreHistory", spec := "storeHistory", inPlace := ["internal/bytealg.IndexByteString", "internal/bytealg.IndexString", "internal/bytealg.abigen_runtime_cmpstring"], unfollowed := true, recurses := true, named := ["internal/bytealg.MaxLen", "unicode/utf8.first", "unicode/utf8.acceptRanges"], plainKeys := false, apart := false, laid := [("unicode/utf8.acceptRanges", laid_unicode_utf8_acceptRanges), ("unicode/utf8.first", laid_unicode_utf8_first)], narrowed := true }
def StoreHistoryUptoSaid : Prop := storeHistoryUptoRow.holds Tryz.pinned (OpenSpec.upto storeHistorySpec)

/-- 'porterlaw07.StoreCollects', WHERE WHAT IT READS IS OF BULK AT MOST 1048576: true; the input reads as it did. -/
def storeCollectsUptoRow : OpenClaim := { program := "ytojjnfhgldjgbaagreatdoor", sum := "b708582be2ab50c1bd8594218052d66f05e0210da502229b8bc3e7b97e09507c", func := "porter/porterlaw07.StoreCollects", spec := "storeCollects", inPlace := ["internal/bytealg.IndexByteString", "internal/bytealg.IndexString", "internal/bytealg.abigen_runtime_cmpstring"], unfollowed := true, recurses := true, named := ["internal/bytealg.MaxLen", "unicode/utf8.first", "unicode/utf8.acceptRanges"], plainKeys := false, apart := false, laid := [("unicode/utf8.acceptRanges", laid_unicode_utf8_acceptRanges), ("unicode/utf8.first", laid_unicode_utf8_first)], narrowed := true }
def StoreCollectsUptoSaid : Prop := storeCollectsUptoRow.holds Tryz.pinned (OpenSpec.upto storeCollectsSpec)

/-- 'porterlaw07.StoreMoves', WHERE WHAT IT READS IS OF BULK AT MOST 1048576: true; the input reads as it did. -/
def storeMovesUptoRow : OpenClaim := { program := "ytojjnfhgldjgbaagreatdoor", sum := "b708582be2ab50c1bd8594218052d66f05e0210da502229b8bc3e7b97e09507c", func := "porter/porterlaw07.StoreMoves", spec := "storeMoves", inPlace := ["internal/bytealg.IndexByteString", "internal/bytealg.IndexString", "internal/bytealg.abigen_runtime_cmpstring"], unfollowed := true, recurses := true, named := ["internal/bytealg.MaxLen", "unicode/utf8.first", "unicode/utf8.acceptRanges"], plainKeys := false, apart := false, laid := [("unicode/utf8.acceptRanges", laid_unicode_utf8_acceptRanges), ("unicode/utf8.first", laid_unicode_utf8_first)], narrowed := true }
def StoreMovesUptoSaid : Prop := storeMovesUptoRow.holds Tryz.pinned (OpenSpec.upto storeMovesSpec)

/-- 'porterlaw07.StorePlays', WHERE WHAT IT READS IS OF BULK AT MOST 1048576: true; the input reads as it did. -/
def storePlaysUptoRow : OpenClaim := { program := "ytojjnfhgldjgbaagreatdoor", sum := "b708582be2ab50c1bd8594218052d66f05e0210da502229b8bc3e7b97e09507c", func := "porter/porterlaw07.StorePlays", spec := "storePlays", inPlace := ["internal/bytealg.IndexByteString", "internal/bytealg.IndexString", "internal/bytealg.abigen_runtime_cmpstring"], unfollowed := true, recurses := true, named := ["internal/bytealg.MaxLen", "unicode/utf8.first", "unicode/utf8.acceptRanges"], plainKeys := false, apart := false, laid := [("unicode/utf8.acceptRanges", laid_unicode_utf8_acceptRanges), ("unicode/utf8.first", laid_unicode_utf8_first)], narrowed := true }
def StorePlaysUptoSaid : Prop := storePlaysUptoRow.holds Tryz.pinned (OpenSpec.upto storePlaysSpec)

end Rows
end Go.Proofs.YtojjnfhgldjgbaaGreatDoor
