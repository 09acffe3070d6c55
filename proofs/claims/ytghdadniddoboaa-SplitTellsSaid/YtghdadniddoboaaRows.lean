/-
  No cell of these rows narrows 'for every input' (looked for: loops, veiled, ifaces, maps, wideKeys, modest, calm, conditions, laid).
  DERIVED. THE GIVEN ROWS OF THIS SEAT. 10 by the template 'for every input the law returns true; each argument reads behind the call as it read before'; 0 by the template 'total and deterministic' (their statements: YtghdadniddoboaaTotals.lean).
  GIVEN WITH THE SEED: the statements are not yours to turn. If you find one false, say at which input.
  Laid BY PROGRAM, IN A SANDBOX (cutbox-rows.mjs): the forced cells as the released guide's own fill.sh prints them over the translation 28ed050f5c468616… (all of the seat's roots in one cut). By AI agents, Wed Nov 11 2026. No macro, syntax, notation, axiom, sorry.
-/
import Derived.Test.YtghdadniddoboaaChecked
import GoSem.Claim
import GoSem.ClaimJoined
import GoSem.ClaimMapViews
import Derived.JoinedTies
import Derived.KernelRfl
namespace Go.Proofs.Ytghdadniddoboaa
/- THE CELL 'sum', in the pinned program and in every row, IS THE sha256 OF THE DUMP (.gsa) THAT YtghdadniddoboaaProg.lean LOADS. Nothing in Lean hashes anything: it is a label: what it is worth is what the hold of that sum in a sandbox is worth. -/
noncomputable def Try.pinned : Pinned := { name := "ytghdadniddoboaa", sum := "28ed050f5c468616017e885baaf92913ba3fca97a34c6d6941b7f1d656a7b8fc", checked := Try.checked }
namespace Rows
def none {H : Type} : Left H := { results := [], args := [] }

/-- 'nostrolaw02.SplitTells': WHATEVER THE INPUT: true; the input reads as it did. -/
def splitTellsSpec : ChangeSpec := { name := "splitTells", fn := fun _ => fun
  | [d1, d2, d3] => { results := [.lit (.bool true)], args := [d1, d2, d3] }
  | _ => none }
def splitTellsRow : OpenClaim := { program := "ytghdadniddoboaa", sum := "28ed050f5c468616017e885baaf92913ba3fca97a34c6d6941b7f1d656a7b8fc", func := "nostro/nostrolaw02.SplitTells", spec := "splitTells", unfollowed := true, recurses := true, apart := false }
def SplitTellsSaid : Prop := splitTellsRow.holds Try.pinned (OpenSpec.ofChange splitTellsSpec)

/-- ITS FALSE NEIGHBOUR: 'it returns false'. Refute it at one input. -/
def splitTellsWrong : ChangeSpec := { name := "splitTells", fn := fun _ => fun
  | [d1, d2, d3] => { results := [.lit (.bool false)], args := [d1, d2, d3] }
  | _ => none }
def SplitTellsWrongFalsely : Prop := splitTellsRow.holds Try.pinned (OpenSpec.ofChange splitTellsWrong)

/-- 'nostrolaw02.SplitWhole': WHATEVER THE INPUT: true; the input reads as it did. -/
def splitWholeSpec : ChangeSpec := { name := "splitWhole", fn := fun _ => fun
  | [d1, d2] => { results := [.lit (.bool true)], args := [d1, d2] }
  | _ => none }
def splitWholeRow : OpenClaim := { program := "ytghdadniddoboaa", sum := "28ed050f5c468616017e885baaf92913ba3fca97a34c6d6941b7f1d656a7b8fc", func := "nostro/nostrolaw02.SplitWhole", spec := "splitWhole", unfollowed := true, recurses := true, apart := false }
def SplitWholeSaid : Prop := splitWholeRow.holds Try.pinned (OpenSpec.ofChange splitWholeSpec)

/-- ITS FALSE NEIGHBOUR: 'it returns false'. Refute it at one input. -/
def splitWholeWrong : ChangeSpec := { name := "splitWhole", fn := fun _ => fun
  | [d1, d2] => { results := [.lit (.bool false)], args := [d1, d2] }
  | _ => none }
def SplitWholeWrongFalsely : Prop := splitWholeRow.holds Try.pinned (OpenSpec.ofChange splitWholeWrong)

/-- 'nostrolaw02.SplitNear': WHATEVER THE INPUT: true; the input reads as it did. -/
def splitNearSpec : ChangeSpec := { name := "splitNear", fn := fun _ => fun
  | [d1, d2] => { results := [.lit (.bool true)], args := [d1, d2] }
  | _ => none }
def splitNearRow : OpenClaim := { program := "ytghdadniddoboaa", sum := "28ed050f5c468616017e885baaf92913ba3fca97a34c6d6941b7f1d656a7b8fc", func := "nostro/nostrolaw02.SplitNear", spec := "splitNear", unfollowed := true, recurses := true, apart := false }
def SplitNearSaid : Prop := splitNearRow.holds Try.pinned (OpenSpec.ofChange splitNearSpec)

/-- ITS FALSE NEIGHBOUR: 'it returns false'. Refute it at one input. -/
def splitNearWrong : ChangeSpec := { name := "splitNear", fn := fun _ => fun
  | [d1, d2] => { results := [.lit (.bool false)], args := [d1, d2] }
  | _ => none }
def SplitNearWrongFalsely : Prop := splitNearRow.holds Try.pinned (OpenSpec.ofChange splitNearWrong)

/-- 'nostrolaw02.SplitFills': WHATEVER THE INPUT: true; the input reads as it did. -/
def splitFillsSpec : ChangeSpec := { name := "splitFills", fn := fun _ => fun
  | [d1, d2] => { results := [.lit (.bool true)], args := [d1, d2] }
  | _ => none }
def splitFillsRow : OpenClaim := { program := "ytghdadniddoboaa", sum := "28ed050f5c468616017e885baaf92913ba3fca97a34c6d6941b7f1d656a7b8fc", func := "nostro/nostrolaw02.SplitFills", spec := "splitFills", unfollowed := true, recurses := true, apart := false }
def SplitFillsSaid : Prop := splitFillsRow.holds Try.pinned (OpenSpec.ofChange splitFillsSpec)

/-- ITS FALSE NEIGHBOUR: 'it returns false'. Refute it at one input. -/
def splitFillsWrong : ChangeSpec := { name := "splitFills", fn := fun _ => fun
  | [d1, d2] => { results := [.lit (.bool false)], args := [d1, d2] }
  | _ => none }
def SplitFillsWrongFalsely : Prop := splitFillsRow.holds Try.pinned (OpenSpec.ofChange splitFillsWrong)

/-- 'nostrolaw09.WorthTells': WHATEVER THE INPUT: true; the input reads as it did. -/
def worthTellsSpec : ChangeSpec := { name := "worthTells", fn := fun _ => fun
  | [d1, d2, d3, d4] => { results := [.lit (.bool true)], args := [d1, d2, d3, d4] }
  | _ => none }
def worthTellsRow : OpenClaim := { program := "ytghdadniddoboaa", sum := "28ed050f5c468616017e885baaf92913ba3fca97a34c6d6941b7f1d656a7b8fc", func := "nostro/nostrolaw09.WorthTells", spec := "worthTells", unfollowed := true, recurses := true, apart := false }
def WorthTellsSaid : Prop := worthTellsRow.holds Try.pinned (OpenSpec.ofChange worthTellsSpec)

/-- ITS FALSE NEIGHBOUR: 'it returns false'. Refute it at one input. -/
def worthTellsWrong : ChangeSpec := { name := "worthTells", fn := fun _ => fun
  | [d1, d2, d3, d4] => { results := [.lit (.bool false)], args := [d1, d2, d3, d4] }
  | _ => none }
def WorthTellsWrongFalsely : Prop := worthTellsRow.holds Try.pinned (OpenSpec.ofChange worthTellsWrong)

/-- 'nostrolaw09.WorthKept': WHATEVER THE INPUT: true; the input reads as it did. -/
def worthKeptSpec : ChangeSpec := { name := "worthKept", fn := fun _ => fun
  | [d1, d2, d3] => { results := [.lit (.bool true)], args := [d1, d2, d3] }
  | _ => none }
def worthKeptRow : OpenClaim := { program := "ytghdadniddoboaa", sum := "28ed050f5c468616017e885baaf92913ba3fca97a34c6d6941b7f1d656a7b8fc", func := "nostro/nostrolaw09.WorthKept", spec := "worthKept", unfollowed := true, recurses := true, apart := false }
def WorthKeptSaid : Prop := worthKeptRow.holds Try.pinned (OpenSpec.ofChange worthKeptSpec)

/-- ITS FALSE NEIGHBOUR: 'it returns false'. Refute it at one input. -/
def worthKeptWrong : ChangeSpec := { name := "worthKept", fn := fun _ => fun
  | [d1, d2, d3] => { results := [.lit (.bool false)], args := [d1, d2, d3] }
  | _ => none }
def WorthKeptWrongFalsely : Prop := worthKeptRow.holds Try.pinned (OpenSpec.ofChange worthKeptWrong)

/-- 'nostrolaw09.WorthCuts': WHATEVER THE INPUT: true; the input reads as it did. -/
def worthCutsSpec : ChangeSpec := { name := "worthCuts", fn := fun _ => fun
  | [d1, d2, d3, d4, d5, d6] => { results := [.lit (.bool true)], args := [d1, d2, d3, d4, d5, d6] }
  | _ => none }
def worthCutsRow : OpenClaim := { program := "ytghdadniddoboaa", sum := "28ed050f5c468616017e885baaf92913ba3fca97a34c6d6941b7f1d656a7b8fc", func := "nostro/nostrolaw09.WorthCuts", spec := "worthCuts", unfollowed := true, recurses := true, apart := false }
def WorthCutsSaid : Prop := worthCutsRow.holds Try.pinned (OpenSpec.ofChange worthCutsSpec)

/-- ITS FALSE NEIGHBOUR: 'it returns false'. Refute it at one input. -/
def worthCutsWrong : ChangeSpec := { name := "worthCuts", fn := fun _ => fun
  | [d1, d2, d3, d4, d5, d6] => { results := [.lit (.bool false)], args := [d1, d2, d3, d4, d5, d6] }
  | _ => none }
def WorthCutsWrongFalsely : Prop := worthCutsRow.holds Try.pinned (OpenSpec.ofChange worthCutsWrong)

/-- 'nostrolaw10.RiskLimits': WHATEVER THE INPUT: true; the input reads as it did. -/
def riskLimitsSpec : ChangeSpec := { name := "riskLimits", fn := fun _ => fun
  | [d1, d2, d3, d4, d5, d6] => { results := [.lit (.bool true)], args := [d1, d2, d3, d4, d5, d6] }
  | _ => none }
def riskLimitsRow : OpenClaim := { program := "ytghdadniddoboaa", sum := "28ed050f5c468616017e885baaf92913ba3fca97a34c6d6941b7f1d656a7b8fc", func := "nostro/nostrolaw10.RiskLimits", spec := "riskLimits", inPlace := ["internal/abi.NoEscape"], unfollowed := true, recurses := true, apart := false }
def RiskLimitsSaid : Prop := riskLimitsRow.holds Try.pinned (OpenSpec.ofChange riskLimitsSpec)

/-- ITS FALSE NEIGHBOUR: 'it returns false'. Refute it at one input. -/
def riskLimitsWrong : ChangeSpec := { name := "riskLimits", fn := fun _ => fun
  | [d1, d2, d3, d4, d5, d6] => { results := [.lit (.bool false)], args := [d1, d2, d3, d4, d5, d6] }
  | _ => none }
def RiskLimitsWrongFalsely : Prop := riskLimitsRow.holds Try.pinned (OpenSpec.ofChange riskLimitsWrong)

/-- 'nostrolaw10.RiskHolds': WHATEVER THE INPUT: true; the input reads as it did. -/
def riskHoldsSpec : ChangeSpec := { name := "riskHolds", fn := fun _ => fun
  | [d1, d2, d3] => { results := [.lit (.bool true)], args := [d1, d2, d3] }
  | _ => none }
def riskHoldsRow : OpenClaim := { program := "ytghdadniddoboaa", sum := "28ed050f5c468616017e885baaf92913ba3fca97a34c6d6941b7f1d656a7b8fc", func := "nostro/nostrolaw10.RiskHolds", spec := "riskHolds", inPlace := ["internal/abi.NoEscape"], unfollowed := true, recurses := true, apart := false }
def RiskHoldsSaid : Prop := riskHoldsRow.holds Try.pinned (OpenSpec.ofChange riskHoldsSpec)

/-- ITS FALSE NEIGHBOUR: 'it returns false'. Refute it at one input. -/
def riskHoldsWrong : ChangeSpec := { name := "riskHolds", fn := fun _ => fun
  | [d1, d2, d3] => { results := [.lit (.bool false)], args := [d1, d2, d3] }
  | _ => none }
def RiskHoldsWrongFalsely : Prop := riskHoldsRow.holds Try.pinned (OpenSpec.ofChange riskHoldsWrong)

/-- 'nostrolaw10.RiskSpares': WHATEVER THE INPUT: true; the input reads as it did. -/
def riskSparesSpec : ChangeSpec := { name := "riskSpares", fn := fun _ => fun
  | [d1, d2, d3] => { results := [.lit (.bool true)], args := [d1, d2, d3] }
  | _ => none }
def riskSparesRow : OpenClaim := { program := "ytghdadniddoboaa", sum := "28ed050f5c468616017e885baaf92913ba3fca97a34c6d6941b7f1d656a7b8fc", func := "nostro/nostrolaw10.RiskSpares", spec := "riskSpares", inPlace := ["internal/abi.NoEscape"], unfollowed := true, recurses := true, apart := false }
def RiskSparesSaid : Prop := riskSparesRow.holds Try.pinned (OpenSpec.ofChange riskSparesSpec)

/-- ITS FALSE NEIGHBOUR: 'it returns false'. Refute it at one input. -/
def riskSparesWrong : ChangeSpec := { name := "riskSpares", fn := fun _ => fun
  | [d1, d2, d3] => { results := [.lit (.bool false)], args := [d1, d2, d3] }
  | _ => none }
def RiskSparesWrongFalsely : Prop := riskSparesRow.holds Try.pinned (OpenSpec.ofChange riskSparesWrong)

/- THE SECOND FORM. 'bulk': how many values and letters a reading holds, each counted each time it is reached (what is shared counts as often as it is met; a slice's spare places count too). A statement '..UptoSaid' is the law's where the arguments, and the package variables that the reading takes, are together of bulk at most 1048576: NARROWER than '..Said'. Prove '..Said' where nothing that the law and all that it calls make is longer than what came in: it says more and counts as full. Else prove '..UptoSaid'. A law counts once. -/
mutual
def uptoBulk {H : Type} : DataW H → Nat
  | .lit (.string bytes) => bytes.length + 1
  | .lit _ => 1
  | .nil => 1
  | .ptr d => uptoBulk d + 1
  | .slice elems spare => uptoBulkAll elems + uptoBulkAll spare + 1
  | .agg parts => uptoBulkAll parts + 1
  | .iface _ d => uptoBulk d + 1
  | .map entries => uptoBulkEntries entries + 1
  | .held _ => 1
def uptoBulkAll {H : Type} : List (DataW H) → Nat
  | [] => 0
  | d :: r => uptoBulk d + uptoBulkAll r
def uptoBulkEntries {H : Type} : List (Lit × DataW H) → Nat
  | [] => 0
  | x :: r => uptoBulkEntry x + uptoBulkEntries r
def uptoBulkEntry {H : Type} : Lit × DataW H → Nat
  | (.string bytes, d) => bytes.length + uptoBulk d + 1
  | (_, d) => uptoBulk d + 1
 end
def uptoSmall : (H : Type) → List (DataW H) → Bool := fun _ ds => decide (uptoBulkAll ds ≤ 1048576)
def OpenSpec.upto (s : _root_.Go.ChangeSpec) : _root_.Go.OpenSpec := { _root_.Go.OpenSpec.ofChange s with cond := some uptoSmall }

/-- 'nostrolaw02.SplitTells', WHERE WHAT IT READS IS OF BULK AT MOST 1048576: true; the input reads as it did. -/
def splitTellsUptoRow : OpenClaim := { program := "ytghdadniddoboaa", sum := "28ed050f5c468616017e885baaf92913ba3fca97a34c6d6941b7f1d656a7b8fc", func := "nostro/nostrolaw02.SplitTells", spec := "splitTells", unfollowed := true, recurses := true, apart := false, narrowed := true }
def SplitTellsUptoSaid : Prop := splitTellsUptoRow.holds Try.pinned (OpenSpec.upto splitTellsSpec)

/-- 'nostrolaw02.SplitWhole', WHERE WHAT IT READS IS OF BULK AT MOST 1048576: true; the input reads as it did. -/
def splitWholeUptoRow : OpenClaim := { program := "ytghdadniddoboaa", sum := "28ed050f5c468616017e885baaf92913ba3fca97a34c6d6941b7f1d656a7b8fc", func := "nostro/nostrolaw02.SplitWhole", spec := "splitWhole", unfollowed := true, recurses := true, apart := false, narrowed := true }
def SplitWholeUptoSaid : Prop := splitWholeUptoRow.holds Try.pinned (OpenSpec.upto splitWholeSpec)

/-- 'nostrolaw02.SplitNear', WHERE WHAT IT READS IS OF BULK AT MOST 1048576: true; the input reads as it did. -/
def splitNearUptoRow : OpenClaim := { program := "ytghdadniddoboaa", sum := "28ed050f5c468616017e885baaf92913ba3fca97a34c6d6941b7f1d656a7b8fc", func := "nostro/nostrolaw02.SplitNear", spec := "splitNear", unfollowed := true, recurses := true, apart := false, narrowed := true }
def SplitNearUptoSaid : Prop := splitNearUptoRow.holds Try.pinned (OpenSpec.upto splitNearSpec)

/-- 'nostrolaw02.SplitFills', WHERE WHAT IT READS IS OF BULK AT MOST 1048576: true; the input reads as it did. -/
def splitFillsUptoRow : OpenClaim := { program := "ytghdadniddoboaa", sum := "28ed050f5c468616017e885baaf92913ba3fca97a34c6d6941b7f1d656a7b8fc", func := "nostro/nostrolaw02.SplitFills", spec := "splitFills", unfollowed := true, recurses := true, apart := false, narrowed := true }
def SplitFillsUptoSaid : Prop := splitFillsUptoRow.holds Try.pinned (OpenSpec.upto splitFillsSpec)

/-- 'nostrolaw09.WorthTells', WHERE WHAT IT READS IS OF BULK AT MOST 1048576: true; the input reads as it did. -/
def worthTellsUptoRow : OpenClaim := { program := "ytghdadniddoboaa", sum := "28ed050f5c468616017e885baaf92913ba3fca97a34c6d6941b7f1d656a7b8fc", func := "nostro/nostrolaw09.WorthTells", spec := "worthTells", unfollowed := true, recurses := true, apart := false, narrowed := true }
def WorthTellsUptoSaid : Prop := worthTellsUptoRow.holds Try.pinned (OpenSpec.upto worthTellsSpec)

/-- 'nostrolaw09.WorthKept', WHERE WHAT IT READS IS OF BULK AT MOST 1048576: true; the input reads as it did. -/
def worthKeptUptoRow : OpenClaim := { program := "ytghdadniddoboaa", sum := "28ed050f5c468616017e885baaf92913ba3fca97a34c6d6941b7f1d656a7b8fc", func := "nostro/nostrolaw09.WorthKept", spec := "worthKept", unfollowed := true, recurses := true, apart := false, narrowed := true }
def WorthKeptUptoSaid : Prop := worthKeptUptoRow.holds Try.pinned (OpenSpec.upto worthKeptSpec)

/-- 'nostrolaw09.WorthCuts', WHERE WHAT IT READS IS OF BULK AT MOST 1048576: true; the input reads as it did. -/
def worthCutsUptoRow : OpenClaim := { program := "ytghdadniddoboaa", sum := "28ed050f5c468616017e885baaf92913ba3fca97a34c6d6941b7f1d656a7b8fc", func := "nostro/nostrolaw09.WorthCuts", spec := "worthCuts", unfollowed := true, recurses := true, apart := false, narrowed := true }
def WorthCutsUptoSaid : Prop := worthCutsUptoRow.holds Try.pinned (OpenSpec.upto worthCutsSpec)

/-- 'nostrolaw10.RiskLimits', WHERE WHAT IT READS IS OF BULK AT MOST 1048576: true; the input reads as it did. -/
def riskLimitsUptoRow : OpenClaim := { program := "ytghdadniddoboaa", sum := "28ed050f5c468616017e885baaf92913ba3fca97a34c6d6941b7f1d656a7b8fc", func := "nostro/nostrolaw10.RiskLimits", spec := "riskLimits", inPlace := ["internal/abi.NoEscape"], unfollowed := true, recurses := true, apart := false, narrowed := true }
def RiskLimitsUptoSaid : Prop := riskLimitsUptoRow.holds Try.pinned (OpenSpec.upto riskLimitsSpec)

/-- 'nostrolaw10.RiskHolds', WHERE WHAT IT READS IS OF BULK AT MOST 1048576: true; the input reads as it did. -/
def riskHoldsUptoRow : OpenClaim := { program := "ytghdadniddoboaa", sum := "28ed050f5c468616017e885baaf92913ba3fca97a34c6d6941b7f1d656a7b8fc", func := "nostro/nostrolaw10.RiskHolds", spec := "riskHolds", inPlace := ["internal/abi.NoEscape"], unfollowed := true, recurses := true, apart := false, narrowed := true }
def RiskHoldsUptoSaid : Prop := riskHoldsUptoRow.holds Try.pinned (OpenSpec.upto riskHoldsSpec)

/-- 'nostrolaw10.RiskSpares', WHERE WHAT IT READS IS OF BULK AT MOST 1048576: true; the input reads as it did. -/
def riskSparesUptoRow : OpenClaim := { program := "ytghdadniddoboaa", sum := "28ed050f5c468616017e885baaf92913ba3fca97a34c6d6941b7f1d656a7b8fc", func := "nostro/nostrolaw10.RiskSpares", spec := "riskSpares", inPlace := ["internal/abi.NoEscape"], unfollowed := true, recurses := true, apart := false, narrowed := true }
def RiskSparesUptoSaid : Prop := riskSparesUptoRow.holds Try.pinned (OpenSpec.upto riskSparesSpec)

end Rows
end Go.Proofs.Ytghdadniddoboaa
