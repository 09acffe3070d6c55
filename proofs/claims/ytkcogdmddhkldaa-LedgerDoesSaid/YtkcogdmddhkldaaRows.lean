/-
  No cell of these rows narrows 'for every input' (looked for: loops, veiled, ifaces, maps, wideKeys, modest, calm, conditions, laid).
  DERIVED. THE GIVEN ROWS OF THIS SEAT. 11 by the template 'for every input the law returns true; each argument reads behind the call as it read before'; 0 by the template 'total and deterministic' (their statements: YtkcogdmddhkldaaTotals.lean).
  GIVEN WITH THE SEED: the statements are not yours to turn. If you find one false, say at which input.
  Laid BY PROGRAM, IN A SANDBOX (cutbox-rows.mjs): the forced cells as the released guide's own fill.sh prints them over the translation 58008c3e17ca0fa2… (all of the seat's roots in one cut). By AI agents, Wed Nov 11 2026. No macro, syntax, notation, axiom, sorry.
-/
import Derived.Test.YtkcogdmddhkldaaChecked
import GoSem.Claim
import GoSem.ClaimJoined
import GoSem.ClaimMapViews
import Derived.JoinedTies
import Derived.KernelRfl
namespace Go.Proofs.Ytkcogdmddhkldaa
/- THE CELL 'sum', in the pinned program and in every row, IS THE sha256 OF THE DUMP (.gsa) THAT YtkcogdmddhkldaaProg.lean LOADS. Nothing in Lean hashes anything: it is a label: what it is worth is what the hold of that sum in a sandbox is worth. -/
noncomputable def Try.pinned : Pinned := { name := "ytkcogdmddhkldaa", sum := "58008c3e17ca0fa28c9133ca6fd7e895b7a8fefe7092530f38213e38312854fc", checked := Try.checked }
namespace Rows
def none {H : Type} : Left H := { results := [], args := [] }

/-- 'nostrolaw14.InoutTells': WHATEVER THE INPUT: true; the input reads as it did. -/
def inoutTellsSpec : ChangeSpec := { name := "inoutTells", fn := fun _ => fun
  | [d1, d2, d3] => { results := [.lit (.bool true)], args := [d1, d2, d3] }
  | _ => none }
def inoutTellsRow : OpenClaim := { program := "ytkcogdmddhkldaa", sum := "58008c3e17ca0fa28c9133ca6fd7e895b7a8fefe7092530f38213e38312854fc", func := "nostro/nostrolaw14.InoutTells", spec := "inoutTells", unfollowed := true, recurses := true, apart := false }
def InoutTellsSaid : Prop := inoutTellsRow.holds Try.pinned (OpenSpec.ofChange inoutTellsSpec)

/-- ITS FALSE NEIGHBOUR: 'it returns false'. Refute it at one input. -/
def inoutTellsWrong : ChangeSpec := { name := "inoutTells", fn := fun _ => fun
  | [d1, d2, d3] => { results := [.lit (.bool false)], args := [d1, d2, d3] }
  | _ => none }
def InoutTellsWrongFalsely : Prop := inoutTellsRow.holds Try.pinned (OpenSpec.ofChange inoutTellsWrong)

/-- 'nostrolaw14.InoutKeeps': WHATEVER THE INPUT: true; the input reads as it did. -/
def inoutKeepsSpec : ChangeSpec := { name := "inoutKeeps", fn := fun _ => fun
  | [d1, d2, d3] => { results := [.lit (.bool true)], args := [d1, d2, d3] }
  | _ => none }
def inoutKeepsRow : OpenClaim := { program := "ytkcogdmddhkldaa", sum := "58008c3e17ca0fa28c9133ca6fd7e895b7a8fefe7092530f38213e38312854fc", func := "nostro/nostrolaw14.InoutKeeps", spec := "inoutKeeps", unfollowed := true, recurses := true, apart := false }
def InoutKeepsSaid : Prop := inoutKeepsRow.holds Try.pinned (OpenSpec.ofChange inoutKeepsSpec)

/-- ITS FALSE NEIGHBOUR: 'it returns false'. Refute it at one input. -/
def inoutKeepsWrong : ChangeSpec := { name := "inoutKeeps", fn := fun _ => fun
  | [d1, d2, d3] => { results := [.lit (.bool false)], args := [d1, d2, d3] }
  | _ => none }
def InoutKeepsWrongFalsely : Prop := inoutKeepsRow.holds Try.pinned (OpenSpec.ofChange inoutKeepsWrong)

/-- 'nostrolaw14.InoutClears': WHATEVER THE INPUT: true; the input reads as it did. -/
def inoutClearsSpec : ChangeSpec := { name := "inoutClears", fn := fun _ => fun
  | [d1, d2] => { results := [.lit (.bool true)], args := [d1, d2] }
  | _ => none }
def inoutClearsRow : OpenClaim := { program := "ytkcogdmddhkldaa", sum := "58008c3e17ca0fa28c9133ca6fd7e895b7a8fefe7092530f38213e38312854fc", func := "nostro/nostrolaw14.InoutClears", spec := "inoutClears", unfollowed := true, recurses := true, apart := false }
def InoutClearsSaid : Prop := inoutClearsRow.holds Try.pinned (OpenSpec.ofChange inoutClearsSpec)

/-- ITS FALSE NEIGHBOUR: 'it returns false'. Refute it at one input. -/
def inoutClearsWrong : ChangeSpec := { name := "inoutClears", fn := fun _ => fun
  | [d1, d2] => { results := [.lit (.bool false)], args := [d1, d2] }
  | _ => none }
def InoutClearsWrongFalsely : Prop := inoutClearsRow.holds Try.pinned (OpenSpec.ofChange inoutClearsWrong)

/-- 'nostrolaw02.SplitFills': WHATEVER THE INPUT: true; the input reads as it did. -/
def splitFillsSpec : ChangeSpec := { name := "splitFills", fn := fun _ => fun
  | [d1, d2] => { results := [.lit (.bool true)], args := [d1, d2] }
  | _ => none }
def splitFillsRow : OpenClaim := { program := "ytkcogdmddhkldaa", sum := "58008c3e17ca0fa28c9133ca6fd7e895b7a8fefe7092530f38213e38312854fc", func := "nostro/nostrolaw02.SplitFills", spec := "splitFills", unfollowed := true, recurses := true, apart := false }
def SplitFillsSaid : Prop := splitFillsRow.holds Try.pinned (OpenSpec.ofChange splitFillsSpec)

/-- ITS FALSE NEIGHBOUR: 'it returns false'. Refute it at one input. -/
def splitFillsWrong : ChangeSpec := { name := "splitFills", fn := fun _ => fun
  | [d1, d2] => { results := [.lit (.bool false)], args := [d1, d2] }
  | _ => none }
def SplitFillsWrongFalsely : Prop := splitFillsRow.holds Try.pinned (OpenSpec.ofChange splitFillsWrong)

/-- 'nostrolaw15.LenderDoes': WHATEVER THE INPUT: true; the input reads as it did. -/
def lenderDoesSpec : ChangeSpec := { name := "lenderDoes", fn := fun _ => fun
  | [d1, d2, d3] => { results := [.lit (.bool true)], args := [d1, d2, d3] }
  | _ => none }
def lenderDoesRow : OpenClaim := { program := "ytkcogdmddhkldaa", sum := "58008c3e17ca0fa28c9133ca6fd7e895b7a8fefe7092530f38213e38312854fc", func := "nostro/nostrolaw15.LenderDoes", spec := "lenderDoes", unfollowed := true, recurses := true, apart := false }
def LenderDoesSaid : Prop := lenderDoesRow.holds Try.pinned (OpenSpec.ofChange lenderDoesSpec)

/-- ITS FALSE NEIGHBOUR: 'it returns false'. Refute it at one input. -/
def lenderDoesWrong : ChangeSpec := { name := "lenderDoes", fn := fun _ => fun
  | [d1, d2, d3] => { results := [.lit (.bool false)], args := [d1, d2, d3] }
  | _ => none }
def LenderDoesWrongFalsely : Prop := lenderDoesRow.holds Try.pinned (OpenSpec.ofChange lenderDoesWrong)

/-- 'nostrolaw15.LenderReads': WHATEVER THE INPUT: true; the input reads as it did. -/
def lenderReadsSpec : ChangeSpec := { name := "lenderReads", fn := fun _ => fun
  | [d] => { results := [.lit (.bool true)], args := [d] }
  | _ => none }
def lenderReadsRow : OpenClaim := { program := "ytkcogdmddhkldaa", sum := "58008c3e17ca0fa28c9133ca6fd7e895b7a8fefe7092530f38213e38312854fc", func := "nostro/nostrolaw15.LenderReads", spec := "lenderReads", unfollowed := true, recurses := true, apart := false }
def LenderReadsSaid : Prop := lenderReadsRow.holds Try.pinned (OpenSpec.ofChange lenderReadsSpec)

/-- ITS FALSE NEIGHBOUR: 'it returns false'. Refute it at one input. -/
def lenderReadsWrong : ChangeSpec := { name := "lenderReads", fn := fun _ => fun
  | [d] => { results := [.lit (.bool false)], args := [d] }
  | _ => none }
def LenderReadsWrongFalsely : Prop := lenderReadsRow.holds Try.pinned (OpenSpec.ofChange lenderReadsWrong)

/-- 'nostrolaw15.LenderWhole': WHATEVER THE INPUT: true; the input reads as it did. -/
def lenderWholeSpec : ChangeSpec := { name := "lenderWhole", fn := fun _ => fun
  | [d1, d2, d3, d4, d5] => { results := [.lit (.bool true)], args := [d1, d2, d3, d4, d5] }
  | _ => none }
def lenderWholeRow : OpenClaim := { program := "ytkcogdmddhkldaa", sum := "58008c3e17ca0fa28c9133ca6fd7e895b7a8fefe7092530f38213e38312854fc", func := "nostro/nostrolaw15.LenderWhole", spec := "lenderWhole", unfollowed := true, recurses := true, apart := false }
def LenderWholeSaid : Prop := lenderWholeRow.holds Try.pinned (OpenSpec.ofChange lenderWholeSpec)

/-- ITS FALSE NEIGHBOUR: 'it returns false'. Refute it at one input. -/
def lenderWholeWrong : ChangeSpec := { name := "lenderWhole", fn := fun _ => fun
  | [d1, d2, d3, d4, d5] => { results := [.lit (.bool false)], args := [d1, d2, d3, d4, d5] }
  | _ => none }
def LenderWholeWrongFalsely : Prop := lenderWholeRow.holds Try.pinned (OpenSpec.ofChange lenderWholeWrong)

/-- 'nostrolaw08.LedgerDoes': WHATEVER THE INPUT: true; the input reads as it did. -/
def ledgerDoesSpec : ChangeSpec := { name := "ledgerDoes", fn := fun _ => fun
  | [d1, d2, d3] => { results := [.lit (.bool true)], args := [d1, d2, d3] }
  | _ => none }
def ledgerDoesRow : OpenClaim := { program := "ytkcogdmddhkldaa", sum := "58008c3e17ca0fa28c9133ca6fd7e895b7a8fefe7092530f38213e38312854fc", func := "nostro/nostrolaw08.LedgerDoes", spec := "ledgerDoes", inPlace := ["internal/abi.NoEscape"], unfollowed := true, recurses := true, apart := false }
def LedgerDoesSaid : Prop := ledgerDoesRow.holds Try.pinned (OpenSpec.ofChange ledgerDoesSpec)

/-- ITS FALSE NEIGHBOUR: 'it returns false'. Refute it at one input. -/
def ledgerDoesWrong : ChangeSpec := { name := "ledgerDoes", fn := fun _ => fun
  | [d1, d2, d3] => { results := [.lit (.bool false)], args := [d1, d2, d3] }
  | _ => none }
def LedgerDoesWrongFalsely : Prop := ledgerDoesRow.holds Try.pinned (OpenSpec.ofChange ledgerDoesWrong)

/-- 'nostrolaw08.LedgerSums': WHATEVER THE INPUT: true; the input reads as it did. -/
def ledgerSumsSpec : ChangeSpec := { name := "ledgerSums", fn := fun _ => fun
  | [d1, d2, d3] => { results := [.lit (.bool true)], args := [d1, d2, d3] }
  | _ => none }
def ledgerSumsRow : OpenClaim := { program := "ytkcogdmddhkldaa", sum := "58008c3e17ca0fa28c9133ca6fd7e895b7a8fefe7092530f38213e38312854fc", func := "nostro/nostrolaw08.LedgerSums", spec := "ledgerSums", inPlace := ["internal/abi.NoEscape"], unfollowed := true, recurses := true, apart := false }
def LedgerSumsSaid : Prop := ledgerSumsRow.holds Try.pinned (OpenSpec.ofChange ledgerSumsSpec)

/-- ITS FALSE NEIGHBOUR: 'it returns false'. Refute it at one input. -/
def ledgerSumsWrong : ChangeSpec := { name := "ledgerSums", fn := fun _ => fun
  | [d1, d2, d3] => { results := [.lit (.bool false)], args := [d1, d2, d3] }
  | _ => none }
def LedgerSumsWrongFalsely : Prop := ledgerSumsRow.holds Try.pinned (OpenSpec.ofChange ledgerSumsWrong)

/-- 'nostrolaw08.LedgerBack': WHATEVER THE INPUT: true; the input reads as it did. -/
def ledgerBackSpec : ChangeSpec := { name := "ledgerBack", fn := fun _ => fun
  | [d1, d2, d3, d4, d5] => { results := [.lit (.bool true)], args := [d1, d2, d3, d4, d5] }
  | _ => none }
def ledgerBackRow : OpenClaim := { program := "ytkcogdmddhkldaa", sum := "58008c3e17ca0fa28c9133ca6fd7e895b7a8fefe7092530f38213e38312854fc", func := "nostro/nostrolaw08.LedgerBack", spec := "ledgerBack", inPlace := ["internal/abi.NoEscape"], unfollowed := true, recurses := true, apart := false }
def LedgerBackSaid : Prop := ledgerBackRow.holds Try.pinned (OpenSpec.ofChange ledgerBackSpec)

/-- ITS FALSE NEIGHBOUR: 'it returns false'. Refute it at one input. -/
def ledgerBackWrong : ChangeSpec := { name := "ledgerBack", fn := fun _ => fun
  | [d1, d2, d3, d4, d5] => { results := [.lit (.bool false)], args := [d1, d2, d3, d4, d5] }
  | _ => none }
def LedgerBackWrongFalsely : Prop := ledgerBackRow.holds Try.pinned (OpenSpec.ofChange ledgerBackWrong)

/-- 'nostrolaw08.LedgerOn': WHATEVER THE INPUT: true; the input reads as it did. -/
def ledgerOnSpec : ChangeSpec := { name := "ledgerOn", fn := fun _ => fun
  | [d1, d2, d3, d4] => { results := [.lit (.bool true)], args := [d1, d2, d3, d4] }
  | _ => none }
def ledgerOnRow : OpenClaim := { program := "ytkcogdmddhkldaa", sum := "58008c3e17ca0fa28c9133ca6fd7e895b7a8fefe7092530f38213e38312854fc", func := "nostro/nostrolaw08.LedgerOn", spec := "ledgerOn", inPlace := ["internal/abi.NoEscape"], unfollowed := true, recurses := true, apart := false }
def LedgerOnSaid : Prop := ledgerOnRow.holds Try.pinned (OpenSpec.ofChange ledgerOnSpec)

/-- ITS FALSE NEIGHBOUR: 'it returns false'. Refute it at one input. -/
def ledgerOnWrong : ChangeSpec := { name := "ledgerOn", fn := fun _ => fun
  | [d1, d2, d3, d4] => { results := [.lit (.bool false)], args := [d1, d2, d3, d4] }
  | _ => none }
def LedgerOnWrongFalsely : Prop := ledgerOnRow.holds Try.pinned (OpenSpec.ofChange ledgerOnWrong)

/- THE SECOND FORM. 'bulk': how many values and letters a reading holds, each counted each time it is reached (what is shared counts as often as it is met; a slice's spare places count too). A statement '..UptoSaid' is the law's where the arguments, and the package variables that the reading takes, are together of bulk at most 1048576: NARROWER than '..Said'. Prove '..Said' where nothing that the law and all that it calls make is longer than what came in: it says more and counts as full. Else prove '..UptoSaid'. A law counts once. -/
mutual
def uptoBulk {H : Type} : DataW H → Nat
  | .lit (.string bytes) => bytes.length + 1
  | .lit _ => 1
  | .nil => 1
  | .ptr d => uptoBulk d + 1
  | .slice elems spare => uptoBulkAll elems + uptoBulkAll spare + 1
  | .agg parts => uptoBulkAll parts + 1
  | .iface _ d => uptoBulk d + 1
  | .map entries => uptoBulkEntries entries + 1
  | .held _ => 1
def uptoBulkAll {H : Type} : List (DataW H) → Nat
  | [] => 0
  | d :: r => uptoBulk d + uptoBulkAll r
def uptoBulkEntries {H : Type} : List (Lit × DataW H) → Nat
  | [] => 0
  | x :: r => uptoBulkEntry x + uptoBulkEntries r
def uptoBulkEntry {H : Type} : Lit × DataW H → Nat
  | (.string bytes, d) => bytes.length + uptoBulk d + 1
  | (_, d) => uptoBulk d + 1
 end
def uptoSmall : (H : Type) → List (DataW H) → Bool := fun _ ds => decide (uptoBulkAll ds ≤ 1048576)
def OpenSpec.upto (s : _root_.Go.ChangeSpec) : _root_.Go.OpenSpec := { _root_.Go.OpenSpec.ofChange s with cond := some uptoSmall }

/-- 'nostrolaw14.InoutTells', WHERE WHAT IT READS IS OF BULK AT MOST 1048576: true; the input reads as it did. -/
def inoutTellsUptoRow : OpenClaim := { program := "ytkcogdmddhkldaa", sum := "58008c3e17ca0fa28c9133ca6fd7e895b7a8fefe7092530f38213e38312854fc", func := "nostro/nostrolaw14.InoutTells", spec := "inoutTells", unfollowed := true, recurses := true, apart := false, narrowed := true }
def InoutTellsUptoSaid : Prop := inoutTellsUptoRow.holds Try.pinned (OpenSpec.upto inoutTellsSpec)

/-- 'nostrolaw14.InoutKeeps', WHERE WHAT IT READS IS OF BULK AT MOST 1048576: true; the input reads as it did. -/
def inoutKeepsUptoRow : OpenClaim := { program := "ytkcogdmddhkldaa", sum := "58008c3e17ca0fa28c9133ca6fd7e895b7a8fefe7092530f38213e38312854fc", func := "nostro/nostrolaw14.InoutKeeps", spec := "inoutKeeps", unfollowed := true, recurses := true, apart := false, narrowed := true }
def InoutKeepsUptoSaid : Prop := inoutKeepsUptoRow.holds Try.pinned (OpenSpec.upto inoutKeepsSpec)

/-- 'nostrolaw14.InoutClears', WHERE WHAT IT READS IS OF BULK AT MOST 1048576: true; the input reads as it did. -/
def inoutClearsUptoRow : OpenClaim := { program := "ytkcogdmddhkldaa", sum := "58008c3e17ca0fa28c9133ca6fd7e895b7a8fefe7092530f38213e38312854fc", func := "nostro/nostrolaw14.InoutClears", spec := "inoutClears", unfollowed := true, recurses := true, apart := false, narrowed := true }
def InoutClearsUptoSaid : Prop := inoutClearsUptoRow.holds Try.pinned (OpenSpec.upto inoutClearsSpec)

/-- 'nostrolaw02.SplitFills', WHERE WHAT IT READS IS OF BULK AT MOST 1048576: true; the input reads as it did. -/
def splitFillsUptoRow : OpenClaim := { program := "ytkcogdmddhkldaa", sum := "58008c3e17ca0fa28c9133ca6fd7e895b7a8fefe7092530f38213e38312854fc", func := "nostro/nostrolaw02.SplitFills", spec := "splitFills", unfollowed := true, recurses := true, apart := false, narrowed := true }
def SplitFillsUptoSaid : Prop := splitFillsUptoRow.holds Try.pinned (OpenSpec.upto splitFillsSpec)

/-- 'nostrolaw15.LenderDoes', WHERE WHAT IT READS IS OF BULK AT MOST 1048576: true; the input reads as it did. -/
def lenderDoesUptoRow : OpenClaim := { program := "ytkcogdmddhkldaa", sum := "58008c3e17ca0fa28c9133ca6fd7e895b7a8fefe7092530f38213e38312854fc", func := "nostro/nostrolaw15.LenderDoes", spec := "lenderDoes", unfollowed := true, recurses := true, apart := false, narrowed := true }
def LenderDoesUptoSaid : Prop := lenderDoesUptoRow.holds Try.pinned (OpenSpec.upto lenderDoesSpec)

/-- 'nostrolaw15.LenderReads', WHERE WHAT IT READS IS OF BULK AT MOST 1048576: true; the input reads as it did. -/
def lenderReadsUptoRow : OpenClaim := { program := "ytkcogdmddhkldaa", sum := "58008c3e17ca0fa28c9133ca6fd7e895b7a8fefe7092530f38213e38312854fc", func := "nostro/nostrolaw15.LenderReads", spec := "lenderReads", unfollowed := true, recurses := true, apart := false, narrowed := true }
def LenderReadsUptoSaid : Prop := lenderReadsUptoRow.holds Try.pinned (OpenSpec.upto lenderReadsSpec)

/-- 'nostrolaw15.LenderWhole', WHERE WHAT IT READS IS OF BULK AT MOST 1048576: true; the input reads as it did. -/
def lenderWholeUptoRow : OpenClaim := { program := "ytkcogdmddhkldaa", sum := "58008c3e17ca0fa28c9133ca6fd7e895b7a8fefe7092530f38213e38312854fc", func := "nostro/nostrolaw15.LenderWhole", spec := "lenderWhole", unfollowed := true, recurses := true, apart := false, narrowed := true }
def LenderWholeUptoSaid : Prop := lenderWholeUptoRow.holds Try.pinned (OpenSpec.upto lenderWholeSpec)

/-- 'nostrolaw08.LedgerDoes', WHERE WHAT IT READS IS OF BULK AT MOST 1048576: true; the input reads as it did. -/
def ledgerDoesUptoRow : OpenClaim := { program := "ytkcogdmddhkldaa", sum := "58008c3e17ca0fa28c9133ca6fd7e895b7a8fefe7092530f38213e38312854fc", func := "nostro/nostrolaw08.LedgerDoes", spec := "ledgerDoes", inPlace := ["internal/abi.NoEscape"], unfollowed := true, recurses := true, apart := false, narrowed := true }
def LedgerDoesUptoSaid : Prop := ledgerDoesUptoRow.holds Try.pinned (OpenSpec.upto ledgerDoesSpec)

/-- 'nostrolaw08.LedgerSums', WHERE WHAT IT READS IS OF BULK AT MOST 1048576: true; the input reads as it did. -/
def ledgerSumsUptoRow : OpenClaim := { program := "ytkcogdmddhkldaa", sum := "58008c3e17ca0fa28c9133ca6fd7e895b7a8fefe7092530f38213e38312854fc", func := "nostro/nostrolaw08.LedgerSums", spec := "ledgerSums", inPlace := ["internal/abi.NoEscape"], unfollowed := true, recurses := true, apart := false, narrowed := true }
def LedgerSumsUptoSaid : Prop := ledgerSumsUptoRow.holds Try.pinned (OpenSpec.upto ledgerSumsSpec)

/-- 'nostrolaw08.LedgerBack', WHERE WHAT IT READS IS OF BULK AT MOST 1048576: true; the input reads as it did. -/
def ledgerBackUptoRow : OpenClaim := { program := "ytkcogdmddhkldaa", sum := "58008c3e17ca0fa28c9133ca6fd7e895b7a8fefe7092530f38213e38312854fc", func := "nostro/nostrolaw08.LedgerBack", spec := "ledgerBack", inPlace := ["internal/abi.NoEscape"], unfollowed := true, recurses := true, apart := false, narrowed := true }
def LedgerBackUptoSaid : Prop := ledgerBackUptoRow.holds Try.pinned (OpenSpec.upto ledgerBackSpec)

/-- 'nostrolaw08.LedgerOn', WHERE WHAT IT READS IS OF BULK AT MOST 1048576: true; the input reads as it did. -/
def ledgerOnUptoRow : OpenClaim := { program := "ytkcogdmddhkldaa", sum := "58008c3e17ca0fa28c9133ca6fd7e895b7a8fefe7092530f38213e38312854fc", func := "nostro/nostrolaw08.LedgerOn", spec := "ledgerOn", inPlace := ["internal/abi.NoEscape"], unfollowed := true, recurses := true, apart := false, narrowed := true }
def LedgerOnUptoSaid : Prop := ledgerOnUptoRow.holds Try.pinned (OpenSpec.upto ledgerOnSpec)

end Rows
end Go.Proofs.Ytkcogdmddhkldaa
