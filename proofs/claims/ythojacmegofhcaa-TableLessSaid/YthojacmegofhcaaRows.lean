/-
  No cell of these rows narrows 'for every input' (looked for: loops, veiled, ifaces, maps, wideKeys, modest, calm, conditions, laid).
  DERIVED. THE GIVEN ROWS OF THIS SEAT. 11 by the template 'for every input the law returns true; each argument reads behind the call as it read before'; 0 by the template 'total and deterministic' (their statements: YthojacmegofhcaaTotals.lean).
  GIVEN WITH THE SEED: the statements are not yours to turn. If you find one false, say at which input.
  Laid BY PROGRAM, IN A SANDBOX (cutbox-rows.mjs): the forced cells as the released guide's own fill.sh prints them over the translation 6ea21e0baabf62c3… (all of the seat's roots in one cut). By AI agents, Wed Nov 11 2026. No macro, syntax, notation, axiom, sorry.
-/
import Derived.Test.YthojacmegofhcaaChecked
import GoSem.Claim
import GoSem.ClaimJoined
import GoSem.ClaimMapViews
import Derived.JoinedTies
import Derived.KernelRfl
namespace Go.Proofs.Ythojacmegofhcaa
/- THE CELL 'sum', in the pinned program and in every row, IS THE sha256 OF THE DUMP (.gsa) THAT YthojacmegofhcaaProg.lean LOADS. Nothing in Lean hashes anything: it is a label: what it is worth is what the hold of that sum in a sandbox is worth. -/
noncomputable def Try.pinned : Pinned := { name := "ythojacmegofhcaa", sum := "6ea21e0baabf62c3ad8c839fdc874ab0070ba2cd70c364b2f909845a0b6ba9d9", checked := Try.checked }
namespace Rows
def none {H : Type} : Left H := { results := [], args := [] }

/-- 'nostrolaw18.DayTells': WHATEVER THE INPUT: true; the input reads as it did. -/
def dayTellsSpec : ChangeSpec := { name := "dayTells", fn := fun _ => fun
  | [d1, d2, d3, d4, d5] => { results := [.lit (.bool true)], args := [d1, d2, d3, d4, d5] }
  | _ => none }
def dayTellsRow : OpenClaim := { program := "ythojacmegofhcaa", sum := "6ea21e0baabf62c3ad8c839fdc874ab0070ba2cd70c364b2f909845a0b6ba9d9", func := "nostro/nostrolaw18.DayTells", spec := "dayTells", unfollowed := true, recurses := true, apart := false }
def DayTellsSaid : Prop := dayTellsRow.holds Try.pinned (OpenSpec.ofChange dayTellsSpec)

/-- ITS FALSE NEIGHBOUR: 'it returns false'. Refute it at one input. -/
def dayTellsWrong : ChangeSpec := { name := "dayTells", fn := fun _ => fun
  | [d1, d2, d3, d4, d5] => { results := [.lit (.bool false)], args := [d1, d2, d3, d4, d5] }
  | _ => none }
def DayTellsWrongFalsely : Prop := dayTellsRow.holds Try.pinned (OpenSpec.ofChange dayTellsWrong)

/-- 'nostrolaw18.DayOn': WHATEVER THE INPUT: true; the input reads as it did. -/
def dayOnSpec : ChangeSpec := { name := "dayOn", fn := fun _ => fun
  | [d1, d2, d3] => { results := [.lit (.bool true)], args := [d1, d2, d3] }
  | _ => none }
def dayOnRow : OpenClaim := { program := "ythojacmegofhcaa", sum := "6ea21e0baabf62c3ad8c839fdc874ab0070ba2cd70c364b2f909845a0b6ba9d9", func := "nostro/nostrolaw18.DayOn", spec := "dayOn", unfollowed := true, recurses := true, apart := false }
def DayOnSaid : Prop := dayOnRow.holds Try.pinned (OpenSpec.ofChange dayOnSpec)

/-- ITS FALSE NEIGHBOUR: 'it returns false'. Refute it at one input. -/
def dayOnWrong : ChangeSpec := { name := "dayOn", fn := fun _ => fun
  | [d1, d2, d3] => { results := [.lit (.bool false)], args := [d1, d2, d3] }
  | _ => none }
def DayOnWrongFalsely : Prop := dayOnRow.holds Try.pinned (OpenSpec.ofChange dayOnWrong)

/-- 'nostrolaw01.MoneySums': WHATEVER THE INPUT: true; the input reads as it did. -/
def moneySumsSpec : ChangeSpec := { name := "moneySums", fn := fun _ => fun
  | [d1, d2] => { results := [.lit (.bool true)], args := [d1, d2] }
  | _ => none }
def moneySumsRow : OpenClaim := { program := "ythojacmegofhcaa", sum := "6ea21e0baabf62c3ad8c839fdc874ab0070ba2cd70c364b2f909845a0b6ba9d9", func := "nostro/nostrolaw01.MoneySums", spec := "moneySums", recurses := true, apart := false }
def MoneySumsSaid : Prop := moneySumsRow.holds Try.pinned (OpenSpec.ofChange moneySumsSpec)

/-- ITS FALSE NEIGHBOUR: 'it returns false'. Refute it at one input. -/
def moneySumsWrong : ChangeSpec := { name := "moneySums", fn := fun _ => fun
  | [d1, d2] => { results := [.lit (.bool false)], args := [d1, d2] }
  | _ => none }
def MoneySumsWrongFalsely : Prop := moneySumsRow.holds Try.pinned (OpenSpec.ofChange moneySumsWrong)

/-- 'nostrolaw01.MoneyParts': WHATEVER THE INPUT: true; the input reads as it did. -/
def moneyPartsSpec : ChangeSpec := { name := "moneyParts", fn := fun _ => fun
  | [d1, d2, d3, d4] => { results := [.lit (.bool true)], args := [d1, d2, d3, d4] }
  | _ => none }
def moneyPartsRow : OpenClaim := { program := "ythojacmegofhcaa", sum := "6ea21e0baabf62c3ad8c839fdc874ab0070ba2cd70c364b2f909845a0b6ba9d9", func := "nostro/nostrolaw01.MoneyParts", spec := "moneyParts", recurses := true, apart := false }
def MoneyPartsSaid : Prop := moneyPartsRow.holds Try.pinned (OpenSpec.ofChange moneyPartsSpec)

/-- ITS FALSE NEIGHBOUR: 'it returns false'. Refute it at one input. -/
def moneyPartsWrong : ChangeSpec := { name := "moneyParts", fn := fun _ => fun
  | [d1, d2, d3, d4] => { results := [.lit (.bool false)], args := [d1, d2, d3, d4] }
  | _ => none }
def MoneyPartsWrongFalsely : Prop := moneyPartsRow.holds Try.pinned (OpenSpec.ofChange moneyPartsWrong)

/-- 'nostrolaw01.MoneyTotals': WHATEVER THE INPUT: true; the input reads as it did. -/
def moneyTotalsSpec : ChangeSpec := { name := "moneyTotals", fn := fun _ => fun
  | [d1, d2] => { results := [.lit (.bool true)], args := [d1, d2] }
  | _ => none }
def moneyTotalsRow : OpenClaim := { program := "ythojacmegofhcaa", sum := "6ea21e0baabf62c3ad8c839fdc874ab0070ba2cd70c364b2f909845a0b6ba9d9", func := "nostro/nostrolaw01.MoneyTotals", spec := "moneyTotals", recurses := true, apart := false }
def MoneyTotalsSaid : Prop := moneyTotalsRow.holds Try.pinned (OpenSpec.ofChange moneyTotalsSpec)

/-- ITS FALSE NEIGHBOUR: 'it returns false'. Refute it at one input. -/
def moneyTotalsWrong : ChangeSpec := { name := "moneyTotals", fn := fun _ => fun
  | [d1, d2] => { results := [.lit (.bool false)], args := [d1, d2] }
  | _ => none }
def MoneyTotalsWrongFalsely : Prop := moneyTotalsRow.holds Try.pinned (OpenSpec.ofChange moneyTotalsWrong)

/-- 'nostrolaw01.MoneyBack': WHATEVER THE INPUT: true; the input reads as it did. -/
def moneyBackSpec : ChangeSpec := { name := "moneyBack", fn := fun _ => fun
  | [d1, d2, d3] => { results := [.lit (.bool true)], args := [d1, d2, d3] }
  | _ => none }
def moneyBackRow : OpenClaim := { program := "ythojacmegofhcaa", sum := "6ea21e0baabf62c3ad8c839fdc874ab0070ba2cd70c364b2f909845a0b6ba9d9", func := "nostro/nostrolaw01.MoneyBack", spec := "moneyBack", apart := false }
def MoneyBackSaid : Prop := moneyBackRow.holds Try.pinned (OpenSpec.ofChange moneyBackSpec)

/-- ITS FALSE NEIGHBOUR: 'it returns false'. Refute it at one input. -/
def moneyBackWrong : ChangeSpec := { name := "moneyBack", fn := fun _ => fun
  | [d1, d2, d3] => { results := [.lit (.bool false)], args := [d1, d2, d3] }
  | _ => none }
def MoneyBackWrongFalsely : Prop := moneyBackRow.holds Try.pinned (OpenSpec.ofChange moneyBackWrong)

/-- 'nostrolaw01.MoneyAbout': WHATEVER THE INPUT: true; the input reads as it did. -/
def moneyAboutSpec : ChangeSpec := { name := "moneyAbout", fn := fun _ => fun
  | [d1, d2, d3] => { results := [.lit (.bool true)], args := [d1, d2, d3] }
  | _ => none }
def moneyAboutRow : OpenClaim := { program := "ythojacmegofhcaa", sum := "6ea21e0baabf62c3ad8c839fdc874ab0070ba2cd70c364b2f909845a0b6ba9d9", func := "nostro/nostrolaw01.MoneyAbout", spec := "moneyAbout", apart := false }
def MoneyAboutSaid : Prop := moneyAboutRow.holds Try.pinned (OpenSpec.ofChange moneyAboutSpec)

/-- ITS FALSE NEIGHBOUR: 'it returns false'. Refute it at one input. -/
def moneyAboutWrong : ChangeSpec := { name := "moneyAbout", fn := fun _ => fun
  | [d1, d2, d3] => { results := [.lit (.bool false)], args := [d1, d2, d3] }
  | _ => none }
def MoneyAboutWrongFalsely : Prop := moneyAboutRow.holds Try.pinned (OpenSpec.ofChange moneyAboutWrong)

/-- 'nostrolaw03.TableTells': WHATEVER THE INPUT: true; the input reads as it did. -/
def tableTellsSpec : ChangeSpec := { name := "tableTells", fn := fun _ => fun
  | [d1, d2, d3, d4] => { results := [.lit (.bool true)], args := [d1, d2, d3, d4] }
  | _ => none }
def tableTellsRow : OpenClaim := { program := "ythojacmegofhcaa", sum := "6ea21e0baabf62c3ad8c839fdc874ab0070ba2cd70c364b2f909845a0b6ba9d9", func := "nostro/nostrolaw03.TableTells", spec := "tableTells", unfollowed := true, recurses := true, apart := false }
def TableTellsSaid : Prop := tableTellsRow.holds Try.pinned (OpenSpec.ofChange tableTellsSpec)

/-- ITS FALSE NEIGHBOUR: 'it returns false'. Refute it at one input. -/
def tableTellsWrong : ChangeSpec := { name := "tableTells", fn := fun _ => fun
  | [d1, d2, d3, d4] => { results := [.lit (.bool false)], args := [d1, d2, d3, d4] }
  | _ => none }
def TableTellsWrongFalsely : Prop := tableTellsRow.holds Try.pinned (OpenSpec.ofChange tableTellsWrong)

/-- 'nostrolaw03.TableWorth': WHATEVER THE INPUT: true; the input reads as it did. -/
def tableWorthSpec : ChangeSpec := { name := "tableWorth", fn := fun _ => fun
  | [d1, d2, d3, d4, d5] => { results := [.lit (.bool true)], args := [d1, d2, d3, d4, d5] }
  | _ => none }
def tableWorthRow : OpenClaim := { program := "ythojacmegofhcaa", sum := "6ea21e0baabf62c3ad8c839fdc874ab0070ba2cd70c364b2f909845a0b6ba9d9", func := "nostro/nostrolaw03.TableWorth", spec := "tableWorth", unfollowed := true, recurses := true, apart := false }
def TableWorthSaid : Prop := tableWorthRow.holds Try.pinned (OpenSpec.ofChange tableWorthSpec)

/-- ITS FALSE NEIGHBOUR: 'it returns false'. Refute it at one input. -/
def tableWorthWrong : ChangeSpec := { name := "tableWorth", fn := fun _ => fun
  | [d1, d2, d3, d4, d5] => { results := [.lit (.bool false)], args := [d1, d2, d3, d4, d5] }
  | _ => none }
def TableWorthWrongFalsely : Prop := tableWorthRow.holds Try.pinned (OpenSpec.ofChange tableWorthWrong)

/-- 'nostrolaw03.TableBack': WHATEVER THE INPUT: true; the input reads as it did. -/
def tableBackSpec : ChangeSpec := { name := "tableBack", fn := fun _ => fun
  | [d1, d2, d3, d4] => { results := [.lit (.bool true)], args := [d1, d2, d3, d4] }
  | _ => none }
def tableBackRow : OpenClaim := { program := "ythojacmegofhcaa", sum := "6ea21e0baabf62c3ad8c839fdc874ab0070ba2cd70c364b2f909845a0b6ba9d9", func := "nostro/nostrolaw03.TableBack", spec := "tableBack", unfollowed := true, recurses := true, apart := false }
def TableBackSaid : Prop := tableBackRow.holds Try.pinned (OpenSpec.ofChange tableBackSpec)

/-- ITS FALSE NEIGHBOUR: 'it returns false'. Refute it at one input. -/
def tableBackWrong : ChangeSpec := { name := "tableBack", fn := fun _ => fun
  | [d1, d2, d3, d4] => { results := [.lit (.bool false)], args := [d1, d2, d3, d4] }
  | _ => none }
def TableBackWrongFalsely : Prop := tableBackRow.holds Try.pinned (OpenSpec.ofChange tableBackWrong)

/-- 'nostrolaw03.TableLess': WHATEVER THE INPUT: true; the input reads as it did. -/
def tableLessSpec : ChangeSpec := { name := "tableLess", fn := fun _ => fun
  | [d1, d2, d3, d4] => { results := [.lit (.bool true)], args := [d1, d2, d3, d4] }
  | _ => none }
def tableLessRow : OpenClaim := { program := "ythojacmegofhcaa", sum := "6ea21e0baabf62c3ad8c839fdc874ab0070ba2cd70c364b2f909845a0b6ba9d9", func := "nostro/nostrolaw03.TableLess", spec := "tableLess", unfollowed := true, recurses := true, apart := false }
def TableLessSaid : Prop := tableLessRow.holds Try.pinned (OpenSpec.ofChange tableLessSpec)

/-- ITS FALSE NEIGHBOUR: 'it returns false'. Refute it at one input. -/
def tableLessWrong : ChangeSpec := { name := "tableLess", fn := fun _ => fun
  | [d1, d2, d3, d4] => { results := [.lit (.bool false)], args := [d1, d2, d3, d4] }
  | _ => none }
def TableLessWrongFalsely : Prop := tableLessRow.holds Try.pinned (OpenSpec.ofChange tableLessWrong)

/- THE SECOND FORM. 'bulk': how many values and letters a reading holds, each counted each time it is reached (what is shared counts as often as it is met; a slice's spare places count too). A statement '..UptoSaid' is the law's where the arguments, and the package variables that the reading takes, are together of bulk at most 1048576: NARROWER than '..Said'. Prove '..Said' where nothing that the law and all that it calls make is longer than what came in: it says more and counts as full. Else prove '..UptoSaid'. A law counts once. -/
mutual
def uptoBulk {H : Type} : DataW H → Nat
  | .lit (.string bytes) => bytes.length + 1
  | .lit _ => 1
  | .nil => 1
  | .ptr d => uptoBulk d + 1
  | .slice elems spare => uptoBulkAll elems + uptoBulkAll spare + 1
  | .agg parts => uptoBulkAll parts + 1
  | .iface _ d => uptoBulk d + 1
  | .map entries => uptoBulkEntries entries + 1
  | .held _ => 1
def uptoBulkAll {H : Type} : List (DataW H) → Nat
  | [] => 0
  | d :: r => uptoBulk d + uptoBulkAll r
def uptoBulkEntries {H : Type} : List (Lit × DataW H) → Nat
  | [] => 0
  | x :: r => uptoBulkEntry x + uptoBulkEntries r
def uptoBulkEntry {H : Type} : Lit × DataW H → Nat
  | (.string bytes, d) => bytes.length + uptoBulk d + 1
  | (_, d) => uptoBulk d + 1
 end
def uptoSmall : (H : Type) → List (DataW H) → Bool := fun _ ds => decide (uptoBulkAll ds ≤ 1048576)
def OpenSpec.upto (s : _root_.Go.ChangeSpec) : _root_.Go.OpenSpec := { _root_.Go.OpenSpec.ofChange s with cond := some uptoSmall }

/-- 'nostrolaw18.DayTells', WHERE WHAT IT READS IS OF BULK AT MOST 1048576: true; the input reads as it did. -/
def dayTellsUptoRow : OpenClaim := { program := "ythojacmegofhcaa", sum := "6ea21e0baabf62c3ad8c839fdc874ab0070ba2cd70c364b2f909845a0b6ba9d9", func := "nostro/nostrolaw18.DayTells", spec := "dayTells", unfollowed := true, recurses := true, apart := false, narrowed := true }
def DayTellsUptoSaid : Prop := dayTellsUptoRow.holds Try.pinned (OpenSpec.upto dayTellsSpec)

/-- 'nostrolaw18.DayOn', WHERE WHAT IT READS IS OF BULK AT MOST 1048576: true; the input reads as it did. -/
def dayOnUptoRow : OpenClaim := { program := "ythojacmegofhcaa", sum := "6ea21e0baabf62c3ad8c839fdc874ab0070ba2cd70c364b2f909845a0b6ba9d9", func := "nostro/nostrolaw18.DayOn", spec := "dayOn", unfollowed := true, recurses := true, apart := false, narrowed := true }
def DayOnUptoSaid : Prop := dayOnUptoRow.holds Try.pinned (OpenSpec.upto dayOnSpec)

/-- 'nostrolaw01.MoneySums', WHERE WHAT IT READS IS OF BULK AT MOST 1048576: true; the input reads as it did. -/
def moneySumsUptoRow : OpenClaim := { program := "ythojacmegofhcaa", sum := "6ea21e0baabf62c3ad8c839fdc874ab0070ba2cd70c364b2f909845a0b6ba9d9", func := "nostro/nostrolaw01.MoneySums", spec := "moneySums", recurses := true, apart := false, narrowed := true }
def MoneySumsUptoSaid : Prop := moneySumsUptoRow.holds Try.pinned (OpenSpec.upto moneySumsSpec)

/-- 'nostrolaw01.MoneyParts', WHERE WHAT IT READS IS OF BULK AT MOST 1048576: true; the input reads as it did. -/
def moneyPartsUptoRow : OpenClaim := { program := "ythojacmegofhcaa", sum := "6ea21e0baabf62c3ad8c839fdc874ab0070ba2cd70c364b2f909845a0b6ba9d9", func := "nostro/nostrolaw01.MoneyParts", spec := "moneyParts", recurses := true, apart := false, narrowed := true }
def MoneyPartsUptoSaid : Prop := moneyPartsUptoRow.holds Try.pinned (OpenSpec.upto moneyPartsSpec)

/-- 'nostrolaw01.MoneyTotals', WHERE WHAT IT READS IS OF BULK AT MOST 1048576: true; the input reads as it did. -/
def moneyTotalsUptoRow : OpenClaim := { program := "ythojacmegofhcaa", sum := "6ea21e0baabf62c3ad8c839fdc874ab0070ba2cd70c364b2f909845a0b6ba9d9", func := "nostro/nostrolaw01.MoneyTotals", spec := "moneyTotals", recurses := true, apart := false, narrowed := true }
def MoneyTotalsUptoSaid : Prop := moneyTotalsUptoRow.holds Try.pinned (OpenSpec.upto moneyTotalsSpec)

/-- 'nostrolaw01.MoneyBack', WHERE WHAT IT READS IS OF BULK AT MOST 1048576: true; the input reads as it did. -/
def moneyBackUptoRow : OpenClaim := { program := "ythojacmegofhcaa", sum := "6ea21e0baabf62c3ad8c839fdc874ab0070ba2cd70c364b2f909845a0b6ba9d9", func := "nostro/nostrolaw01.MoneyBack", spec := "moneyBack", apart := false, narrowed := true }
def MoneyBackUptoSaid : Prop := moneyBackUptoRow.holds Try.pinned (OpenSpec.upto moneyBackSpec)

/-- 'nostrolaw01.MoneyAbout', WHERE WHAT IT READS IS OF BULK AT MOST 1048576: true; the input reads as it did. -/
def moneyAboutUptoRow : OpenClaim := { program := "ythojacmegofhcaa", sum := "6ea21e0baabf62c3ad8c839fdc874ab0070ba2cd70c364b2f909845a0b6ba9d9", func := "nostro/nostrolaw01.MoneyAbout", spec := "moneyAbout", apart := false, narrowed := true }
def MoneyAboutUptoSaid : Prop := moneyAboutUptoRow.holds Try.pinned (OpenSpec.upto moneyAboutSpec)

/-- 'nostrolaw03.TableTells', WHERE WHAT IT READS IS OF BULK AT MOST 1048576: true; the input reads as it did. -/
def tableTellsUptoRow : OpenClaim := { program := "ythojacmegofhcaa", sum := "6ea21e0baabf62c3ad8c839fdc874ab0070ba2cd70c364b2f909845a0b6ba9d9", func := "nostro/nostrolaw03.TableTells", spec := "tableTells", unfollowed := true, recurses := true, apart := false, narrowed := true }
def TableTellsUptoSaid : Prop := tableTellsUptoRow.holds Try.pinned (OpenSpec.upto tableTellsSpec)

/-- 'nostrolaw03.TableWorth', WHERE WHAT IT READS IS OF BULK AT MOST 1048576: true; the input reads as it did. -/
def tableWorthUptoRow : OpenClaim := { program := "ythojacmegofhcaa", sum := "6ea21e0baabf62c3ad8c839fdc874ab0070ba2cd70c364b2f909845a0b6ba9d9", func := "nostro/nostrolaw03.TableWorth", spec := "tableWorth", unfollowed := true, recurses := true, apart := false, narrowed := true }
def TableWorthUptoSaid : Prop := tableWorthUptoRow.holds Try.pinned (OpenSpec.upto tableWorthSpec)

/-- 'nostrolaw03.TableBack', WHERE WHAT IT READS IS OF BULK AT MOST 1048576: true; the input reads as it did. -/
def tableBackUptoRow : OpenClaim := { program := "ythojacmegofhcaa", sum := "6ea21e0baabf62c3ad8c839fdc874ab0070ba2cd70c364b2f909845a0b6ba9d9", func := "nostro/nostrolaw03.TableBack", spec := "tableBack", unfollowed := true, recurses := true, apart := false, narrowed := true }
def TableBackUptoSaid : Prop := tableBackUptoRow.holds Try.pinned (OpenSpec.upto tableBackSpec)

/-- 'nostrolaw03.TableLess', WHERE WHAT IT READS IS OF BULK AT MOST 1048576: true; the input reads as it did. -/
def tableLessUptoRow : OpenClaim := { program := "ythojacmegofhcaa", sum := "6ea21e0baabf62c3ad8c839fdc874ab0070ba2cd70c364b2f909845a0b6ba9d9", func := "nostro/nostrolaw03.TableLess", spec := "tableLess", unfollowed := true, recurses := true, apart := false, narrowed := true }
def TableLessUptoSaid : Prop := tableLessUptoRow.holds Try.pinned (OpenSpec.upto tableLessSpec)

end Rows
end Go.Proofs.Ythojacmegofhcaa
