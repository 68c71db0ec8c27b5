/-
  No cell of these rows narrows 'for every input' (looked for: loops, veiled, ifaces, maps, wideKeys, modest, calm, conditions, laid).
  DERIVED. THE GIVEN ROWS OF THIS SEAT. 8 by the template 'for every input the law returns true; each argument reads behind the call as it read before'; 0 by the template 'total and deterministic' (their statements: YtamoclnnakdiaaaTotals.lean).
  GIVEN WITH THE SEED: the statements are not yours to turn. If you find one false, say at which input.
  Laid BY PROGRAM, IN A SANDBOX (cutbox-rows.mjs): the forced cells as the released guide's own fill.sh prints them over the translation 91da70203b16086a… (all of the seat's roots in one cut). By AI agents, Wed Nov 11 2026. No macro, syntax, notation, axiom, sorry.
-/
import Derived.Test.YtamoclnnakdiaaaChecked
import GoSem.Claim
import GoSem.ClaimJoined
import GoSem.ClaimMapViews
import Derived.JoinedTies
import Derived.KernelRfl
namespace Go.Proofs.Ytamoclnnakdiaaa
/- THE CELL 'sum', in the pinned program and in every row, IS THE sha256 OF THE DUMP (.gsa) THAT YtamoclnnakdiaaaProg.lean LOADS. Nothing in Lean hashes anything: it is a label: what it is worth is what the hold of that sum in a sandbox is worth. -/
noncomputable def Try.pinned : Pinned := { name := "ytamoclnnakdiaaa", sum := "91da70203b16086a6f25db3cad87befa95d894d949a287ddd9fe3eefc508ae23", checked := Try.checked }
namespace Rows
def none {H : Type} : Left H := { results := [], args := [] }

/-- 'folkmootlaw11.RowsMay': WHATEVER THE INPUT: true; the input reads as it did. -/
def rowsMaySpec : ChangeSpec := { name := "rowsMay", fn := fun _ => fun
  | [d1, d2, d3, d4] => { results := [.lit (.bool true)], args := [d1, d2, d3, d4] }
  | _ => none }
def rowsMayRow : OpenClaim := { program := "ytamoclnnakdiaaa", sum := "91da70203b16086a6f25db3cad87befa95d894d949a287ddd9fe3eefc508ae23", func := "folkmoot/folkmootlaw11.RowsMay", spec := "rowsMay", inPlace := ["internal/bytealg.IndexByteString", "internal/bytealg.abigen_runtime_cmpstring"], unfollowed := true, recurses := true, apart := false }
def RowsMaySaid : Prop := rowsMayRow.holds Try.pinned (OpenSpec.ofChange rowsMaySpec)

/-- ITS FALSE NEIGHBOUR: 'it returns false'. Refute it at one input. -/
def rowsMayWrong : ChangeSpec := { name := "rowsMay", fn := fun _ => fun
  | [d1, d2, d3, d4] => { results := [.lit (.bool false)], args := [d1, d2, d3, d4] }
  | _ => none }
def RowsMayWrongFalsely : Prop := rowsMayRow.holds Try.pinned (OpenSpec.ofChange rowsMayWrong)

/-- 'folkmootlaw11.RowsTurn': WHATEVER THE INPUT: true; the input reads as it did. -/
def rowsTurnSpec : ChangeSpec := { name := "rowsTurn", fn := fun _ => fun
  | [d1, d2, d3] => { results := [.lit (.bool true)], args := [d1, d2, d3] }
  | _ => none }
def rowsTurnRow : OpenClaim := { program := "ytamoclnnakdiaaa", sum := "91da70203b16086a6f25db3cad87befa95d894d949a287ddd9fe3eefc508ae23", func := "folkmoot/folkmootlaw11.RowsTurn", spec := "rowsTurn", inPlace := ["internal/bytealg.IndexByteString", "internal/bytealg.abigen_runtime_cmpstring"], unfollowed := true, recurses := true, apart := false }
def RowsTurnSaid : Prop := rowsTurnRow.holds Try.pinned (OpenSpec.ofChange rowsTurnSpec)

/-- ITS FALSE NEIGHBOUR: 'it returns false'. Refute it at one input. -/
def rowsTurnWrong : ChangeSpec := { name := "rowsTurn", fn := fun _ => fun
  | [d1, d2, d3] => { results := [.lit (.bool false)], args := [d1, d2, d3] }
  | _ => none }
def RowsTurnWrongFalsely : Prop := rowsTurnRow.holds Try.pinned (OpenSpec.ofChange rowsTurnWrong)

/-- 'folkmootlaw11.RowsFit': WHATEVER THE INPUT: true; the input reads as it did. -/
def rowsFitSpec : ChangeSpec := { name := "rowsFit", fn := fun _ => fun
  | [d1, d2] => { results := [.lit (.bool true)], args := [d1, d2] }
  | _ => none }
def rowsFitRow : OpenClaim := { program := "ytamoclnnakdiaaa", sum := "91da70203b16086a6f25db3cad87befa95d894d949a287ddd9fe3eefc508ae23", func := "folkmoot/folkmootlaw11.RowsFit", spec := "rowsFit", inPlace := ["internal/bytealg.IndexByteString", "internal/bytealg.abigen_runtime_cmpstring"], unfollowed := true, recurses := true, apart := false }
def RowsFitSaid : Prop := rowsFitRow.holds Try.pinned (OpenSpec.ofChange rowsFitSpec)

/-- ITS FALSE NEIGHBOUR: 'it returns false'. Refute it at one input. -/
def rowsFitWrong : ChangeSpec := { name := "rowsFit", fn := fun _ => fun
  | [d1, d2] => { results := [.lit (.bool false)], args := [d1, d2] }
  | _ => none }
def RowsFitWrongFalsely : Prop := rowsFitRow.holds Try.pinned (OpenSpec.ofChange rowsFitWrong)

/-- 'folkmootlaw11.RowsKey': WHATEVER THE INPUT: true; the input reads as it did. -/
def rowsKeySpec : ChangeSpec := { name := "rowsKey", fn := fun _ => fun
  | [d1, d2, d3] => { results := [.lit (.bool true)], args := [d1, d2, d3] }
  | _ => none }
def rowsKeyRow : OpenClaim := { program := "ytamoclnnakdiaaa", sum := "91da70203b16086a6f25db3cad87befa95d894d949a287ddd9fe3eefc508ae23", func := "folkmoot/folkmootlaw11.RowsKey", spec := "rowsKey", inPlace := ["internal/bytealg.IndexByteString", "internal/bytealg.abigen_runtime_cmpstring"], unfollowed := true, recurses := true, apart := false }
def RowsKeySaid : Prop := rowsKeyRow.holds Try.pinned (OpenSpec.ofChange rowsKeySpec)

/-- ITS FALSE NEIGHBOUR: 'it returns false'. Refute it at one input. -/
def rowsKeyWrong : ChangeSpec := { name := "rowsKey", fn := fun _ => fun
  | [d1, d2, d3] => { results := [.lit (.bool false)], args := [d1, d2, d3] }
  | _ => none }
def RowsKeyWrongFalsely : Prop := rowsKeyRow.holds Try.pinned (OpenSpec.ofChange rowsKeyWrong)

/-- 'folkmootlaw11.RowsBack': WHATEVER THE INPUT: true; the input reads as it did. -/
def rowsBackSpec : ChangeSpec := { name := "rowsBack", fn := fun _ => fun
  | [d1, d2, d3] => { results := [.lit (.bool true)], args := [d1, d2, d3] }
  | _ => none }
def rowsBackRow : OpenClaim := { program := "ytamoclnnakdiaaa", sum := "91da70203b16086a6f25db3cad87befa95d894d949a287ddd9fe3eefc508ae23", func := "folkmoot/folkmootlaw11.RowsBack", spec := "rowsBack", inPlace := ["internal/bytealg.IndexByteString", "internal/bytealg.abigen_runtime_cmpstring"], unfollowed := true, recurses := true, apart := false }
def RowsBackSaid : Prop := rowsBackRow.holds Try.pinned (OpenSpec.ofChange rowsBackSpec)

/-- ITS FALSE NEIGHBOUR: 'it returns false'. Refute it at one input. -/
def rowsBackWrong : ChangeSpec := { name := "rowsBack", fn := fun _ => fun
  | [d1, d2, d3] => { results := [.lit (.bool false)], args := [d1, d2, d3] }
  | _ => none }
def RowsBackWrongFalsely : Prop := rowsBackRow.holds Try.pinned (OpenSpec.ofChange rowsBackWrong)

/-- 'folkmootlaw11.RowsChecks': WHATEVER THE INPUT: true; the input reads as it did. -/
def rowsChecksSpec : ChangeSpec := { name := "rowsChecks", fn := fun _ => fun
  | [d1, d2] => { results := [.lit (.bool true)], args := [d1, d2] }
  | _ => none }
def rowsChecksRow : OpenClaim := { program := "ytamoclnnakdiaaa", sum := "91da70203b16086a6f25db3cad87befa95d894d949a287ddd9fe3eefc508ae23", func := "folkmoot/folkmootlaw11.RowsChecks", spec := "rowsChecks", inPlace := ["internal/bytealg.IndexByteString", "internal/bytealg.abigen_runtime_cmpstring"], unfollowed := true, recurses := true, apart := false }
def RowsChecksSaid : Prop := rowsChecksRow.holds Try.pinned (OpenSpec.ofChange rowsChecksSpec)

/-- ITS FALSE NEIGHBOUR: 'it returns false'. Refute it at one input. -/
def rowsChecksWrong : ChangeSpec := { name := "rowsChecks", fn := fun _ => fun
  | [d1, d2] => { results := [.lit (.bool false)], args := [d1, d2] }
  | _ => none }
def RowsChecksWrongFalsely : Prop := rowsChecksRow.holds Try.pinned (OpenSpec.ofChange rowsChecksWrong)

/-- 'folkmootlaw12.StoreSelects': WHATEVER THE INPUT: true; the input reads as it did. -/
def storeSelectsSpec : ChangeSpec := { name := "storeSelects", fn := fun _ => fun
  | [d1, d2] => { results := [.lit (.bool true)], args := [d1, d2] }
  | _ => none }
def storeSelectsRow : OpenClaim := { program := "ytamoclnnakdiaaa", sum := "91da70203b16086a6f25db3cad87befa95d894d949a287ddd9fe3eefc508ae23", func := "folkmoot/folkmootlaw12.StoreSelects", spec := "storeSelects", inPlace := ["internal/bytealg.abigen_runtime_cmpstring", "internal/bytealg.IndexByteString"], unfollowed := true, recurses := true, apart := false }
def StoreSelectsSaid : Prop := storeSelectsRow.holds Try.pinned (OpenSpec.ofChange storeSelectsSpec)

/-- ITS FALSE NEIGHBOUR: 'it returns false'. Refute it at one input. -/
def storeSelectsWrong : ChangeSpec := { name := "storeSelects", fn := fun _ => fun
  | [d1, d2] => { results := [.lit (.bool false)], args := [d1, d2] }
  | _ => none }
def StoreSelectsWrongFalsely : Prop := storeSelectsRow.holds Try.pinned (OpenSpec.ofChange storeSelectsWrong)

/-- 'folkmootlaw12.StoreNil': WHATEVER THE INPUT: true; the input reads as it did. -/
def storeNilSpec : ChangeSpec := { name := "storeNil", fn := fun _ => fun
  | [d1, d2] => { results := [.lit (.bool true)], args := [d1, d2] }
  | _ => none }
def storeNilRow : OpenClaim := { program := "ytamoclnnakdiaaa", sum := "91da70203b16086a6f25db3cad87befa95d894d949a287ddd9fe3eefc508ae23", func := "folkmoot/folkmootlaw12.StoreNil", spec := "storeNil", inPlace := ["internal/bytealg.IndexByteString", "internal/bytealg.abigen_runtime_cmpstring"], unfollowed := true, recurses := true, apart := false }
def StoreNilSaid : Prop := storeNilRow.holds Try.pinned (OpenSpec.ofChange storeNilSpec)

/-- ITS FALSE NEIGHBOUR: 'it returns false'. Refute it at one input. -/
def storeNilWrong : ChangeSpec := { name := "storeNil", fn := fun _ => fun
  | [d1, d2] => { results := [.lit (.bool false)], args := [d1, d2] }
  | _ => none }
def StoreNilWrongFalsely : Prop := storeNilRow.holds Try.pinned (OpenSpec.ofChange storeNilWrong)

/- THE SECOND FORM. 'bulk': how many values and letters a reading holds, each counted each time it is reached (what is shared counts as often as it is met; a slice's spare places count too). A statement '..UptoSaid' is the law's where the arguments, and the package variables that the reading takes, are together of bulk at most 1048576: NARROWER than '..Said'. Prove '..Said' where nothing that the law and all that it calls make is longer than what came in: it says more and counts as full. Else prove '..UptoSaid'. A law counts once. -/
mutual
def uptoBulk {H : Type} : DataW H → Nat
  | .lit (.string bytes) => bytes.length + 1
  | .lit _ => 1
  | .nil => 1
  | .ptr d => uptoBulk d + 1
  | .slice elems spare => uptoBulkAll elems + uptoBulkAll spare + 1
  | .agg parts => uptoBulkAll parts + 1
  | .iface _ d => uptoBulk d + 1
  | .map entries => uptoBulkEntries entries + 1
  | .held _ => 1
def uptoBulkAll {H : Type} : List (DataW H) → Nat
  | [] => 0
  | d :: r => uptoBulk d + uptoBulkAll r
def uptoBulkEntries {H : Type} : List (Lit × DataW H) → Nat
  | [] => 0
  | x :: r => uptoBulkEntry x + uptoBulkEntries r
def uptoBulkEntry {H : Type} : Lit × DataW H → Nat
  | (.string bytes, d) => bytes.length + uptoBulk d + 1
  | (_, d) => uptoBulk d + 1
 end
def uptoSmall : (H : Type) → List (DataW H) → Bool := fun _ ds => decide (uptoBulkAll ds ≤ 1048576)
def OpenSpec.upto (s : _root_.Go.ChangeSpec) : _root_.Go.OpenSpec := { _root_.Go.OpenSpec.ofChange s with cond := some uptoSmall }

/-- 'folkmootlaw11.RowsMay', WHERE WHAT IT READS IS OF BULK AT MOST 1048576: true; the input reads as it did. -/
def rowsMayUptoRow : OpenClaim := { program := "ytamoclnnakdiaaa", sum := "91da70203b16086a6f25db3cad87befa95d894d949a287ddd9fe3eefc508ae23", func := "folkmoot/folkmootlaw11.RowsMay", spec := "rowsMay", inPlace := ["internal/bytealg.IndexByteString", "internal/bytealg.abigen_runtime_cmpstring"], unfollowed := true, recurses := true, apart := false, narrowed := true }
def RowsMayUptoSaid : Prop := rowsMayUptoRow.holds Try.pinned (OpenSpec.upto rowsMaySpec)

/-- 'folkmootlaw11.RowsTurn', WHERE WHAT IT READS IS OF BULK AT MOST 1048576: true; the input reads as it did. -/
def rowsTurnUptoRow : OpenClaim := { program := "ytamoclnnakdiaaa", sum := "91da70203b16086a6f25db3cad87befa95d894d949a287ddd9fe3eefc508ae23", func := "folkmoot/folkmootlaw11.RowsTurn", spec := "rowsTurn", inPlace := ["internal/bytealg.IndexByteString", "internal/bytealg.abigen_runtime_cmpstring"], unfollowed := true, recurses := true, apart := false, narrowed := true }
def RowsTurnUptoSaid : Prop := rowsTurnUptoRow.holds Try.pinned (OpenSpec.upto rowsTurnSpec)

/-- 'folkmootlaw11.RowsFit', WHERE WHAT IT READS IS OF BULK AT MOST 1048576: true; the input reads as it did. -/
def rowsFitUptoRow : OpenClaim := { program := "ytamoclnnakdiaaa", sum := "91da70203b16086a6f25db3cad87befa95d894d949a287ddd9fe3eefc508ae23", func := "folkmoot/folkmootlaw11.RowsFit", spec := "rowsFit", inPlace := ["internal/bytealg.IndexByteString", "internal/bytealg.abigen_runtime_cmpstring"], unfollowed := true, recurses := true, apart := false, narrowed := true }
def RowsFitUptoSaid : Prop := rowsFitUptoRow.holds Try.pinned (OpenSpec.upto rowsFitSpec)

/-- 'folkmootlaw11.RowsKey', WHERE WHAT IT READS IS OF BULK AT MOST 1048576: true; the input reads as it did. -/
def rowsKeyUptoRow : OpenClaim := { program := "ytamoclnnakdiaaa", sum := "91da70203b16086a6f25db3cad87befa95d894d949a287ddd9fe3eefc508ae23", func := "folkmoot/folkmootlaw11.RowsKey", spec := "rowsKey", inPlace := ["internal/bytealg.IndexByteString", "internal/bytealg.abigen_runtime_cmpstring"], unfollowed := true, recurses := true, apart := false, narrowed := true }
def RowsKeyUptoSaid : Prop := rowsKeyUptoRow.holds Try.pinned (OpenSpec.upto rowsKeySpec)

/-- 'folkmootlaw11.RowsBack', WHERE WHAT IT READS IS OF BULK AT MOST 1048576: true; the input reads as it did. -/
def rowsBackUptoRow : OpenClaim := { program := "ytamoclnnakdiaaa", sum := "91da70203b16086a6f25db3cad87befa95d894d949a287ddd9fe3eefc508ae23", func := "folkmoot/folkmootlaw11.RowsBack", spec := "rowsBack", inPlace := ["internal/bytealg.IndexByteString", "internal/bytealg.abigen_runtime_cmpstring"], unfollowed := true, recurses := true, apart := false, narrowed := true }
def RowsBackUptoSaid : Prop := rowsBackUptoRow.holds Try.pinned (OpenSpec.upto rowsBackSpec)

/-- 'folkmootlaw11.RowsChecks', WHERE WHAT IT READS IS OF BULK AT MOST 1048576: true; the input reads as it did. -/
def rowsChecksUptoRow : OpenClaim := { program := "ytamoclnnakdiaaa", sum := "91da70203b16086a6f25db3cad87befa95d894d949a287ddd9fe3eefc508ae23", func := "folkmoot/folkmootlaw11.RowsChecks", spec := "rowsChecks", inPlace := ["internal/bytealg.IndexByteString", "internal/bytealg.abigen_runtime_cmpstring"], unfollowed := true, recurses := true, apart := false, narrowed := true }
def RowsChecksUptoSaid : Prop := rowsChecksUptoRow.holds Try.pinned (OpenSpec.upto rowsChecksSpec)

/-- 'folkmootlaw12.StoreSelects', WHERE WHAT IT READS IS OF BULK AT MOST 1048576: true; the input reads as it did. -/
def storeSelectsUptoRow : OpenClaim := { program := "ytamoclnnakdiaaa", sum := "91da70203b16086a6f25db3cad87befa95d894d949a287ddd9fe3eefc508ae23", func := "folkmoot/folkmootlaw12.StoreSelects", spec := "storeSelects", inPlace := ["internal/bytealg.abigen_runtime_cmpstring", "internal/bytealg.IndexByteString"], unfollowed := true, recurses := true, apart := false, narrowed := true }
def StoreSelectsUptoSaid : Prop := storeSelectsUptoRow.holds Try.pinned (OpenSpec.upto storeSelectsSpec)

/-- 'folkmootlaw12.StoreNil', WHERE WHAT IT READS IS OF BULK AT MOST 1048576: true; the input reads as it did. -/
def storeNilUptoRow : OpenClaim := { program := "ytamoclnnakdiaaa", sum := "91da70203b16086a6f25db3cad87befa95d894d949a287ddd9fe3eefc508ae23", func := "folkmoot/folkmootlaw12.StoreNil", spec := "storeNil", inPlace := ["internal/bytealg.IndexByteString", "internal/bytealg.abigen_runtime_cmpstring"], unfollowed := true, recurses := true, apart := false, narrowed := true }
def StoreNilUptoSaid : Prop := storeNilUptoRow.holds Try.pinned (OpenSpec.upto storeNilSpec)

end Rows
end Go.Proofs.Ytamoclnnakdiaaa
