/-
  No cell of these rows narrows 'for every input' (looked for: loops, veiled, ifaces, maps, wideKeys, modest, calm, conditions, laid).
  DERIVED. THE GIVEN ROWS OF THIS SEAT. 14 by the template 'for every input the law returns true; each argument reads behind the call as it read before'; 0 by the template 'total and deterministic' (their statements: YtegjkognlfemgaaTotals.lean).
  GIVEN WITH THE SEED: the statements are not yours to turn. If you find one false, say at which input.
  Laid BY PROGRAM, IN A SANDBOX (cutbox-rows.mjs): the forced cells as the released guide's own fill.sh prints them over the translation 1bc1f482895fb65d… (all of the seat's roots in one cut). By AI agents, Wed Nov 11 2026. No macro, syntax, notation, axiom, sorry.
-/
import Derived.Test.YtegjkognlfemgaaChecked
import GoSem.Claim
import GoSem.ClaimJoined
import GoSem.ClaimMapViews
import Derived.JoinedTies
import Derived.KernelRfl
namespace Go.Proofs.Ytegjkognlfemgaa
/- THE CELL 'sum', in the pinned program and in every row, IS THE sha256 OF THE DUMP (.gsa) THAT YtegjkognlfemgaaProg.lean LOADS. Nothing in Lean hashes anything: it is a label: what it is worth is what the hold of that sum in a sandbox is worth. -/
noncomputable def Try.pinned : Pinned := { name := "ytegjkognlfemgaa", sum := "1bc1f482895fb65d6f2db54e662932f0b347d301637227d88accc5e0db69c54f", checked := Try.checked }
namespace Rows
def none {H : Type} : Left H := { results := [], args := [] }

/-- 'spinetlaw10.CountTells': WHATEVER THE INPUT: true; the input reads as it did. -/
def countTellsSpec : ChangeSpec := { name := "countTells", fn := fun _ => fun
  | [d1, d2] => { results := [.lit (.bool true)], args := [d1, d2] }
  | _ => none }
def countTellsRow : OpenClaim := { program := "ytegjkognlfemgaa", sum := "1bc1f482895fb65d6f2db54e662932f0b347d301637227d88accc5e0db69c54f", func := "spinet/spinetlaw10.CountTells", spec := "countTells", recurses := true, plainKeys := false, apart := false }
def CountTellsSaid : Prop := countTellsRow.holds Try.pinned (OpenSpec.ofChange countTellsSpec)

/-- ITS FALSE NEIGHBOUR: 'it returns false'. Refute it at one input. -/
def countTellsWrong : ChangeSpec := { name := "countTells", fn := fun _ => fun
  | [d1, d2] => { results := [.lit (.bool false)], args := [d1, d2] }
  | _ => none }
def CountTellsWrongFalsely : Prop := countTellsRow.holds Try.pinned (OpenSpec.ofChange countTellsWrong)

/-- 'spinetlaw10.CountLists': WHATEVER THE INPUT: true; the input reads as it did. -/
def countListsSpec : ChangeSpec := { name := "countLists", fn := fun _ => fun
  | [d1, d2] => { results := [.lit (.bool true)], args := [d1, d2] }
  | _ => none }
def countListsRow : OpenClaim := { program := "ytegjkognlfemgaa", sum := "1bc1f482895fb65d6f2db54e662932f0b347d301637227d88accc5e0db69c54f", func := "spinet/spinetlaw10.CountLists", spec := "countLists", recurses := true, plainKeys := false, apart := false }
def CountListsSaid : Prop := countListsRow.holds Try.pinned (OpenSpec.ofChange countListsSpec)

/-- ITS FALSE NEIGHBOUR: 'it returns false'. Refute it at one input. -/
def countListsWrong : ChangeSpec := { name := "countLists", fn := fun _ => fun
  | [d1, d2] => { results := [.lit (.bool false)], args := [d1, d2] }
  | _ => none }
def CountListsWrongFalsely : Prop := countListsRow.holds Try.pinned (OpenSpec.ofChange countListsWrong)

/-- 'spinetlaw10.CountGrows': WHATEVER THE INPUT: true; the input reads as it did. -/
def countGrowsSpec : ChangeSpec := { name := "countGrows", fn := fun _ => fun
  | [d1, d2] => { results := [.lit (.bool true)], args := [d1, d2] }
  | _ => none }
def countGrowsRow : OpenClaim := { program := "ytegjkognlfemgaa", sum := "1bc1f482895fb65d6f2db54e662932f0b347d301637227d88accc5e0db69c54f", func := "spinet/spinetlaw10.CountGrows", spec := "countGrows", recurses := true, plainKeys := false, apart := false }
def CountGrowsSaid : Prop := countGrowsRow.holds Try.pinned (OpenSpec.ofChange countGrowsSpec)

/-- ITS FALSE NEIGHBOUR: 'it returns false'. Refute it at one input. -/
def countGrowsWrong : ChangeSpec := { name := "countGrows", fn := fun _ => fun
  | [d1, d2] => { results := [.lit (.bool false)], args := [d1, d2] }
  | _ => none }
def CountGrowsWrongFalsely : Prop := countGrowsRow.holds Try.pinned (OpenSpec.ofChange countGrowsWrong)

/-- 'spinetlaw10.CountNotes': WHATEVER THE INPUT: true; the input reads as it did. -/
def countNotesSpec : ChangeSpec := { name := "countNotes", fn := fun _ => fun
  | [d1, d2, d3] => { results := [.lit (.bool true)], args := [d1, d2, d3] }
  | _ => none }
def countNotesRow : OpenClaim := { program := "ytegjkognlfemgaa", sum := "1bc1f482895fb65d6f2db54e662932f0b347d301637227d88accc5e0db69c54f", func := "spinet/spinetlaw10.CountNotes", spec := "countNotes", recurses := true, plainKeys := false, apart := false }
def CountNotesSaid : Prop := countNotesRow.holds Try.pinned (OpenSpec.ofChange countNotesSpec)

/-- ITS FALSE NEIGHBOUR: 'it returns false'. Refute it at one input. -/
def countNotesWrong : ChangeSpec := { name := "countNotes", fn := fun _ => fun
  | [d1, d2, d3] => { results := [.lit (.bool false)], args := [d1, d2, d3] }
  | _ => none }
def CountNotesWrongFalsely : Prop := countNotesRow.holds Try.pinned (OpenSpec.ofChange countNotesWrong)

/-- 'spinetlaw10.CountBooks': WHATEVER THE INPUT: true; the input reads as it did. -/
def countBooksSpec : ChangeSpec := { name := "countBooks", fn := fun _ => fun
  | [d1, d2] => { results := [.lit (.bool true)], args := [d1, d2] }
  | _ => none }
def countBooksRow : OpenClaim := { program := "ytegjkognlfemgaa", sum := "1bc1f482895fb65d6f2db54e662932f0b347d301637227d88accc5e0db69c54f", func := "spinet/spinetlaw10.CountBooks", spec := "countBooks", recurses := true, plainKeys := false, apart := false }
def CountBooksSaid : Prop := countBooksRow.holds Try.pinned (OpenSpec.ofChange countBooksSpec)

/-- ITS FALSE NEIGHBOUR: 'it returns false'. Refute it at one input. -/
def countBooksWrong : ChangeSpec := { name := "countBooks", fn := fun _ => fun
  | [d1, d2] => { results := [.lit (.bool false)], args := [d1, d2] }
  | _ => none }
def CountBooksWrongFalsely : Prop := countBooksRow.holds Try.pinned (OpenSpec.ofChange countBooksWrong)

/-- 'spinetlaw11.RankTells': WHATEVER THE INPUT: true; the input reads as it did. -/
def rankTellsSpec : ChangeSpec := { name := "rankTells", fn := fun _ => fun
  | [d] => { results := [.lit (.bool true)], args := [d] }
  | _ => none }
def rankTellsRow : OpenClaim := { program := "ytegjkognlfemgaa", sum := "1bc1f482895fb65d6f2db54e662932f0b347d301637227d88accc5e0db69c54f", func := "spinet/spinetlaw11.RankTells", spec := "rankTells", recurses := true, plainKeys := false, apart := false }
def RankTellsSaid : Prop := rankTellsRow.holds Try.pinned (OpenSpec.ofChange rankTellsSpec)

/-- ITS FALSE NEIGHBOUR: 'it returns false'. Refute it at one input. -/
def rankTellsWrong : ChangeSpec := { name := "rankTells", fn := fun _ => fun
  | [d] => { results := [.lit (.bool false)], args := [d] }
  | _ => none }
def RankTellsWrongFalsely : Prop := rankTellsRow.holds Try.pinned (OpenSpec.ofChange rankTellsWrong)

/-- 'spinetlaw11.RankBack': WHATEVER THE INPUT: true; the input reads as it did. -/
def rankBackSpec : ChangeSpec := { name := "rankBack", fn := fun _ => fun
  | [d1, d2, d3] => { results := [.lit (.bool true)], args := [d1, d2, d3] }
  | _ => none }
def rankBackRow : OpenClaim := { program := "ytegjkognlfemgaa", sum := "1bc1f482895fb65d6f2db54e662932f0b347d301637227d88accc5e0db69c54f", func := "spinet/spinetlaw11.RankBack", spec := "rankBack", recurses := true, plainKeys := false, apart := false }
def RankBackSaid : Prop := rankBackRow.holds Try.pinned (OpenSpec.ofChange rankBackSpec)

/-- ITS FALSE NEIGHBOUR: 'it returns false'. Refute it at one input. -/
def rankBackWrong : ChangeSpec := { name := "rankBack", fn := fun _ => fun
  | [d1, d2, d3] => { results := [.lit (.bool false)], args := [d1, d2, d3] }
  | _ => none }
def RankBackWrongFalsely : Prop := rankBackRow.holds Try.pinned (OpenSpec.ofChange rankBackWrong)

/-- 'spinetlaw11.RankTurns': WHATEVER THE INPUT: true; the input reads as it did. -/
def rankTurnsSpec : ChangeSpec := { name := "rankTurns", fn := fun _ => fun
  | [d1, d2, d3] => { results := [.lit (.bool true)], args := [d1, d2, d3] }
  | _ => none }
def rankTurnsRow : OpenClaim := { program := "ytegjkognlfemgaa", sum := "1bc1f482895fb65d6f2db54e662932f0b347d301637227d88accc5e0db69c54f", func := "spinet/spinetlaw11.RankTurns", spec := "rankTurns", recurses := true, plainKeys := false, apart := false }
def RankTurnsSaid : Prop := rankTurnsRow.holds Try.pinned (OpenSpec.ofChange rankTurnsSpec)

/-- ITS FALSE NEIGHBOUR: 'it returns false'. Refute it at one input. -/
def rankTurnsWrong : ChangeSpec := { name := "rankTurns", fn := fun _ => fun
  | [d1, d2, d3] => { results := [.lit (.bool false)], args := [d1, d2, d3] }
  | _ => none }
def RankTurnsWrongFalsely : Prop := rankTurnsRow.holds Try.pinned (OpenSpec.ofChange rankTurnsWrong)

/-- 'spinetlaw12.TableNext': WHATEVER THE INPUT: true; the input reads as it did. -/
def tableNextSpec : ChangeSpec := { name := "tableNext", fn := fun _ => fun
  | [d1, d2, d3] => { results := [.lit (.bool true)], args := [d1, d2, d3] }
  | _ => none }
def tableNextRow : OpenClaim := { program := "ytegjkognlfemgaa", sum := "1bc1f482895fb65d6f2db54e662932f0b347d301637227d88accc5e0db69c54f", func := "spinet/spinetlaw12.TableNext", spec := "tableNext", plainKeys := false, apart := false }
def TableNextSaid : Prop := tableNextRow.holds Try.pinned (OpenSpec.ofChange tableNextSpec)

/-- ITS FALSE NEIGHBOUR: 'it returns false'. Refute it at one input. -/
def tableNextWrong : ChangeSpec := { name := "tableNext", fn := fun _ => fun
  | [d1, d2, d3] => { results := [.lit (.bool false)], args := [d1, d2, d3] }
  | _ => none }
def TableNextWrongFalsely : Prop := tableNextRow.holds Try.pinned (OpenSpec.ofChange tableNextWrong)

/-- 'spinetlaw12.TableTells': WHATEVER THE INPUT: true; the input reads as it did. -/
def tableTellsSpec : ChangeSpec := { name := "tableTells", fn := fun _ => fun
  | [d1, d2, d3] => { results := [.lit (.bool true)], args := [d1, d2, d3] }
  | _ => none }
def tableTellsRow : OpenClaim := { program := "ytegjkognlfemgaa", sum := "1bc1f482895fb65d6f2db54e662932f0b347d301637227d88accc5e0db69c54f", func := "spinet/spinetlaw12.TableTells", spec := "tableTells", recurses := true, plainKeys := false, apart := false }
def TableTellsSaid : Prop := tableTellsRow.holds Try.pinned (OpenSpec.ofChange tableTellsSpec)

/-- ITS FALSE NEIGHBOUR: 'it returns false'. Refute it at one input. -/
def tableTellsWrong : ChangeSpec := { name := "tableTells", fn := fun _ => fun
  | [d1, d2, d3] => { results := [.lit (.bool false)], args := [d1, d2, d3] }
  | _ => none }
def TableTellsWrongFalsely : Prop := tableTellsRow.holds Try.pinned (OpenSpec.ofChange tableTellsWrong)

/-- 'spinetlaw12.TableWrites': WHATEVER THE INPUT: true; the input reads as it did. -/
def tableWritesSpec : ChangeSpec := { name := "tableWrites", fn := fun _ => fun
  | [d1, d2, d3] => { results := [.lit (.bool true)], args := [d1, d2, d3] }
  | _ => none }
def tableWritesRow : OpenClaim := { program := "ytegjkognlfemgaa", sum := "1bc1f482895fb65d6f2db54e662932f0b347d301637227d88accc5e0db69c54f", func := "spinet/spinetlaw12.TableWrites", spec := "tableWrites", recurses := true, plainKeys := false, apart := false }
def TableWritesSaid : Prop := tableWritesRow.holds Try.pinned (OpenSpec.ofChange tableWritesSpec)

/-- ITS FALSE NEIGHBOUR: 'it returns false'. Refute it at one input. -/
def tableWritesWrong : ChangeSpec := { name := "tableWrites", fn := fun _ => fun
  | [d1, d2, d3] => { results := [.lit (.bool false)], args := [d1, d2, d3] }
  | _ => none }
def TableWritesWrongFalsely : Prop := tableWritesRow.holds Try.pinned (OpenSpec.ofChange tableWritesWrong)

/-- 'spinetlaw11.RankLists': WHATEVER THE INPUT: true; the input reads as it did. -/
def rankListsSpec : ChangeSpec := { name := "rankLists", fn := fun _ => fun
  | [d1, d2] => { results := [.lit (.bool true)], args := [d1, d2] }
  | _ => none }
def rankListsRow : OpenClaim := { program := "ytegjkognlfemgaa", sum := "1bc1f482895fb65d6f2db54e662932f0b347d301637227d88accc5e0db69c54f", func := "spinet/spinetlaw11.RankLists", spec := "rankLists", recurses := true, plainKeys := false, apart := false }
def RankListsSaid : Prop := rankListsRow.holds Try.pinned (OpenSpec.ofChange rankListsSpec)

/-- ITS FALSE NEIGHBOUR: 'it returns false'. Refute it at one input. -/
def rankListsWrong : ChangeSpec := { name := "rankLists", fn := fun _ => fun
  | [d1, d2] => { results := [.lit (.bool false)], args := [d1, d2] }
  | _ => none }
def RankListsWrongFalsely : Prop := rankListsRow.holds Try.pinned (OpenSpec.ofChange rankListsWrong)

/-- 'spinetlaw11.RankOrders': WHATEVER THE INPUT: true; the input reads as it did. -/
def rankOrdersSpec : ChangeSpec := { name := "rankOrders", fn := fun _ => fun
  | [d1, d2, d3] => { results := [.lit (.bool true)], args := [d1, d2, d3] }
  | _ => none }
def rankOrdersRow : OpenClaim := { program := "ytegjkognlfemgaa", sum := "1bc1f482895fb65d6f2db54e662932f0b347d301637227d88accc5e0db69c54f", func := "spinet/spinetlaw11.RankOrders", spec := "rankOrders", recurses := true, plainKeys := false, apart := false }
def RankOrdersSaid : Prop := rankOrdersRow.holds Try.pinned (OpenSpec.ofChange rankOrdersSpec)

/-- ITS FALSE NEIGHBOUR: 'it returns false'. Refute it at one input. -/
def rankOrdersWrong : ChangeSpec := { name := "rankOrders", fn := fun _ => fun
  | [d1, d2, d3] => { results := [.lit (.bool false)], args := [d1, d2, d3] }
  | _ => none }
def RankOrdersWrongFalsely : Prop := rankOrdersRow.holds Try.pinned (OpenSpec.ofChange rankOrdersWrong)

/-- 'spinetlaw12.TableAlike': WHATEVER THE INPUT: true; the input reads as it did. -/
def tableAlikeSpec : ChangeSpec := { name := "tableAlike", fn := fun _ => fun
  | [d1, d2, d3] => { results := [.lit (.bool true)], args := [d1, d2, d3] }
  | _ => none }
def tableAlikeRow : OpenClaim := { program := "ytegjkognlfemgaa", sum := "1bc1f482895fb65d6f2db54e662932f0b347d301637227d88accc5e0db69c54f", func := "spinet/spinetlaw12.TableAlike", spec := "tableAlike", recurses := true, plainKeys := false, apart := false }
def TableAlikeSaid : Prop := tableAlikeRow.holds Try.pinned (OpenSpec.ofChange tableAlikeSpec)

/-- ITS FALSE NEIGHBOUR: 'it returns false'. Refute it at one input. -/
def tableAlikeWrong : ChangeSpec := { name := "tableAlike", fn := fun _ => fun
  | [d1, d2, d3] => { results := [.lit (.bool false)], args := [d1, d2, d3] }
  | _ => none }
def TableAlikeWrongFalsely : Prop := tableAlikeRow.holds Try.pinned (OpenSpec.ofChange tableAlikeWrong)

/- THE SECOND FORM. 'bulk': how many values and letters a reading holds, each counted each time it is reached (what is shared counts as often as it is met; a slice's spare places count too). A statement '..UptoSaid' is the law's where the arguments, and the package variables that the reading takes, are together of bulk at most 1048576: NARROWER than '..Said'. Prove '..Said' where nothing that the law and all that it calls make is longer than what came in: it says more and counts as full. Else prove '..UptoSaid'. A law counts once. -/
mutual
def uptoBulk {H : Type} : DataW H → Nat
  | .lit (.string bytes) => bytes.length + 1
  | .lit _ => 1
  | .nil => 1
  | .ptr d => uptoBulk d + 1
  | .slice elems spare => uptoBulkAll elems + uptoBulkAll spare + 1
  | .agg parts => uptoBulkAll parts + 1
  | .iface _ d => uptoBulk d + 1
  | .map entries => uptoBulkEntries entries + 1
  | .held _ => 1
def uptoBulkAll {H : Type} : List (DataW H) → Nat
  | [] => 0
  | d :: r => uptoBulk d + uptoBulkAll r
def uptoBulkEntries {H : Type} : List (Lit × DataW H) → Nat
  | [] => 0
  | x :: r => uptoBulkEntry x + uptoBulkEntries r
def uptoBulkEntry {H : Type} : Lit × DataW H → Nat
  | (.string bytes, d) => bytes.length + uptoBulk d + 1
  | (_, d) => uptoBulk d + 1
 end
def uptoSmall : (H : Type) → List (DataW H) → Bool := fun _ ds => decide (uptoBulkAll ds ≤ 1048576)
def OpenSpec.upto (s : _root_.Go.ChangeSpec) : _root_.Go.OpenSpec := { _root_.Go.OpenSpec.ofChange s with cond := some uptoSmall }

/-- 'spinetlaw10.CountTells', WHERE WHAT IT READS IS OF BULK AT MOST 1048576: true; the input reads as it did. -/
def countTellsUptoRow : OpenClaim := { program := "ytegjkognlfemgaa", sum := "1bc1f482895fb65d6f2db54e662932f0b347d301637227d88accc5e0db69c54f", func := "spinet/spinetlaw10.CountTells", spec := "countTells", recurses := true, plainKeys := false, apart := false, narrowed := true }
def CountTellsUptoSaid : Prop := countTellsUptoRow.holds Try.pinned (OpenSpec.upto countTellsSpec)

/-- 'spinetlaw10.CountLists', WHERE WHAT IT READS IS OF BULK AT MOST 1048576: true; the input reads as it did. -/
def countListsUptoRow : OpenClaim := { program := "ytegjkognlfemgaa", sum := "1bc1f482895fb65d6f2db54e662932f0b347d301637227d88accc5e0db69c54f", func := "spinet/spinetlaw10.CountLists", spec := "countLists", recurses := true, plainKeys := false, apart := false, narrowed := true }
def CountListsUptoSaid : Prop := countListsUptoRow.holds Try.pinned (OpenSpec.upto countListsSpec)

/-- 'spinetlaw10.CountGrows', WHERE WHAT IT READS IS OF BULK AT MOST 1048576: true; the input reads as it did. -/
def countGrowsUptoRow : OpenClaim := { program := "ytegjkognlfemgaa", sum := "1bc1f482895fb65d6f2db54e662932f0b347d301637227d88accc5e0db69c54f", func := "spinet/spinetlaw10.CountGrows", spec := "countGrows", recurses := true, plainKeys := false, apart := false, narrowed := true }
def CountGrowsUptoSaid : Prop := countGrowsUptoRow.holds Try.pinned (OpenSpec.upto countGrowsSpec)

/-- 'spinetlaw10.CountNotes', WHERE WHAT IT READS IS OF BULK AT MOST 1048576: true; the input reads as it did. -/
def countNotesUptoRow : OpenClaim := { program := "ytegjkognlfemgaa", sum := "1bc1f482895fb65d6f2db54e662932f0b347d301637227d88accc5e0db69c54f", func := "spinet/spinetlaw10.CountNotes", spec := "countNotes", recurses := true, plainKeys := false, apart := false, narrowed := true }
def CountNotesUptoSaid : Prop := countNotesUptoRow.holds Try.pinned (OpenSpec.upto countNotesSpec)

/-- 'spinetlaw10.CountBooks', WHERE WHAT IT READS IS OF BULK AT MOST 1048576: true; the input reads as it did. -/
def countBooksUptoRow : OpenClaim := { program := "ytegjkognlfemgaa", sum := "1bc1f482895fb65d6f2db54e662932f0b347d301637227d88accc5e0db69c54f", func := "spinet/spinetlaw10.CountBooks", spec := "countBooks", recurses := true, plainKeys := false, apart := false, narrowed := true }
def CountBooksUptoSaid : Prop := countBooksUptoRow.holds Try.pinned (OpenSpec.upto countBooksSpec)

/-- 'spinetlaw11.RankTells', WHERE WHAT IT READS IS OF BULK AT MOST 1048576: true; the input reads as it did. -/
def rankTellsUptoRow : OpenClaim := { program := "ytegjkognlfemgaa", sum := "1bc1f482895fb65d6f2db54e662932f0b347d301637227d88accc5e0db69c54f", func := "spinet/spinetlaw11.RankTells", spec := "rankTells", recurses := true, plainKeys := false, apart := false, narrowed := true }
def RankTellsUptoSaid : Prop := rankTellsUptoRow.holds Try.pinned (OpenSpec.upto rankTellsSpec)

/-- 'spinetlaw11.RankBack', WHERE WHAT IT READS IS OF BULK AT MOST 1048576: true; the input reads as it did. -/
def rankBackUptoRow : OpenClaim := { program := "ytegjkognlfemgaa", sum := "1bc1f482895fb65d6f2db54e662932f0b347d301637227d88accc5e0db69c54f", func := "spinet/spinetlaw11.RankBack", spec := "rankBack", recurses := true, plainKeys := false, apart := false, narrowed := true }
def RankBackUptoSaid : Prop := rankBackUptoRow.holds Try.pinned (OpenSpec.upto rankBackSpec)

/-- 'spinetlaw11.RankTurns', WHERE WHAT IT READS IS OF BULK AT MOST 1048576: true; the input reads as it did. -/
def rankTurnsUptoRow : OpenClaim := { program := "ytegjkognlfemgaa", sum := "1bc1f482895fb65d6f2db54e662932f0b347d301637227d88accc5e0db69c54f", func := "spinet/spinetlaw11.RankTurns", spec := "rankTurns", recurses := true, plainKeys := false, apart := false, narrowed := true }
def RankTurnsUptoSaid : Prop := rankTurnsUptoRow.holds Try.pinned (OpenSpec.upto rankTurnsSpec)

/-- 'spinetlaw12.TableNext', WHERE WHAT IT READS IS OF BULK AT MOST 1048576: true; the input reads as it did. -/
def tableNextUptoRow : OpenClaim := { program := "ytegjkognlfemgaa", sum := "1bc1f482895fb65d6f2db54e662932f0b347d301637227d88accc5e0db69c54f", func := "spinet/spinetlaw12.TableNext", spec := "tableNext", plainKeys := false, apart := false, narrowed := true }
def TableNextUptoSaid : Prop := tableNextUptoRow.holds Try.pinned (OpenSpec.upto tableNextSpec)

/-- 'spinetlaw12.TableTells', WHERE WHAT IT READS IS OF BULK AT MOST 1048576: true; the input reads as it did. -/
def tableTellsUptoRow : OpenClaim := { program := "ytegjkognlfemgaa", sum := "1bc1f482895fb65d6f2db54e662932f0b347d301637227d88accc5e0db69c54f", func := "spinet/spinetlaw12.TableTells", spec := "tableTells", recurses := true, plainKeys := false, apart := false, narrowed := true }
def TableTellsUptoSaid : Prop := tableTellsUptoRow.holds Try.pinned (OpenSpec.upto tableTellsSpec)

/-- 'spinetlaw12.TableWrites', WHERE WHAT IT READS IS OF BULK AT MOST 1048576: true; the input reads as it did. -/
def tableWritesUptoRow : OpenClaim := { program := "ytegjkognlfemgaa", sum := "1bc1f482895fb65d6f2db54e662932f0b347d301637227d88accc5e0db69c54f", func := "spinet/spinetlaw12.TableWrites", spec := "tableWrites", recurses := true, plainKeys := false, apart := false, narrowed := true }
def TableWritesUptoSaid : Prop := tableWritesUptoRow.holds Try.pinned (OpenSpec.upto tableWritesSpec)

/-- 'spinetlaw11.RankLists', WHERE WHAT IT READS IS OF BULK AT MOST 1048576: true; the input reads as it did. -/
def rankListsUptoRow : OpenClaim := { program := "ytegjkognlfemgaa", sum := "1bc1f482895fb65d6f2db54e662932f0b347d301637227d88accc5e0db69c54f", func := "spinet/spinetlaw11.RankLists", spec := "rankLists", recurses := true, plainKeys := false, apart := false, narrowed := true }
def RankListsUptoSaid : Prop := rankListsUptoRow.holds Try.pinned (OpenSpec.upto rankListsSpec)

/-- 'spinetlaw11.RankOrders', WHERE WHAT IT READS IS OF BULK AT MOST 1048576: true; the input reads as it did. -/
def rankOrdersUptoRow : OpenClaim := { program := "ytegjkognlfemgaa", sum := "1bc1f482895fb65d6f2db54e662932f0b347d301637227d88accc5e0db69c54f", func := "spinet/spinetlaw11.RankOrders", spec := "rankOrders", recurses := true, plainKeys := false, apart := false, narrowed := true }
def RankOrdersUptoSaid : Prop := rankOrdersUptoRow.holds Try.pinned (OpenSpec.upto rankOrdersSpec)

/-- 'spinetlaw12.TableAlike', WHERE WHAT IT READS IS OF BULK AT MOST 1048576: true; the input reads as it did. -/
def tableAlikeUptoRow : OpenClaim := { program := "ytegjkognlfemgaa", sum := "1bc1f482895fb65d6f2db54e662932f0b347d301637227d88accc5e0db69c54f", func := "spinet/spinetlaw12.TableAlike", spec := "tableAlike", recurses := true, plainKeys := false, apart := false, narrowed := true }
def TableAlikeUptoSaid : Prop := tableAlikeUptoRow.holds Try.pinned (OpenSpec.upto tableAlikeSpec)

end Rows
end Go.Proofs.Ytegjkognlfemgaa
