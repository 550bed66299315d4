/-
  NARROWER THAN 'FOR EVERY INPUT', by the rows' own cells (each row's printed sentence says how): ConcealBounds: laid · ConcealPeriods: laid · ConcealTells: laid · ConcealAlike: laid.
  DERIVED. THE GIVEN ROWS OF THIS SEAT. 4 by the template 'for every input the law returns true; each argument reads behind the call as it read before'; 0 by the template 'total and deterministic' (their statements: YtckcjgmikjpfaaaDoorTotals.lean).
  GIVEN WITH THE SEED: the statements are not yours to turn. If you find one false, say at which input.
  Laid BY PROGRAM, IN A SANDBOX (cutbox-rows.mjs): the forced cells as the released guide's own fill.sh prints them over the translation 88884b94f78e00bb… (all of the seat's roots in one cut). By AI agents, Wed Nov 11 2026. No macro, syntax, notation, axiom, sorry.
-/
import Derived.Test.YtckcjgmikjpfaaaDoorChecked
import GoSem.Claim
import GoSem.ClaimJoined
import GoSem.ClaimMapViews
import Derived.JoinedTies
import Derived.KernelRfl
namespace Go.Proofs.YtckcjgmikjpfaaaDoor
/- THE CELL 'sum', in the pinned program and in every row, IS THE sha256 OF THE DUMP (.gsa) THAT YtckcjgmikjpfaaaDoorProg.lean LOADS. Nothing in Lean hashes anything: it is a label: what it is worth is what the hold of that sum in a sandbox is worth. -/
noncomputable def Tryd.pinned : Pinned := { name := "ytckcjgmikjpfaaadoor", sum := "88884b94f78e00bb0dfc377e05f2215d61d6e1311c8f1a3439c14aa79ff0cb0b", checked := Tryd.checked }
namespace Rows
def none {H : Type} : Left H := { results := [], args := [] }

/- WHAT THE LISTED PACKAGE-LEVEL VARIABLES READ AS WHEN THE CALL BEGINS. Each datum BY PROGRAM (the guide's laid-datum.mjs) off the statement by which the dump's own 'gosem.cut.vars' lays the variable. In a bare row this is a premise. The card (YtckcjgmikjpfaaaDoorCards.lean) ties it to the program's text. -/
def laid_spinet_conceal_fades {H : Type} : DataW H := .agg [.lit (.int .i32 0), .lit (.int .i32 29491), .lit (.int .i32 22937), .lit (.int .i32 13107), .lit (.int .i32 4915)]

/-- 'spinetlaw25.ConcealBounds': WHATEVER THE INPUT: true; the input reads as it did. -/
def concealBoundsSpec : ChangeSpec := { name := "concealBounds", fn := fun _ => fun
  | [d1, d2, d3] => { results := [.lit (.bool true)], args := [d1, d2, d3] }
  | _ => none }
def concealBoundsRow : OpenClaim := { program := "ytckcjgmikjpfaaadoor", sum := "88884b94f78e00bb0dfc377e05f2215d61d6e1311c8f1a3439c14aa79ff0cb0b", func := "spinet/spinetlaw25.ConcealBounds", spec := "concealBounds", named := ["spinet/conceal.fades"], apart := false, laid := [("spinet/conceal.fades", laid_spinet_conceal_fades)] }
def ConcealBoundsSaid : Prop := concealBoundsRow.holds Tryd.pinned (OpenSpec.ofChange concealBoundsSpec)

/-- ITS FALSE NEIGHBOUR: 'it returns false'. Refute it at one input. -/
def concealBoundsWrong : ChangeSpec := { name := "concealBounds", fn := fun _ => fun
  | [d1, d2, d3] => { results := [.lit (.bool false)], args := [d1, d2, d3] }
  | _ => none }
def ConcealBoundsWrongFalsely : Prop := concealBoundsRow.holds Tryd.pinned (OpenSpec.ofChange concealBoundsWrong)

/-- 'spinetlaw25.ConcealPeriods': WHATEVER THE INPUT: true; the input reads as it did. -/
def concealPeriodsSpec : ChangeSpec := { name := "concealPeriods", fn := fun _ => fun
  | [d1, d2, d3] => { results := [.lit (.bool true)], args := [d1, d2, d3] }
  | _ => none }
def concealPeriodsRow : OpenClaim := { program := "ytckcjgmikjpfaaadoor", sum := "88884b94f78e00bb0dfc377e05f2215d61d6e1311c8f1a3439c14aa79ff0cb0b", func := "spinet/spinetlaw25.ConcealPeriods", spec := "concealPeriods", named := ["spinet/conceal.fades"], apart := false, laid := [("spinet/conceal.fades", laid_spinet_conceal_fades)] }
def ConcealPeriodsSaid : Prop := concealPeriodsRow.holds Tryd.pinned (OpenSpec.ofChange concealPeriodsSpec)

/-- ITS FALSE NEIGHBOUR: 'it returns false'. Refute it at one input. -/
def concealPeriodsWrong : ChangeSpec := { name := "concealPeriods", fn := fun _ => fun
  | [d1, d2, d3] => { results := [.lit (.bool false)], args := [d1, d2, d3] }
  | _ => none }
def ConcealPeriodsWrongFalsely : Prop := concealPeriodsRow.holds Tryd.pinned (OpenSpec.ofChange concealPeriodsWrong)

/-- 'spinetlaw25.ConcealTells': WHATEVER THE INPUT: true; the input reads as it did. -/
def concealTellsSpec : ChangeSpec := { name := "concealTells", fn := fun _ => fun
  | [d1, d2] => { results := [.lit (.bool true)], args := [d1, d2] }
  | _ => none }
def concealTellsRow : OpenClaim := { program := "ytckcjgmikjpfaaadoor", sum := "88884b94f78e00bb0dfc377e05f2215d61d6e1311c8f1a3439c14aa79ff0cb0b", func := "spinet/spinetlaw25.ConcealTells", spec := "concealTells", named := ["spinet/conceal.fades"], apart := false, laid := [("spinet/conceal.fades", laid_spinet_conceal_fades)] }
def ConcealTellsSaid : Prop := concealTellsRow.holds Tryd.pinned (OpenSpec.ofChange concealTellsSpec)

/-- ITS FALSE NEIGHBOUR: 'it returns false'. Refute it at one input. -/
def concealTellsWrong : ChangeSpec := { name := "concealTells", fn := fun _ => fun
  | [d1, d2] => { results := [.lit (.bool false)], args := [d1, d2] }
  | _ => none }
def ConcealTellsWrongFalsely : Prop := concealTellsRow.holds Tryd.pinned (OpenSpec.ofChange concealTellsWrong)

/-- 'spinetlaw25.ConcealAlike': WHATEVER THE INPUT: true; the input reads as it did. -/
def concealAlikeSpec : ChangeSpec := { name := "concealAlike", fn := fun _ => fun
  | [d1, d2, d3] => { results := [.lit (.bool true)], args := [d1, d2, d3] }
  | _ => none }
def concealAlikeRow : OpenClaim := { program := "ytckcjgmikjpfaaadoor", sum := "88884b94f78e00bb0dfc377e05f2215d61d6e1311c8f1a3439c14aa79ff0cb0b", func := "spinet/spinetlaw25.ConcealAlike", spec := "concealAlike", named := ["spinet/conceal.fades"], apart := false, laid := [("spinet/conceal.fades", laid_spinet_conceal_fades)] }
def ConcealAlikeSaid : Prop := concealAlikeRow.holds Tryd.pinned (OpenSpec.ofChange concealAlikeSpec)

/-- ITS FALSE NEIGHBOUR: 'it returns false'. Refute it at one input. -/
def concealAlikeWrong : ChangeSpec := { name := "concealAlike", fn := fun _ => fun
  | [d1, d2, d3] => { results := [.lit (.bool false)], args := [d1, d2, d3] }
  | _ => none }
def ConcealAlikeWrongFalsely : Prop := concealAlikeRow.holds Tryd.pinned (OpenSpec.ofChange concealAlikeWrong)

/- THE SECOND FORM. 'bulk': how many values and letters a reading holds, each counted each time it is reached (what is shared counts as often as it is met; a slice's spare places count too). A statement '..UptoSaid' is the law's where the arguments, and the package variables that the reading takes, are together of bulk at most 1048576: NARROWER than '..Said'. Prove '..Said' where nothing that the law and all that it calls make is longer than what came in: it says more and counts as full. Else prove '..UptoSaid'. A law counts once. -/
mutual
def uptoBulk {H : Type} : DataW H → Nat
  | .lit (.string bytes) => bytes.length + 1
  | .lit _ => 1
  | .nil => 1
  | .ptr d => uptoBulk d + 1
  | .slice elems spare => uptoBulkAll elems + uptoBulkAll spare + 1
  | .agg parts => uptoBulkAll parts + 1
  | .iface _ d => uptoBulk d + 1
  | .map entries => uptoBulkEntries entries + 1
  | .held _ => 1
def uptoBulkAll {H : Type} : List (DataW H) → Nat
  | [] => 0
  | d :: r => uptoBulk d + uptoBulkAll r
def uptoBulkEntries {H : Type} : List (Lit × DataW H) → Nat
  | [] => 0
  | x :: r => uptoBulkEntry x + uptoBulkEntries r
def uptoBulkEntry {H : Type} : Lit × DataW H → Nat
  | (.string bytes, d) => bytes.length + uptoBulk d + 1
  | (_, d) => uptoBulk d + 1
 end
def uptoSmall : (H : Type) → List (DataW H) → Bool := fun _ ds => decide (uptoBulkAll ds ≤ 1048576)
def OpenSpec.upto (s : _root_.Go.ChangeSpec) : _root_.Go.OpenSpec := { _root_.Go.OpenSpec.ofChange s with cond := some uptoSmall }

/-- 'spinetlaw25.ConcealBounds', WHERE WHAT IT READS IS OF BULK AT MOST 1048576: true; the input reads as it did. -/
def concealBoundsUptoRow : OpenClaim := { program := "ytckcjgmikjpfaaadoor", sum := "88884b94f78e00bb0dfc377e05f2215d61d6e1311c8f1a3439c14aa79ff0cb0b", func := "spinet/spinetlaw25.ConcealBounds", spec := "concealBounds", named := ["spinet/conceal.fades"], apart := false, laid := [("spinet/conceal.fades", laid_spinet_conceal_fades)], narrowed := true }
def ConcealBoundsUptoSaid : Prop := concealBoundsUptoRow.holds Tryd.pinned (OpenSpec.upto concealBoundsSpec)

/-- 'spinetlaw25.ConcealPeriods', WHERE WHAT IT READS IS OF BULK AT MOST 1048576: true; the input reads as it did. -/
def concealPeriodsUptoRow : OpenClaim := { program := "ytckcjgmikjpfaaadoor", sum := "88884b94f78e00bb0dfc377e05f2215d61d6e1311c8f1a3439c14aa79ff0cb0b", func := "spinet/spinetlaw25.ConcealPeriods", spec := "concealPeriods", named := ["spinet/conceal.fades"], apart := false, laid := [("spinet/conceal.fades", laid_spinet_conceal_fades)], narrowed := true }
def ConcealPeriodsUptoSaid : Prop := concealPeriodsUptoRow.holds Tryd.pinned (OpenSpec.upto concealPeriodsSpec)

/-- 'spinetlaw25.ConcealTells', WHERE WHAT IT READS IS OF BULK AT MOST 1048576: true; the input reads as it did. -/
def concealTellsUptoRow : OpenClaim := { program := "ytckcjgmikjpfaaadoor", sum := "88884b94f78e00bb0dfc377e05f2215d61d6e1311c8f1a3439c14aa79ff0cb0b", func := "spinet/spinetlaw25.ConcealTells", spec := "concealTells", named := ["spinet/conceal.fades"], apart := false, laid := [("spinet/conceal.fades", laid_spinet_conceal_fades)], narrowed := true }
def ConcealTellsUptoSaid : Prop := concealTellsUptoRow.holds Tryd.pinned (OpenSpec.upto concealTellsSpec)

/-- 'spinetlaw25.ConcealAlike', WHERE WHAT IT READS IS OF BULK AT MOST 1048576: true; the input reads as it did. -/
def concealAlikeUptoRow : OpenClaim := { program := "ytckcjgmikjpfaaadoor", sum := "88884b94f78e00bb0dfc377e05f2215d61d6e1311c8f1a3439c14aa79ff0cb0b", func := "spinet/spinetlaw25.ConcealAlike", spec := "concealAlike", named := ["spinet/conceal.fades"], apart := false, laid := [("spinet/conceal.fades", laid_spinet_conceal_fades)], narrowed := true }
def ConcealAlikeUptoSaid : Prop := concealAlikeUptoRow.holds Tryd.pinned (OpenSpec.upto concealAlikeSpec)

end Rows
end Go.Proofs.YtckcjgmikjpfaaaDoor
