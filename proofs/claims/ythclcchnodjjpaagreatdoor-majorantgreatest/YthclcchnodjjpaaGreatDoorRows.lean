/-
  NARROWER THAN 'FOR EVERY INPUT', by the rows' own cells (each row's printed sentence says how): MajorantTyped: laid · MajorantBounds: laid · MajorantGrows: laid · MajorantPut: laid · MajorantGreatest: laid.
  DERIVED. THE GIVEN ROWS OF THIS SEAT. 5 by the template 'for every input the law returns true; each argument reads behind the call as it read before'; 0 by the template 'total and deterministic' (their statements: YthclcchnodjjpaaGreatDoorTotals.lean).
  GIVEN WITH THE SEED: the statements are not yours to turn. If you find one false, say at which input.
  Laid BY PROGRAM, IN A SANDBOX (cutbox-rows.mjs): the forced cells as the released guide's own fill.sh prints them over the translation 49d104df8016033b… (all of the seat's roots in one cut). By AI agents, Wed Nov 11 2026. No macro, syntax, notation, axiom, sorry.
-/
import Derived.Test.YthclcchnodjjpaaGreatDoorChecked
import GoSem.Claim
import GoSem.ClaimJoined
import GoSem.ClaimMapViews
import Derived.JoinedTies
import Derived.KernelRfl
namespace Go.Proofs.YthclcchnodjjpaaGreatDoor
/- THE CELL 'sum', in the pinned program and in every row, IS THE sha256 OF THE DUMP (.gsa) THAT YthclcchnodjjpaaGreatDoorProg.lean LOADS. Nothing in Lean hashes anything: it is a label: what it is worth is what the hold of that sum in a sandbox is worth. -/
noncomputable def Tryz.pinned : Pinned := { name := "ythclcchnodjjpaagreatdoor", sum := "49d104df8016033b4166352714f7a86faeb7012afb3b25fd44b2e39ced0d041c", checked := Tryz.checked }
namespace Rows
def none {H : Type} : Left H := { results := [], args := [] }

/- WHAT THE LISTED PACKAGE-LEVEL VARIABLES READ AS WHEN THE CALL BEGINS. Each datum BY PROGRAM (the guide's laid-datum.mjs) off the statement by which the dump's own 'gosem.cut.vars' lays the variable. In a bare row this is a premise. The card (YthclcchnodjjpaaGreatDoorCards.lean) ties it to the program's text. -/
def laid_proofprograms_tree_arities {H : Type} : DataW H := .agg [.lit (.int .i64 0), .lit (.int .i64 0), .lit (.int .i64 1), .lit (.int .i64 2), .lit (.int .i64 0), .lit (.int .i64 1), .lit (.int .i64 3), .lit (.int .i64 0), .lit (.int .i64 2), .lit (.int .i64 3), .lit (.int .i64 2), .lit (.int .i64 1), .lit (.int .i64 1), .lit (.int .i64 0)]

/-- 'proofprogramslaw33.MajorantTyped': WHATEVER THE INPUT: true; the input reads as it did. -/
def majorantTypedSpec : ChangeSpec := { name := "majorantTyped", fn := fun _ => fun
  | [d] => { results := [.lit (.bool true)], args := [d] }
  | _ => none }
def majorantTypedRow : OpenClaim := { program := "ythclcchnodjjpaagreatdoor", sum := "49d104df8016033b4166352714f7a86faeb7012afb3b25fd44b2e39ced0d041c", func := "proofprograms/proofprogramslaw33.MajorantTyped", spec := "majorantTyped", unfollowed := true, recurses := true, named := ["proofprograms/tree.arities"], apart := false, laid := [("proofprograms/tree.arities", laid_proofprograms_tree_arities)] }
def MajorantTypedSaid : Prop := majorantTypedRow.holds Tryz.pinned (OpenSpec.ofChange majorantTypedSpec)

/-- ITS FALSE NEIGHBOUR: 'it returns false'. Refute it at one input. -/
def majorantTypedWrong : ChangeSpec := { name := "majorantTyped", fn := fun _ => fun
  | [d] => { results := [.lit (.bool false)], args := [d] }
  | _ => none }
def MajorantTypedWrongFalsely : Prop := majorantTypedRow.holds Tryz.pinned (OpenSpec.ofChange majorantTypedWrong)

/-- 'proofprogramslaw33.MajorantBounds': WHATEVER THE INPUT: true; the input reads as it did. -/
def majorantBoundsSpec : ChangeSpec := { name := "majorantBounds", fn := fun _ => fun
  | [d] => { results := [.lit (.bool true)], args := [d] }
  | _ => none }
def majorantBoundsRow : OpenClaim := { program := "ythclcchnodjjpaagreatdoor", sum := "49d104df8016033b4166352714f7a86faeb7012afb3b25fd44b2e39ced0d041c", func := "proofprograms/proofprogramslaw33.MajorantBounds", spec := "majorantBounds", unfollowed := true, recurses := true, named := ["proofprograms/tree.arities"], apart := false, laid := [("proofprograms/tree.arities", laid_proofprograms_tree_arities)] }
def MajorantBoundsSaid : Prop := majorantBoundsRow.holds Tryz.pinned (OpenSpec.ofChange majorantBoundsSpec)

/-- ITS FALSE NEIGHBOUR: 'it returns false'. Refute it at one input. -/
def majorantBoundsWrong : ChangeSpec := { name := "majorantBounds", fn := fun _ => fun
  | [d] => { results := [.lit (.bool false)], args := [d] }
  | _ => none }
def MajorantBoundsWrongFalsely : Prop := majorantBoundsRow.holds Tryz.pinned (OpenSpec.ofChange majorantBoundsWrong)

/-- 'proofprogramslaw33.MajorantGrows': WHATEVER THE INPUT: true; the input reads as it did. -/
def majorantGrowsSpec : ChangeSpec := { name := "majorantGrows", fn := fun _ => fun
  | [d] => { results := [.lit (.bool true)], args := [d] }
  | _ => none }
def majorantGrowsRow : OpenClaim := { program := "ythclcchnodjjpaagreatdoor", sum := "49d104df8016033b4166352714f7a86faeb7012afb3b25fd44b2e39ced0d041c", func := "proofprograms/proofprogramslaw33.MajorantGrows", spec := "majorantGrows", unfollowed := true, recurses := true, named := ["proofprograms/tree.arities"], apart := false, laid := [("proofprograms/tree.arities", laid_proofprograms_tree_arities)] }
def MajorantGrowsSaid : Prop := majorantGrowsRow.holds Tryz.pinned (OpenSpec.ofChange majorantGrowsSpec)

/-- ITS FALSE NEIGHBOUR: 'it returns false'. Refute it at one input. -/
def majorantGrowsWrong : ChangeSpec := { name := "majorantGrows", fn := fun _ => fun
  | [d] => { results := [.lit (.bool false)], args := [d] }
  | _ => none }
def MajorantGrowsWrongFalsely : Prop := majorantGrowsRow.holds Tryz.pinned (OpenSpec.ofChange majorantGrowsWrong)

/-- 'proofprogramslaw33.MajorantPut': WHATEVER THE INPUT: true; the input reads as it did. -/
def majorantPutSpec : ChangeSpec := { name := "majorantPut", fn := fun _ => fun
  | [d] => { results := [.lit (.bool true)], args := [d] }
  | _ => none }
def majorantPutRow : OpenClaim := { program := "ythclcchnodjjpaagreatdoor", sum := "49d104df8016033b4166352714f7a86faeb7012afb3b25fd44b2e39ced0d041c", func := "proofprograms/proofprogramslaw33.MajorantPut", spec := "majorantPut", unfollowed := true, recurses := true, named := ["proofprograms/tree.arities"], apart := false, laid := [("proofprograms/tree.arities", laid_proofprograms_tree_arities)] }
def MajorantPutSaid : Prop := majorantPutRow.holds Tryz.pinned (OpenSpec.ofChange majorantPutSpec)

/-- ITS FALSE NEIGHBOUR: 'it returns false'. Refute it at one input. -/
def majorantPutWrong : ChangeSpec := { name := "majorantPut", fn := fun _ => fun
  | [d] => { results := [.lit (.bool false)], args := [d] }
  | _ => none }
def MajorantPutWrongFalsely : Prop := majorantPutRow.holds Tryz.pinned (OpenSpec.ofChange majorantPutWrong)

/-- 'proofprogramslaw33.MajorantGreatest': WHATEVER THE INPUT: true; the input reads as it did. -/
def majorantGreatestSpec : ChangeSpec := { name := "majorantGreatest", fn := fun _ => fun
  | [d] => { results := [.lit (.bool true)], args := [d] }
  | _ => none }
def majorantGreatestRow : OpenClaim := { program := "ythclcchnodjjpaagreatdoor", sum := "49d104df8016033b4166352714f7a86faeb7012afb3b25fd44b2e39ced0d041c", func := "proofprograms/proofprogramslaw33.MajorantGreatest", spec := "majorantGreatest", unfollowed := true, recurses := true, named := ["proofprograms/tree.arities"], apart := false, laid := [("proofprograms/tree.arities", laid_proofprograms_tree_arities)] }
def MajorantGreatestSaid : Prop := majorantGreatestRow.holds Tryz.pinned (OpenSpec.ofChange majorantGreatestSpec)

/-- ITS FALSE NEIGHBOUR: 'it returns false'. Refute it at one input. -/
def majorantGreatestWrong : ChangeSpec := { name := "majorantGreatest", fn := fun _ => fun
  | [d] => { results := [.lit (.bool false)], args := [d] }
  | _ => none }
def MajorantGreatestWrongFalsely : Prop := majorantGreatestRow.holds Tryz.pinned (OpenSpec.ofChange majorantGreatestWrong)

/- THE SECOND FORM. 'bulk': how many values and letters a reading holds, each counted each time it is reached (what is shared counts as often as it is met; a slice's spare places count too). A statement '..UptoSaid' is the law's where the arguments, and the package variables that the reading takes, are together of bulk at most 1048576: NARROWER than '..Said'. Prove '..Said' where nothing that the law and all that it calls make is longer than what came in: it says more and counts as full. Else prove '..UptoSaid'. A law counts once. -/
mutual
def uptoBulk {H : Type} : DataW H → Nat
  | .lit (.string bytes) => bytes.length + 1
  | .lit _ => 1
  | .nil => 1
  | .ptr d => uptoBulk d + 1
  | .slice elems spare => uptoBulkAll elems + uptoBulkAll spare + 1
  | .agg parts => uptoBulkAll parts + 1
  | .iface _ d => uptoBulk d + 1
  | .map entries => uptoBulkEntries entries + 1
  | .held _ => 1
def uptoBulkAll {H : Type} : List (DataW H) → Nat
  | [] => 0
  | d :: r => uptoBulk d + uptoBulkAll r
def uptoBulkEntries {H : Type} : List (Lit × DataW H) → Nat
  | [] => 0
  | x :: r => uptoBulkEntry x + uptoBulkEntries r
def uptoBulkEntry {H : Type} : Lit × DataW H → Nat
  | (.string bytes, d) => bytes.length + uptoBulk d + 1
  | (_, d) => uptoBulk d + 1
 end
def uptoSmall : (H : Type) → List (DataW H) → Bool := fun _ ds => decide (uptoBulkAll ds ≤ 1048576)
def OpenSpec.upto (s : _root_.Go.ChangeSpec) : _root_.Go.OpenSpec := { _root_.Go.OpenSpec.ofChange s with cond := some uptoSmall }

/-- 'proofprogramslaw33.MajorantTyped', WHERE WHAT IT READS IS OF BULK AT MOST 1048576: true; the input reads as it did. -/
def majorantTypedUptoRow : OpenClaim := { program := "ythclcchnodjjpaagreatdoor", sum := "49d104df8016033b4166352714f7a86faeb7012afb3b25fd44b2e39ced0d041c", func := "proofprograms/proofprogramslaw33.MajorantTyped", spec := "majorantTyped", unfollowed := true, recurses := true, named := ["proofprograms/tree.arities"], apart := false, laid := [("proofprograms/tree.arities", laid_proofprograms_tree_arities)], narrowed := true }
def MajorantTypedUptoSaid : Prop := majorantTypedUptoRow.holds Tryz.pinned (OpenSpec.upto majorantTypedSpec)

/-- 'proofprogramslaw33.MajorantBounds', WHERE WHAT IT READS IS OF BULK AT MOST 1048576: true; the input reads as it did. -/
def majorantBoundsUptoRow : OpenClaim := { program := "ythclcchnodjjpaagreatdoor", sum := "49d104df8016033b4166352714f7a86faeb7012afb3b25fd44b2e39ced0d041c", func := "proofprograms/proofprogramslaw33.MajorantBounds", spec := "majorantBounds", unfollowed := true, recurses := true, named := ["proofprograms/tree.arities"], apart := false, laid := [("proofprograms/tree.arities", laid_proofprograms_tree_arities)], narrowed := true }
def MajorantBoundsUptoSaid : Prop := majorantBoundsUptoRow.holds Tryz.pinned (OpenSpec.upto majorantBoundsSpec)

/-- 'proofprogramslaw33.MajorantGrows', WHERE WHAT IT READS IS OF BULK AT MOST 1048576: true; the input reads as it did. -/
def majorantGrowsUptoRow : OpenClaim := { program := "ythclcchnodjjpaagreatdoor", sum := "49d104df8016033b4166352714f7a86faeb7012afb3b25fd44b2e39ced0d041c", func := "proofprograms/proofprogramslaw33.MajorantGrows", spec := "majorantGrows", unfollowed := true, recurses := true, named := ["proofprograms/tree.arities"], apart := false, laid := [("proofprograms/tree.arities", laid_proofprograms_tree_arities)], narrowed := true }
def MajorantGrowsUptoSaid : Prop := majorantGrowsUptoRow.holds Tryz.pinned (OpenSpec.upto majorantGrowsSpec)

/-- 'proofprogramslaw33.MajorantPut', WHERE WHAT IT READS IS OF BULK AT MOST 1048576: true; the input reads as it did. -/
def majorantPutUptoRow : OpenClaim := { program := "ythclcchnodjjpaagreatdoor", sum := "49d104df8016033b4166352714f7a86faeb7012afb3b25fd44b2e39ced0d041c", func := "proofprograms/proofprogramslaw33.MajorantPut", spec := "majorantPut", unfollowed := true, recurses := true, named := ["proofprograms/tree.arities"], apart := false, laid := [("proofprograms/tree.arities", laid_proofprograms_tree_arities)], narrowed := true }
def MajorantPutUptoSaid : Prop := majorantPutUptoRow.holds Tryz.pinned (OpenSpec.upto majorantPutSpec)

/-- 'proofprogramslaw33.MajorantGreatest', WHERE WHAT IT READS IS OF BULK AT MOST 1048576: true; the input reads as it did. -/
def majorantGreatestUptoRow : OpenClaim := { program := "ythclcchnodjjpaagreatdoor", sum := "49d104df8016033b4166352714f7a86faeb7012afb3b25fd44b2e39ced0d041c", func := "proofprograms/proofprogramslaw33.MajorantGreatest", spec := "majorantGreatest", unfollowed := true, recurses := true, named := ["proofprograms/tree.arities"], apart := false, laid := [("proofprograms/tree.arities", laid_proofprograms_tree_arities)], narrowed := true }
def MajorantGreatestUptoSaid : Prop := majorantGreatestUptoRow.holds Tryz.pinned (OpenSpec.upto majorantGreatestSpec)

end Rows
end Go.Proofs.YthclcchnodjjpaaGreatDoor
