/-
  NARROWER THAN 'FOR EVERY INPUT', by the rows' own cells (each row's printed sentence says how): TableNews: laid · TableFresh: laid · TableStates: laid · TableLife: laid · TableJoins: laid · TablePlays: laid.
  DERIVED. THE GIVEN ROWS OF THIS SEAT. 6 by the template 'for every input the law returns true; each argument reads behind the call as it read before'; 0 by the template 'total and deterministic' (their statements: YtghgfopcnaoaiaaDoorTotals.lean).
  GIVEN WITH THE SEED: the statements are not yours to turn. If you find one false, say at which input.
  Laid BY PROGRAM, IN A SANDBOX (cutbox-rows.mjs): the forced cells as the released guide's own fill.sh prints them over the translation 74c6c62a7082ab0c… (all of the seat's roots in one cut). By AI agents, Wed Nov 11 2026. No macro, syntax, notation, axiom, sorry.
-/
import Derived.Test.YtghgfopcnaoaiaaDoorChecked
import GoSem.Claim
import GoSem.ClaimJoined
import GoSem.ClaimMapViews
import Derived.JoinedTies
import Derived.KernelRfl
namespace Go.Proofs.YtghgfopcnaoaiaaDoor
/- THE CELL 'sum', in the pinned program and in every row, IS THE sha256 OF THE DUMP (.gsa) THAT YtghgfopcnaoaiaaDoorProg.lean LOADS. Nothing in Lean hashes anything: it is a label: what it is worth is what the hold of that sum in a sandbox is worth. -/
noncomputable def Tryd.pinned : Pinned := { name := "ytghgfopcnaoaiaadoor", sum := "74c6c62a7082ab0cd86a6c55e86e86d59b2e23e2e33f38a5dee013dcc1353041", checked := Tryd.checked }
namespace Rows
def none {H : Type} : Left H := { results := [], args := [] }

/- WHAT THE LISTED PACKAGE-LEVEL VARIABLES READ AS WHEN THE CALL BEGINS. Each datum BY PROGRAM (the guide's laid-datum.mjs) off the statement by which the dump's own 'gosem.cut.vars' lays the variable. In a bare row this is a premise. The card (YtghgfopcnaoaiaaDoorCards.lean) ties it to the program's text. -/
def laid_errors_errorType {H : Type} : DataW H := .iface "internal/reflectlite.rtype" (.agg [.ptr (.lit (.string [101, 114, 114, 111, 114]))])

/-- 'distafflaw11.TableNews': WHATEVER THE INPUT: true; the input reads as it did. -/
def tableNewsSpec : ChangeSpec := { name := "tableNews", fn := fun _ => fun
  | [d] => { results := [.lit (.bool true)], args := [d] }
  | _ => none }
def tableNewsRow : OpenClaim := { program := "ytghgfopcnaoaiaadoor", sum := "74c6c62a7082ab0cd86a6c55e86e86d59b2e23e2e33f38a5dee013dcc1353041", func := "distaff/distafflaw11.TableNews", spec := "tableNews", inPlace := ["internal/reflectlite.TypeOf", "internal/reflectlite.ValueOf", "(internal/reflectlite.Value).Type", "(internal/reflectlite.Value).IsNil", "(internal/reflectlite.Value).Elem", "(internal/reflectlite.Value).Set"], unfollowed := true, recurses := true, named := ["errors.errorType"], apart := false, laid := [("errors.errorType", laid_errors_errorType)] }
def TableNewsSaid : Prop := tableNewsRow.holds Tryd.pinned (OpenSpec.ofChange tableNewsSpec)

/-- ITS FALSE NEIGHBOUR: 'it returns false'. Refute it at one input. -/
def tableNewsWrong : ChangeSpec := { name := "tableNews", fn := fun _ => fun
  | [d] => { results := [.lit (.bool false)], args := [d] }
  | _ => none }
def TableNewsWrongFalsely : Prop := tableNewsRow.holds Tryd.pinned (OpenSpec.ofChange tableNewsWrong)

/-- 'distafflaw11.TableFresh': WHATEVER THE INPUT: true; the input reads as it did. -/
def tableFreshSpec : ChangeSpec := { name := "tableFresh", fn := fun _ => fun
  | [d1, d2] => { results := [.lit (.bool true)], args := [d1, d2] }
  | _ => none }
def tableFreshRow : OpenClaim := { program := "ytghgfopcnaoaiaadoor", sum := "74c6c62a7082ab0cd86a6c55e86e86d59b2e23e2e33f38a5dee013dcc1353041", func := "distaff/distafflaw11.TableFresh", spec := "tableFresh", inPlace := ["internal/reflectlite.TypeOf", "internal/reflectlite.ValueOf", "(internal/reflectlite.Value).Type", "(internal/reflectlite.Value).IsNil", "(internal/reflectlite.Value).Elem", "(internal/reflectlite.Value).Set"], unfollowed := true, recurses := true, named := ["errors.errorType"], apart := false, laid := [("errors.errorType", laid_errors_errorType)] }
def TableFreshSaid : Prop := tableFreshRow.holds Tryd.pinned (OpenSpec.ofChange tableFreshSpec)

/-- ITS FALSE NEIGHBOUR: 'it returns false'. Refute it at one input. -/
def tableFreshWrong : ChangeSpec := { name := "tableFresh", fn := fun _ => fun
  | [d1, d2] => { results := [.lit (.bool false)], args := [d1, d2] }
  | _ => none }
def TableFreshWrongFalsely : Prop := tableFreshRow.holds Tryd.pinned (OpenSpec.ofChange tableFreshWrong)

/-- 'distafflaw11.TableStates': WHATEVER THE INPUT: true; the input reads as it did. -/
def tableStatesSpec : ChangeSpec := { name := "tableStates", fn := fun _ => fun
  | [d] => { results := [.lit (.bool true)], args := [d] }
  | _ => none }
def tableStatesRow : OpenClaim := { program := "ytghgfopcnaoaiaadoor", sum := "74c6c62a7082ab0cd86a6c55e86e86d59b2e23e2e33f38a5dee013dcc1353041", func := "distaff/distafflaw11.TableStates", spec := "tableStates", inPlace := ["internal/reflectlite.TypeOf", "internal/reflectlite.ValueOf", "(internal/reflectlite.Value).Type", "(internal/reflectlite.Value).IsNil", "(internal/reflectlite.Value).Elem", "(internal/reflectlite.Value).Set"], unfollowed := true, recurses := true, named := ["errors.errorType"], apart := false, laid := [("errors.errorType", laid_errors_errorType)] }
def TableStatesSaid : Prop := tableStatesRow.holds Tryd.pinned (OpenSpec.ofChange tableStatesSpec)

/-- ITS FALSE NEIGHBOUR: 'it returns false'. Refute it at one input. -/
def tableStatesWrong : ChangeSpec := { name := "tableStates", fn := fun _ => fun
  | [d] => { results := [.lit (.bool false)], args := [d] }
  | _ => none }
def TableStatesWrongFalsely : Prop := tableStatesRow.holds Tryd.pinned (OpenSpec.ofChange tableStatesWrong)

/-- 'distafflaw11.TableLife': WHATEVER THE INPUT: true; the input reads as it did. -/
def tableLifeSpec : ChangeSpec := { name := "tableLife", fn := fun _ => fun
  | [d1, d2, d3, d4] => { results := [.lit (.bool true)], args := [d1, d2, d3, d4] }
  | _ => none }
def tableLifeRow : OpenClaim := { program := "ytghgfopcnaoaiaadoor", sum := "74c6c62a7082ab0cd86a6c55e86e86d59b2e23e2e33f38a5dee013dcc1353041", func := "distaff/distafflaw11.TableLife", spec := "tableLife", inPlace := ["internal/reflectlite.TypeOf", "internal/reflectlite.ValueOf", "(internal/reflectlite.Value).Type", "(internal/reflectlite.Value).IsNil", "(internal/reflectlite.Value).Elem", "(internal/reflectlite.Value).Set"], unfollowed := true, recurses := true, named := ["errors.errorType"], apart := false, laid := [("errors.errorType", laid_errors_errorType)] }
def TableLifeSaid : Prop := tableLifeRow.holds Tryd.pinned (OpenSpec.ofChange tableLifeSpec)

/-- ITS FALSE NEIGHBOUR: 'it returns false'. Refute it at one input. -/
def tableLifeWrong : ChangeSpec := { name := "tableLife", fn := fun _ => fun
  | [d1, d2, d3, d4] => { results := [.lit (.bool false)], args := [d1, d2, d3, d4] }
  | _ => none }
def TableLifeWrongFalsely : Prop := tableLifeRow.holds Tryd.pinned (OpenSpec.ofChange tableLifeWrong)

/-- 'distafflaw11.TableJoins': WHATEVER THE INPUT: true; the input reads as it did. -/
def tableJoinsSpec : ChangeSpec := { name := "tableJoins", fn := fun _ => fun
  | [d1, d2, d3] => { results := [.lit (.bool true)], args := [d1, d2, d3] }
  | _ => none }
def tableJoinsRow : OpenClaim := { program := "ytghgfopcnaoaiaadoor", sum := "74c6c62a7082ab0cd86a6c55e86e86d59b2e23e2e33f38a5dee013dcc1353041", func := "distaff/distafflaw11.TableJoins", spec := "tableJoins", inPlace := ["internal/reflectlite.TypeOf", "internal/reflectlite.ValueOf", "(internal/reflectlite.Value).Type", "(internal/reflectlite.Value).IsNil", "(internal/reflectlite.Value).Elem", "(internal/reflectlite.Value).Set"], unfollowed := true, recurses := true, named := ["errors.errorType"], apart := false, laid := [("errors.errorType", laid_errors_errorType)] }
def TableJoinsSaid : Prop := tableJoinsRow.holds Tryd.pinned (OpenSpec.ofChange tableJoinsSpec)

/-- ITS FALSE NEIGHBOUR: 'it returns false'. Refute it at one input. -/
def tableJoinsWrong : ChangeSpec := { name := "tableJoins", fn := fun _ => fun
  | [d1, d2, d3] => { results := [.lit (.bool false)], args := [d1, d2, d3] }
  | _ => none }
def TableJoinsWrongFalsely : Prop := tableJoinsRow.holds Tryd.pinned (OpenSpec.ofChange tableJoinsWrong)

/-- 'distafflaw11.TablePlays': WHATEVER THE INPUT: true; the input reads as it did. -/
def tablePlaysSpec : ChangeSpec := { name := "tablePlays", fn := fun _ => fun
  | [d1, d2] => { results := [.lit (.bool true)], args := [d1, d2] }
  | _ => none }
def tablePlaysRow : OpenClaim := { program := "ytghgfopcnaoaiaadoor", sum := "74c6c62a7082ab0cd86a6c55e86e86d59b2e23e2e33f38a5dee013dcc1353041", func := "distaff/distafflaw11.TablePlays", spec := "tablePlays", inPlace := ["internal/reflectlite.TypeOf", "internal/reflectlite.ValueOf", "(internal/reflectlite.Value).Type", "(internal/reflectlite.Value).IsNil", "(internal/reflectlite.Value).Elem", "(internal/reflectlite.Value).Set"], unfollowed := true, recurses := true, named := ["errors.errorType"], apart := false, laid := [("errors.errorType", laid_errors_errorType)] }
def TablePlaysSaid : Prop := tablePlaysRow.holds Tryd.pinned (OpenSpec.ofChange tablePlaysSpec)

/-- ITS FALSE NEIGHBOUR: 'it returns false'. Refute it at one input. -/
def tablePlaysWrong : ChangeSpec := { name := "tablePlays", fn := fun _ => fun
  | [d1, d2] => { results := [.lit (.bool false)], args := [d1, d2] }
  | _ => none }
def TablePlaysWrongFalsely : Prop := tablePlaysRow.holds Tryd.pinned (OpenSpec.ofChange tablePlaysWrong)

/- THE SECOND FORM. 'bulk': how many values and letters a reading holds, each counted each time it is reached (what is shared counts as often as it is met; a slice's spare places count too). A statement '..UptoSaid' is the law's where the arguments, and the package variables that the reading takes, are together of bulk at most 1048576: NARROWER than '..Said'. Prove '..Said' where nothing that the law and all that it calls make is longer than what came in: it says more and counts as full. Else prove '..UptoSaid'. A law counts once. -/
mutual
def uptoBulk {H : Type} : DataW H → Nat
  | .lit (.string bytes) => bytes.length + 1
  | .lit _ => 1
  | .nil => 1
  | .ptr d => uptoBulk d + 1
  | .slice elems spare => uptoBulkAll elems + uptoBulkAll spare + 1
  | .agg parts => uptoBulkAll parts + 1
  | .iface _ d => uptoBulk d + 1
  | .map entries => uptoBulkEntries entries + 1
  | .held _ => 1
def uptoBulkAll {H : Type} : List (DataW H) → Nat
  | [] => 0
  | d :: r => uptoBulk d + uptoBulkAll r
def uptoBulkEntries {H : Type} : List (Lit × DataW H) → Nat
  | [] => 0
  | x :: r => uptoBulkEntry x + uptoBulkEntries r
def uptoBulkEntry {H : Type} : Lit × DataW H → Nat
  | (.string bytes, d) => bytes.length + uptoBulk d + 1
  | (_, d) => uptoBulk d + 1
 end
def uptoSmall : (H : Type) → List (DataW H) → Bool := fun _ ds => decide (uptoBulkAll ds ≤ 1048576)
def OpenSpec.upto (s : _root_.Go.ChangeSpec) : _root_.Go.OpenSpec := { _root_.Go.OpenSpec.ofChange s with cond := some uptoSmall }

/-- 'distafflaw11.TableNews', WHERE WHAT IT READS IS OF BULK AT MOST 1048576: true; the input reads as it did. -/
def tableNewsUptoRow : OpenClaim := { program := "ytghgfopcnaoaiaadoor", sum := "74c6c62a7082ab0cd86a6c55e86e86d59b2e23e2e33f38a5dee013dcc1353041", func := "distaff/distafflaw11.TableNews", spec := "tableNews", inPlace := ["internal/reflectlite.TypeOf", "internal/reflectlite.ValueOf", "(internal/reflectlite.Value).Type", "(internal/reflectlite.Value).IsNil", "(internal/reflectlite.Value).Elem", "(internal/reflectlite.Value).Set"], unfollowed := true, recurses := true, named := ["errors.errorType"], apart := false, laid := [("errors.errorType", laid_errors_errorType)], narrowed := true }
def TableNewsUptoSaid : Prop := tableNewsUptoRow.holds Tryd.pinned (OpenSpec.upto tableNewsSpec)

/-- 'distafflaw11.TableFresh', WHERE WHAT IT READS IS OF BULK AT MOST 1048576: true; the input reads as it did. -/
def tableFreshUptoRow : OpenClaim := { program := "ytghgfopcnaoaiaadoor", sum := "74c6c62a7082ab0cd86a6c55e86e86d59b2e23e2e33f38a5dee013dcc1353041", func := "distaff/distafflaw11.TableFresh", spec := "tableFresh", inPlace := ["internal/reflectlite.TypeOf", "internal/reflectlite.ValueOf", "(internal/reflectlite.Value).Type", "(internal/reflectlite.Value).IsNil", "(internal/reflectlite.Value).Elem", "(internal/reflectlite.Value).Set"], unfollowed := true, recurses := true, named := ["errors.errorType"], apart := false, laid := [("errors.errorType", laid_errors_errorType)], narrowed := true }
def TableFreshUptoSaid : Prop := tableFreshUptoRow.holds Tryd.pinned (OpenSpec.upto tableFreshSpec)

/-- 'distafflaw11.TableStates', WHERE WHAT IT READS IS OF BULK AT MOST 1048576: true; the input reads as it did. -/
def tableStatesUptoRow : OpenClaim := { program := "ytghgfopcnaoaiaadoor", sum := "74c6c62a7082ab0cd86a6c55e86e86d59b2e23e2e33f38a5dee013dcc1353041", func := "distaff/distafflaw11.TableStates", spec := "tableStates", inPlace := ["internal/reflectlite.TypeOf", "internal/reflectlite.ValueOf", "(internal/reflectlite.Value).Type", "(internal/reflectlite.Value).IsNil", "(internal/reflectlite.Value).Elem", "(internal/reflectlite.Value).Set"], unfollowed := true, recurses := true, named := ["errors.errorType"], apart := false, laid := [("errors.errorType", laid_errors_errorType)], narrowed := true }
def TableStatesUptoSaid : Prop := tableStatesUptoRow.holds Tryd.pinned (OpenSpec.upto tableStatesSpec)

/-- 'distafflaw11.TableLife', WHERE WHAT IT READS IS OF BULK AT MOST 1048576: true; the input reads as it did. -/
def tableLifeUptoRow : OpenClaim := { program := "ytghgfopcnaoaiaadoor", sum := "74c6c62a7082ab0cd86a6c55e86e86d59b2e23e2e33f38a5dee013dcc1353041", func := "distaff/distafflaw11.TableLife", spec := "tableLife", inPlace := ["internal/reflectlite.TypeOf", "internal/reflectlite.ValueOf", "(internal/reflectlite.Value).Type", "(internal/reflectlite.Value).IsNil", "(internal/reflectlite.Value).Elem", "(internal/reflectlite.Value).Set"], unfollowed := true, recurses := true, named := ["errors.errorType"], apart := false, laid := [("errors.errorType", laid_errors_errorType)], narrowed := true }
def TableLifeUptoSaid : Prop := tableLifeUptoRow.holds Tryd.pinned (OpenSpec.upto tableLifeSpec)

/-- 'distafflaw11.TableJoins', WHERE WHAT IT READS IS OF BULK AT MOST 1048576: true; the input reads as it did. -/
def tableJoinsUptoRow : OpenClaim := { program := "ytghgfopcnaoaiaadoor", sum := "74c6c62a7082ab0cd86a6c55e86e86d59b2e23e2e33f38a5dee013dcc1353041", func := "distaff/distafflaw11.TableJoins", spec := "tableJoins", inPlace := ["internal/reflectlite.TypeOf", "internal/reflectlite.ValueOf", "(internal/reflectlite.Value).Type", "(internal/reflectlite.Value).IsNil", "(internal/reflectlite.Value).Elem", "(internal/reflectlite.Value).Set"], unfollowed := true, recurses := true, named := ["errors.errorType"], apart := false, laid := [("errors.errorType", laid_errors_errorType)], narrowed := true }
def TableJoinsUptoSaid : Prop := tableJoinsUptoRow.holds Tryd.pinned (OpenSpec.upto tableJoinsSpec)

/-- 'distafflaw11.TablePlays', WHERE WHAT IT READS IS OF BULK AT MOST 1048576: true; the input reads as it did. -/
def tablePlaysUptoRow : OpenClaim := { program := "ytghgfopcnaoaiaadoor", sum := "74c6c62a7082ab0cd86a6c55e86e86d59b2e23e2e33f38a5dee013dcc1353041", func := "distaff/distafflaw11.TablePlays", spec := "tablePlays", inPlace := ["internal/reflectlite.TypeOf", "internal/reflectlite.ValueOf", "(internal/reflectlite.Value).Type", "(internal/reflectlite.Value).IsNil", "(internal/reflectlite.Value).Elem", "(internal/reflectlite.Value).Set"], unfollowed := true, recurses := true, named := ["errors.errorType"], apart := false, laid := [("errors.errorType", laid_errors_errorType)], narrowed := true }
def TablePlaysUptoSaid : Prop := tablePlaysUptoRow.holds Tryd.pinned (OpenSpec.upto tablePlaysSpec)

end Rows
end Go.Proofs.YtghgfopcnaoaiaaDoor
