/-
  DERIVED. GIVEN WITH THE SEED: THE CARDS: each row of YtghgfopcnaoaiaaDoorRows.lean that lists a variable, with what it lists TIED to the program's text (the seventh form; the later family's looks); each row that meets fmt, with fmt's text TOLD by the authors' own Lean function (tested against real Go, not proved from fmt's source: count such statements apart). THE CARD IS WHAT COUNTS. Prove the row's statement (the work); the ties are given (YtghgfopcnaoaiaaDoorTie.lean); close each card by the builder's one call (the guide's Derived/Test/ToyasCard.lean, 'card_holds'). Laid BY PROGRAM, IN A SANDBOX (cutbox-door.mjs). By AI agents, Wed Nov 11 2026. No macro, syntax, notation, axiom, sorry.
-/
import Derived.Test.YtghgfopcnaoaiaaDoorRows
import GoSem.ClaimSeven
namespace Go.Proofs.YtghgfopcnaoaiaaDoor
namespace Rows

/-- THE TIED CARD OF 'distafflaw11.TableNews'. -/
def tableNewsCard : Claim7 := { stood := { row := tableNewsRow, standIns := [], harness := (true, "b5c9f8cf152be5428a5e91734c466189132d7cb3e9b367d48dcacd3fa9c0e644"), looks := true }, kinds := [], alts := [], laidByText := true, laidKinds := [.handle], laidTests := true, laidLooks := .later }
def TableNewsCardSaid : Prop := Claim7.holds Tryd.pinned (.plain (OpenSpec.ofChange tableNewsSpec)) tableNewsCard

/-- THE TIED CARD OF 'distafflaw11.TableFresh'. -/
def tableFreshCard : Claim7 := { stood := { row := tableFreshRow, standIns := [], harness := (true, "b5c9f8cf152be5428a5e91734c466189132d7cb3e9b367d48dcacd3fa9c0e644"), looks := true }, kinds := [], alts := [], laidByText := true, laidKinds := [.handle], laidTests := true, laidLooks := .later }
def TableFreshCardSaid : Prop := Claim7.holds Tryd.pinned (.plain (OpenSpec.ofChange tableFreshSpec)) tableFreshCard

/-- THE TIED CARD OF 'distafflaw11.TableStates'. -/
def tableStatesCard : Claim7 := { stood := { row := tableStatesRow, standIns := [], harness := (true, "b5c9f8cf152be5428a5e91734c466189132d7cb3e9b367d48dcacd3fa9c0e644"), looks := true }, kinds := [], alts := [], laidByText := true, laidKinds := [.handle], laidTests := true, laidLooks := .later }
def TableStatesCardSaid : Prop := Claim7.holds Tryd.pinned (.plain (OpenSpec.ofChange tableStatesSpec)) tableStatesCard

/-- THE TIED CARD OF 'distafflaw11.TableLife'. -/
def tableLifeCard : Claim7 := { stood := { row := tableLifeRow, standIns := [], harness := (true, "b5c9f8cf152be5428a5e91734c466189132d7cb3e9b367d48dcacd3fa9c0e644"), looks := true }, kinds := [], alts := [], laidByText := true, laidKinds := [.handle], laidTests := true, laidLooks := .later }
def TableLifeCardSaid : Prop := Claim7.holds Tryd.pinned (.plain (OpenSpec.ofChange tableLifeSpec)) tableLifeCard

/-- THE TIED CARD OF 'distafflaw11.TableJoins'. -/
def tableJoinsCard : Claim7 := { stood := { row := tableJoinsRow, standIns := [], harness := (true, "b5c9f8cf152be5428a5e91734c466189132d7cb3e9b367d48dcacd3fa9c0e644"), looks := true }, kinds := [], alts := [], laidByText := true, laidKinds := [.handle], laidTests := true, laidLooks := .later }
def TableJoinsCardSaid : Prop := Claim7.holds Tryd.pinned (.plain (OpenSpec.ofChange tableJoinsSpec)) tableJoinsCard

/-- THE TIED CARD OF 'distafflaw11.TablePlays'. -/
def tablePlaysCard : Claim7 := { stood := { row := tablePlaysRow, standIns := [], harness := (true, "b5c9f8cf152be5428a5e91734c466189132d7cb3e9b367d48dcacd3fa9c0e644"), looks := true }, kinds := [], alts := [], laidByText := true, laidKinds := [.handle], laidTests := true, laidLooks := .later }
def TablePlaysCardSaid : Prop := Claim7.holds Tryd.pinned (.plain (OpenSpec.ofChange tablePlaysSpec)) tablePlaysCard

/-- THE SECOND FORM's CARD OF 'distafflaw11.TableNews'. -/
def tableNewsUptoCard : Claim7 := { stood := { row := tableNewsUptoRow, standIns := [], harness := (true, "b5c9f8cf152be5428a5e91734c466189132d7cb3e9b367d48dcacd3fa9c0e644"), looks := true }, kinds := [], alts := [], laidByText := true, laidKinds := [.handle], laidTests := true, laidLooks := .later }
def TableNewsUptoCardSaid : Prop := Claim7.holds Tryd.pinned (.plain (OpenSpec.upto tableNewsSpec)) tableNewsUptoCard

/-- THE SECOND FORM's CARD OF 'distafflaw11.TableFresh'. -/
def tableFreshUptoCard : Claim7 := { stood := { row := tableFreshUptoRow, standIns := [], harness := (true, "b5c9f8cf152be5428a5e91734c466189132d7cb3e9b367d48dcacd3fa9c0e644"), looks := true }, kinds := [], alts := [], laidByText := true, laidKinds := [.handle], laidTests := true, laidLooks := .later }
def TableFreshUptoCardSaid : Prop := Claim7.holds Tryd.pinned (.plain (OpenSpec.upto tableFreshSpec)) tableFreshUptoCard

/-- THE SECOND FORM's CARD OF 'distafflaw11.TableStates'. -/
def tableStatesUptoCard : Claim7 := { stood := { row := tableStatesUptoRow, standIns := [], harness := (true, "b5c9f8cf152be5428a5e91734c466189132d7cb3e9b367d48dcacd3fa9c0e644"), looks := true }, kinds := [], alts := [], laidByText := true, laidKinds := [.handle], laidTests := true, laidLooks := .later }
def TableStatesUptoCardSaid : Prop := Claim7.holds Tryd.pinned (.plain (OpenSpec.upto tableStatesSpec)) tableStatesUptoCard

/-- THE SECOND FORM's CARD OF 'distafflaw11.TableLife'. -/
def tableLifeUptoCard : Claim7 := { stood := { row := tableLifeUptoRow, standIns := [], harness := (true, "b5c9f8cf152be5428a5e91734c466189132d7cb3e9b367d48dcacd3fa9c0e644"), looks := true }, kinds := [], alts := [], laidByText := true, laidKinds := [.handle], laidTests := true, laidLooks := .later }
def TableLifeUptoCardSaid : Prop := Claim7.holds Tryd.pinned (.plain (OpenSpec.upto tableLifeSpec)) tableLifeUptoCard

/-- THE SECOND FORM's CARD OF 'distafflaw11.TableJoins'. -/
def tableJoinsUptoCard : Claim7 := { stood := { row := tableJoinsUptoRow, standIns := [], harness := (true, "b5c9f8cf152be5428a5e91734c466189132d7cb3e9b367d48dcacd3fa9c0e644"), looks := true }, kinds := [], alts := [], laidByText := true, laidKinds := [.handle], laidTests := true, laidLooks := .later }
def TableJoinsUptoCardSaid : Prop := Claim7.holds Tryd.pinned (.plain (OpenSpec.upto tableJoinsSpec)) tableJoinsUptoCard

/-- THE SECOND FORM's CARD OF 'distafflaw11.TablePlays'. -/
def tablePlaysUptoCard : Claim7 := { stood := { row := tablePlaysUptoRow, standIns := [], harness := (true, "b5c9f8cf152be5428a5e91734c466189132d7cb3e9b367d48dcacd3fa9c0e644"), looks := true }, kinds := [], alts := [], laidByText := true, laidKinds := [.handle], laidTests := true, laidLooks := .later }
def TablePlaysUptoCardSaid : Prop := Claim7.holds Tryd.pinned (.plain (OpenSpec.upto tablePlaysSpec)) tablePlaysUptoCard
end Rows
end Go.Proofs.YtghgfopcnaoaiaaDoor
