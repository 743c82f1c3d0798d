/-
  DERIVED. GIVEN WITH THE SEED: THE CARDS: each row of YtnecmimmoifodaaGreatDoorRows.lean that lists a variable, with what it lists TIED to the program's text (the seventh form; the later family's looks); each row that meets fmt, with fmt's text TOLD by the authors' own Lean function (tested against real Go, not proved from fmt's source: count such statements apart). THE CARD IS WHAT COUNTS. Prove the row's statement (the work); the ties are given (YtnecmimmoifodaaGreatDoorTie.lean); close each card by the builder's one call (the guide's Derived/Test/ToyasCard.lean, 'card_holds'). Laid BY PROGRAM, IN A SANDBOX (cutbox-door.mjs). By AI agents, Wed Nov 11 2026. No macro, syntax, notation, axiom, sorry.
-/
import Derived.Test.YtnecmimmoifodaaGreatDoorRows
import GoSem.ClaimSeven
namespace Go.Proofs.YtnecmimmoifodaaGreatDoor
namespace Rows

/-- THE TIED CARD OF 'lockkeeperlaw26.SchedTimes'. -/
def schedTimesCard : Claim7 := { stood := { row := schedTimesRow, standIns := [], harness := (true, "aa849deeb75b1005ec7847a85e679ce57ced498c6160d87af79ac10a6727d6f6"), looks := false }, kinds := [], alts := [], laidByText := true, laidKinds := [.data, .data, .data, .data, .pinned], laidTests := true, laidLooks := .later }
def SchedTimesCardSaid : Prop := Claim7.holds Tryz.pinned (.plain (OpenSpec.ofChange schedTimesSpec)) schedTimesCard

/-- THE TIED CARD OF 'lockkeeperlaw26.SchedBodies'. -/
def schedBodiesCard : Claim7 := { stood := { row := schedBodiesRow, standIns := [], harness := (true, "aa849deeb75b1005ec7847a85e679ce57ced498c6160d87af79ac10a6727d6f6"), looks := false }, kinds := [], alts := [], laidByText := true, laidKinds := [.data, .data, .data, .data, .pinned], laidTests := true, laidLooks := .later }
def SchedBodiesCardSaid : Prop := Claim7.holds Tryz.pinned (.plain (OpenSpec.ofChange schedBodiesSpec)) schedBodiesCard

/-- THE TIED CARD OF 'lockkeeperlaw26.SchedShares'. -/
def schedSharesCard : Claim7 := { stood := { row := schedSharesRow, standIns := [], harness := (true, "aa849deeb75b1005ec7847a85e679ce57ced498c6160d87af79ac10a6727d6f6"), looks := false }, kinds := [], alts := [], laidByText := true, laidKinds := [.data, .data, .data, .data, .pinned], laidTests := true, laidLooks := .later }
def SchedSharesCardSaid : Prop := Claim7.holds Tryz.pinned (.plain (OpenSpec.ofChange schedSharesSpec)) schedSharesCard

/-- THE SECOND FORM's CARD OF 'lockkeeperlaw26.SchedTimes'. -/
def schedTimesUptoCard : Claim7 := { stood := { row := schedTimesUptoRow, standIns := [], harness := (true, "aa849deeb75b1005ec7847a85e679ce57ced498c6160d87af79ac10a6727d6f6"), looks := false }, kinds := [], alts := [], laidByText := true, laidKinds := [.data, .data, .data, .data, .pinned], laidTests := true, laidLooks := .later }
def SchedTimesUptoCardSaid : Prop := Claim7.holds Tryz.pinned (.plain (OpenSpec.upto schedTimesSpec)) schedTimesUptoCard

/-- THE SECOND FORM's CARD OF 'lockkeeperlaw26.SchedBodies'. -/
def schedBodiesUptoCard : Claim7 := { stood := { row := schedBodiesUptoRow, standIns := [], harness := (true, "aa849deeb75b1005ec7847a85e679ce57ced498c6160d87af79ac10a6727d6f6"), looks := false }, kinds := [], alts := [], laidByText := true, laidKinds := [.data, .data, .data, .data, .pinned], laidTests := true, laidLooks := .later }
def SchedBodiesUptoCardSaid : Prop := Claim7.holds Tryz.pinned (.plain (OpenSpec.upto schedBodiesSpec)) schedBodiesUptoCard

/-- THE SECOND FORM's CARD OF 'lockkeeperlaw26.SchedShares'. -/
def schedSharesUptoCard : Claim7 := { stood := { row := schedSharesUptoRow, standIns := [], harness := (true, "aa849deeb75b1005ec7847a85e679ce57ced498c6160d87af79ac10a6727d6f6"), looks := false }, kinds := [], alts := [], laidByText := true, laidKinds := [.data, .data, .data, .data, .pinned], laidTests := true, laidLooks := .later }
def SchedSharesUptoCardSaid : Prop := Claim7.holds Tryz.pinned (.plain (OpenSpec.upto schedSharesSpec)) schedSharesUptoCard
end Rows
end Go.Proofs.YtnecmimmoifodaaGreatDoor
