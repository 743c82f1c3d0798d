/-
  DERIVED. GIVEN WITH THE SEED: THE CARDS: each row of YtpognhdhlbgliaaGreatDoorRows.lean that lists a variable, with what it lists TIED to the program's text (the seventh form; the later family's looks); each row that meets fmt, with fmt's text TOLD by the authors' own Lean function (tested against real Go, not proved from fmt's source: count such statements apart). THE CARD IS WHAT COUNTS. Prove the row's statement (the work); the ties are given (YtpognhdhlbgliaaGreatDoorTie.lean); close each card by the builder's one call (the guide's Derived/Test/ToyasCard.lean, 'card_holds'). Laid BY PROGRAM, IN A SANDBOX (cutbox-door.mjs). By AI agents, Wed Nov 11 2026. No macro, syntax, notation, axiom, sorry.
-/
import Derived.Test.YtpognhdhlbgliaaGreatDoorRows
import GoSem.ClaimSeven
namespace Go.Proofs.YtpognhdhlbgliaaGreatDoor
namespace Rows

/-- THE TIED CARD OF 'lockkeeperlaw26.SchedConfigs'. -/
def schedConfigsCard : Claim7 := { stood := { row := schedConfigsRow, standIns := [], harness := (true, "d375464da7bacdc538338f168f284145d8d639aafe767bd697c0a804cd84121a"), looks := false }, kinds := [], alts := [], laidByText := true, laidKinds := [.data, .data, .data, .data, .pinned], laidTests := true, laidLooks := .later }
def SchedConfigsCardSaid : Prop := Claim7.holds Tryz.pinned (.plain (OpenSpec.ofChange schedConfigsSpec)) schedConfigsCard

/-- THE TIED CARD OF 'lockkeeperlaw26.SchedGates'. -/
def schedGatesCard : Claim7 := { stood := { row := schedGatesRow, standIns := [], harness := (true, "d375464da7bacdc538338f168f284145d8d639aafe767bd697c0a804cd84121a"), looks := false }, kinds := [], alts := [], laidByText := true, laidKinds := [.data, .data, .data, .data, .pinned], laidTests := true, laidLooks := .later }
def SchedGatesCardSaid : Prop := Claim7.holds Tryz.pinned (.plain (OpenSpec.ofChange schedGatesSpec)) schedGatesCard

/-- THE TIED CARD OF 'lockkeeperlaw26.SchedCreds'. -/
def schedCredsCard : Claim7 := { stood := { row := schedCredsRow, standIns := [], harness := (true, "d375464da7bacdc538338f168f284145d8d639aafe767bd697c0a804cd84121a"), looks := false }, kinds := [], alts := [], laidByText := true, laidKinds := [.data, .data, .data, .data, .pinned], laidTests := true, laidLooks := .later }
def SchedCredsCardSaid : Prop := Claim7.holds Tryz.pinned (.plain (OpenSpec.ofChange schedCredsSpec)) schedCredsCard

/-- THE TIED CARD OF 'lockkeeperlaw26.SchedStatuses'. -/
def schedStatusesCard : Claim7 := { stood := { row := schedStatusesRow, standIns := [], harness := (true, "d375464da7bacdc538338f168f284145d8d639aafe767bd697c0a804cd84121a"), looks := false }, kinds := [], alts := [], laidByText := true, laidKinds := [.data, .data, .data, .data, .pinned], laidTests := true, laidLooks := .later }
def SchedStatusesCardSaid : Prop := Claim7.holds Tryz.pinned (.plain (OpenSpec.ofChange schedStatusesSpec)) schedStatusesCard

/-- THE SECOND FORM's CARD OF 'lockkeeperlaw26.SchedConfigs'. -/
def schedConfigsUptoCard : Claim7 := { stood := { row := schedConfigsUptoRow, standIns := [], harness := (true, "d375464da7bacdc538338f168f284145d8d639aafe767bd697c0a804cd84121a"), looks := false }, kinds := [], alts := [], laidByText := true, laidKinds := [.data, .data, .data, .data, .pinned], laidTests := true, laidLooks := .later }
def SchedConfigsUptoCardSaid : Prop := Claim7.holds Tryz.pinned (.plain (OpenSpec.upto schedConfigsSpec)) schedConfigsUptoCard

/-- THE SECOND FORM's CARD OF 'lockkeeperlaw26.SchedGates'. -/
def schedGatesUptoCard : Claim7 := { stood := { row := schedGatesUptoRow, standIns := [], harness := (true, "d375464da7bacdc538338f168f284145d8d639aafe767bd697c0a804cd84121a"), looks := false }, kinds := [], alts := [], laidByText := true, laidKinds := [.data, .data, .data, .data, .pinned], laidTests := true, laidLooks := .later }
def SchedGatesUptoCardSaid : Prop := Claim7.holds Tryz.pinned (.plain (OpenSpec.upto schedGatesSpec)) schedGatesUptoCard

/-- THE SECOND FORM's CARD OF 'lockkeeperlaw26.SchedCreds'. -/
def schedCredsUptoCard : Claim7 := { stood := { row := schedCredsUptoRow, standIns := [], harness := (true, "d375464da7bacdc538338f168f284145d8d639aafe767bd697c0a804cd84121a"), looks := false }, kinds := [], alts := [], laidByText := true, laidKinds := [.data, .data, .data, .data, .pinned], laidTests := true, laidLooks := .later }
def SchedCredsUptoCardSaid : Prop := Claim7.holds Tryz.pinned (.plain (OpenSpec.upto schedCredsSpec)) schedCredsUptoCard

/-- THE SECOND FORM's CARD OF 'lockkeeperlaw26.SchedStatuses'. -/
def schedStatusesUptoCard : Claim7 := { stood := { row := schedStatusesUptoRow, standIns := [], harness := (true, "d375464da7bacdc538338f168f284145d8d639aafe767bd697c0a804cd84121a"), looks := false }, kinds := [], alts := [], laidByText := true, laidKinds := [.data, .data, .data, .data, .pinned], laidTests := true, laidLooks := .later }
def SchedStatusesUptoCardSaid : Prop := Claim7.holds Tryz.pinned (.plain (OpenSpec.upto schedStatusesSpec)) schedStatusesUptoCard
end Rows
end Go.Proofs.YtpognhdhlbgliaaGreatDoor
