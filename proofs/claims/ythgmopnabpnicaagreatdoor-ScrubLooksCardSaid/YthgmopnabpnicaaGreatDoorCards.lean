/-
  DERIVED. GIVEN WITH THE SEED: THE CARDS: each row of YthgmopnabpnicaaGreatDoorRows.lean that lists a variable, with what it lists TIED to the program's text (the seventh form; the later family's looks); each row that meets fmt, with fmt's text TOLD by the authors' own Lean function (tested against real Go, not proved from fmt's source: count such statements apart). THE CARD IS WHAT COUNTS. Prove the row's statement (the work); the ties are given (YthgmopnabpnicaaGreatDoorTie.lean); close each card by the builder's one call (the guide's Derived/Test/ToyasCard.lean, 'card_holds'). Laid BY PROGRAM, IN A SANDBOX (cutbox-door.mjs). By AI agents, Wed Nov 11 2026. No macro, syntax, notation, axiom, sorry.
-/
import Derived.Test.YthgmopnabpnicaaGreatDoorRows
import GoSem.ClaimSeven
namespace Go.Proofs.YthgmopnabpnicaaGreatDoor
namespace Rows

/-- THE TIED CARD OF 'hibernaclelaw52.ScrubLooks'. -/
def scrubLooksCard : Claim7 := { stood := { row := scrubLooksRow, standIns := [], harness := (true, "238cafdae1985a0e8ba6e01538e5d9e70a102cd564094ad898a85a8af0a1d928"), looks := true }, kinds := [], alts := [], laidByText := true, laidKinds := [.data, .data, .data, .sentinel, .sentinel], laidTests := true, laidLooks := .later }
def ScrubLooksCardSaid : Prop := Claim7.holds Tryz.pinned (.plain (OpenSpec.ofChange scrubLooksSpec)) scrubLooksCard

/-- THE TIED CARD OF 'hibernaclelaw52.ScrubFinds'. -/
def scrubFindsCard : Claim7 := { stood := { row := scrubFindsRow, standIns := [], harness := (true, "238cafdae1985a0e8ba6e01538e5d9e70a102cd564094ad898a85a8af0a1d928"), looks := true }, kinds := [], alts := [], laidByText := true, laidKinds := [.data, .data, .data, .sentinel, .sentinel], laidTests := true, laidLooks := .later }
def ScrubFindsCardSaid : Prop := Claim7.holds Tryz.pinned (.plain (OpenSpec.ofChange scrubFindsSpec)) scrubFindsCard

/-- THE TIED CARD OF 'hibernaclelaw52.ScrubMends'. -/
def scrubMendsCard : Claim7 := { stood := { row := scrubMendsRow, standIns := [], harness := (true, "238cafdae1985a0e8ba6e01538e5d9e70a102cd564094ad898a85a8af0a1d928"), looks := true }, kinds := [], alts := [], laidByText := true, laidKinds := [.data, .data, .data, .sentinel, .sentinel], laidTests := true, laidLooks := .later }
def ScrubMendsCardSaid : Prop := Claim7.holds Tryz.pinned (.plain (OpenSpec.ofChange scrubMendsSpec)) scrubMendsCard

/-- THE TIED CARD OF 'hibernaclelaw52.ScrubHeals'. -/
def scrubHealsCard : Claim7 := { stood := { row := scrubHealsRow, standIns := [], harness := (true, "238cafdae1985a0e8ba6e01538e5d9e70a102cd564094ad898a85a8af0a1d928"), looks := true }, kinds := [], alts := [], laidByText := true, laidKinds := [.data, .data, .data, .sentinel, .sentinel], laidTests := true, laidLooks := .later }
def ScrubHealsCardSaid : Prop := Claim7.holds Tryz.pinned (.plain (OpenSpec.ofChange scrubHealsSpec)) scrubHealsCard

/-- THE TIED CARD OF 'hibernaclelaw52.ScrubStill'. -/
def scrubStillCard : Claim7 := { stood := { row := scrubStillRow, standIns := [], harness := (true, "238cafdae1985a0e8ba6e01538e5d9e70a102cd564094ad898a85a8af0a1d928"), looks := true }, kinds := [], alts := [], laidByText := true, laidKinds := [.data, .data, .data, .sentinel, .sentinel], laidTests := true, laidLooks := .later }
def ScrubStillCardSaid : Prop := Claim7.holds Tryz.pinned (.plain (OpenSpec.ofChange scrubStillSpec)) scrubStillCard

/-- THE TIED CARD OF 'hibernaclelaw52.ScrubTwice'. -/
def scrubTwiceCard : Claim7 := { stood := { row := scrubTwiceRow, standIns := [], harness := (true, "238cafdae1985a0e8ba6e01538e5d9e70a102cd564094ad898a85a8af0a1d928"), looks := true }, kinds := [], alts := [], laidByText := true, laidKinds := [.data, .data, .data, .sentinel, .sentinel], laidTests := true, laidLooks := .later }
def ScrubTwiceCardSaid : Prop := Claim7.holds Tryz.pinned (.plain (OpenSpec.ofChange scrubTwiceSpec)) scrubTwiceCard

/-- THE SECOND FORM's CARD OF 'hibernaclelaw52.ScrubLooks'. -/
def scrubLooksUptoCard : Claim7 := { stood := { row := scrubLooksUptoRow, standIns := [], harness := (true, "238cafdae1985a0e8ba6e01538e5d9e70a102cd564094ad898a85a8af0a1d928"), looks := true }, kinds := [], alts := [], laidByText := true, laidKinds := [.data, .data, .data, .sentinel, .sentinel], laidTests := true, laidLooks := .later }
def ScrubLooksUptoCardSaid : Prop := Claim7.holds Tryz.pinned (.plain (OpenSpec.upto scrubLooksSpec)) scrubLooksUptoCard

/-- THE SECOND FORM's CARD OF 'hibernaclelaw52.ScrubFinds'. -/
def scrubFindsUptoCard : Claim7 := { stood := { row := scrubFindsUptoRow, standIns := [], harness := (true, "238cafdae1985a0e8ba6e01538e5d9e70a102cd564094ad898a85a8af0a1d928"), looks := true }, kinds := [], alts := [], laidByText := true, laidKinds := [.data, .data, .data, .sentinel, .sentinel], laidTests := true, laidLooks := .later }
def ScrubFindsUptoCardSaid : Prop := Claim7.holds Tryz.pinned (.plain (OpenSpec.upto scrubFindsSpec)) scrubFindsUptoCard

/-- THE SECOND FORM's CARD OF 'hibernaclelaw52.ScrubMends'. -/
def scrubMendsUptoCard : Claim7 := { stood := { row := scrubMendsUptoRow, standIns := [], harness := (true, "238cafdae1985a0e8ba6e01538e5d9e70a102cd564094ad898a85a8af0a1d928"), looks := true }, kinds := [], alts := [], laidByText := true, laidKinds := [.data, .data, .data, .sentinel, .sentinel], laidTests := true, laidLooks := .later }
def ScrubMendsUptoCardSaid : Prop := Claim7.holds Tryz.pinned (.plain (OpenSpec.upto scrubMendsSpec)) scrubMendsUptoCard

/-- THE SECOND FORM's CARD OF 'hibernaclelaw52.ScrubHeals'. -/
def scrubHealsUptoCard : Claim7 := { stood := { row := scrubHealsUptoRow, standIns := [], harness := (true, "238cafdae1985a0e8ba6e01538e5d9e70a102cd564094ad898a85a8af0a1d928"), looks := true }, kinds := [], alts := [], laidByText := true, laidKinds := [.data, .data, .data, .sentinel, .sentinel], laidTests := true, laidLooks := .later }
def ScrubHealsUptoCardSaid : Prop := Claim7.holds Tryz.pinned (.plain (OpenSpec.upto scrubHealsSpec)) scrubHealsUptoCard

/-- THE SECOND FORM's CARD OF 'hibernaclelaw52.ScrubStill'. -/
def scrubStillUptoCard : Claim7 := { stood := { row := scrubStillUptoRow, standIns := [], harness := (true, "238cafdae1985a0e8ba6e01538e5d9e70a102cd564094ad898a85a8af0a1d928"), looks := true }, kinds := [], alts := [], laidByText := true, laidKinds := [.data, .data, .data, .sentinel, .sentinel], laidTests := true, laidLooks := .later }
def ScrubStillUptoCardSaid : Prop := Claim7.holds Tryz.pinned (.plain (OpenSpec.upto scrubStillSpec)) scrubStillUptoCard

/-- THE SECOND FORM's CARD OF 'hibernaclelaw52.ScrubTwice'. -/
def scrubTwiceUptoCard : Claim7 := { stood := { row := scrubTwiceUptoRow, standIns := [], harness := (true, "238cafdae1985a0e8ba6e01538e5d9e70a102cd564094ad898a85a8af0a1d928"), looks := true }, kinds := [], alts := [], laidByText := true, laidKinds := [.data, .data, .data, .sentinel, .sentinel], laidTests := true, laidLooks := .later }
def ScrubTwiceUptoCardSaid : Prop := Claim7.holds Tryz.pinned (.plain (OpenSpec.upto scrubTwiceSpec)) scrubTwiceUptoCard
end Rows
end Go.Proofs.YthgmopnabpnicaaGreatDoor
