/-
  DERIVED. GIVEN WITH THE SEED: THE CARDS: each row of YtobofhiakgohfaaGreatDoorRows.lean that lists a variable, with what it lists TIED to the program's text (the seventh form; the later family's looks); each row that meets fmt, with fmt's text TOLD by the authors' own Lean function (tested against real Go, not proved from fmt's source: count such statements apart). THE CARD IS WHAT COUNTS. Prove the row's statement (the work); the ties are given (YtobofhiakgohfaaGreatDoorTie.lean); close each card by the builder's one call (the guide's Derived/Test/ToyasCard.lean, 'card_holds'). Laid BY PROGRAM, IN A SANDBOX (cutbox-door.mjs). By AI agents, Wed Nov 11 2026. No macro, syntax, notation, axiom, sorry.
-/
import Derived.Test.YtobofhiakgohfaaGreatDoorRows
import GoSem.ClaimSeven
namespace Go.Proofs.YtobofhiakgohfaaGreatDoor
namespace Rows

/-- THE TIED CARD OF 'leadtraillaw08.SchemeReads'. -/
def schemeReadsCard : Claim7 := { stood := { row := schemeReadsRow, standIns := [], harness := (true, "fc442a4cc9c99015e3f43e55c4aae18b3e4bfe7f76d7444da3a90a4f903917e3"), looks := true }, kinds := [], alts := [], laidByText := true, laidKinds := [.data, .data, .data, .data, .sentinel, .sentinel, .pinned], laidTests := true, laidLooks := .later }
def SchemeReadsCardSaid : Prop := Claim7.holds Tryz.pinned (.plain (OpenSpec.ofChange schemeReadsSpec)) schemeReadsCard

/-- THE TIED CARD OF 'leadtraillaw08.SchemeOwns'. -/
def schemeOwnsCard : Claim7 := { stood := { row := schemeOwnsRow, standIns := [], harness := (true, "fc442a4cc9c99015e3f43e55c4aae18b3e4bfe7f76d7444da3a90a4f903917e3"), looks := true }, kinds := [], alts := [], laidByText := true, laidKinds := [.data, .data, .data, .data, .sentinel, .sentinel, .pinned], laidTests := true, laidLooks := .later }
def SchemeOwnsCardSaid : Prop := Claim7.holds Tryz.pinned (.plain (OpenSpec.ofChange schemeOwnsSpec)) schemeOwnsCard

/-- THE TIED CARD OF 'leadtraillaw08.SchemeTidy'. -/
def schemeTidyCard : Claim7 := { stood := { row := schemeTidyRow, standIns := [], harness := (true, "fc442a4cc9c99015e3f43e55c4aae18b3e4bfe7f76d7444da3a90a4f903917e3"), looks := true }, kinds := [], alts := [], laidByText := true, laidKinds := [.data, .data, .data, .data, .sentinel, .sentinel, .pinned], laidTests := true, laidLooks := .later }
def SchemeTidyCardSaid : Prop := Claim7.holds Tryz.pinned (.plain (OpenSpec.ofChange schemeTidySpec)) schemeTidyCard

/-- THE TIED CARD OF 'leadtraillaw08.SchemeNames'. -/
def schemeNamesCard : Claim7 := { stood := { row := schemeNamesRow, standIns := [], harness := (true, "fc442a4cc9c99015e3f43e55c4aae18b3e4bfe7f76d7444da3a90a4f903917e3"), looks := true }, kinds := [], alts := [], laidByText := true, laidKinds := [.data, .data, .data, .data, .sentinel, .sentinel, .pinned], laidTests := true, laidLooks := .later }
def SchemeNamesCardSaid : Prop := Claim7.holds Tryz.pinned (.plain (OpenSpec.ofChange schemeNamesSpec)) schemeNamesCard

/-- THE TIED CARD OF 'leadtraillaw08.SchemeBuilds'. -/
def schemeBuildsCard : Claim7 := { stood := { row := schemeBuildsRow, standIns := [], harness := (true, "fc442a4cc9c99015e3f43e55c4aae18b3e4bfe7f76d7444da3a90a4f903917e3"), looks := true }, kinds := [], alts := [], laidByText := true, laidKinds := [.data, .data, .data, .data, .sentinel, .sentinel, .pinned], laidTests := true, laidLooks := .later }
def SchemeBuildsCardSaid : Prop := Claim7.holds Tryz.pinned (.plain (OpenSpec.ofChange schemeBuildsSpec)) schemeBuildsCard

/-- THE TIED CARD OF 'leadtraillaw08.SchemeValid'. -/
def schemeValidCard : Claim7 := { stood := { row := schemeValidRow, standIns := [], harness := (true, "fc442a4cc9c99015e3f43e55c4aae18b3e4bfe7f76d7444da3a90a4f903917e3"), looks := true }, kinds := [], alts := [], laidByText := true, laidKinds := [.data, .data, .data, .data, .sentinel, .sentinel, .pinned], laidTests := true, laidLooks := .later }
def SchemeValidCardSaid : Prop := Claim7.holds Tryz.pinned (.plain (OpenSpec.ofChange schemeValidSpec)) schemeValidCard

/-- THE SECOND FORM's CARD OF 'leadtraillaw08.SchemeReads'. -/
def schemeReadsUptoCard : Claim7 := { stood := { row := schemeReadsUptoRow, standIns := [], harness := (true, "fc442a4cc9c99015e3f43e55c4aae18b3e4bfe7f76d7444da3a90a4f903917e3"), looks := true }, kinds := [], alts := [], laidByText := true, laidKinds := [.data, .data, .data, .data, .sentinel, .sentinel, .pinned], laidTests := true, laidLooks := .later }
def SchemeReadsUptoCardSaid : Prop := Claim7.holds Tryz.pinned (.plain (OpenSpec.upto schemeReadsSpec)) schemeReadsUptoCard

/-- THE SECOND FORM's CARD OF 'leadtraillaw08.SchemeOwns'. -/
def schemeOwnsUptoCard : Claim7 := { stood := { row := schemeOwnsUptoRow, standIns := [], harness := (true, "fc442a4cc9c99015e3f43e55c4aae18b3e4bfe7f76d7444da3a90a4f903917e3"), looks := true }, kinds := [], alts := [], laidByText := true, laidKinds := [.data, .data, .data, .data, .sentinel, .sentinel, .pinned], laidTests := true, laidLooks := .later }
def SchemeOwnsUptoCardSaid : Prop := Claim7.holds Tryz.pinned (.plain (OpenSpec.upto schemeOwnsSpec)) schemeOwnsUptoCard

/-- THE SECOND FORM's CARD OF 'leadtraillaw08.SchemeTidy'. -/
def schemeTidyUptoCard : Claim7 := { stood := { row := schemeTidyUptoRow, standIns := [], harness := (true, "fc442a4cc9c99015e3f43e55c4aae18b3e4bfe7f76d7444da3a90a4f903917e3"), looks := true }, kinds := [], alts := [], laidByText := true, laidKinds := [.data, .data, .data, .data, .sentinel, .sentinel, .pinned], laidTests := true, laidLooks := .later }
def SchemeTidyUptoCardSaid : Prop := Claim7.holds Tryz.pinned (.plain (OpenSpec.upto schemeTidySpec)) schemeTidyUptoCard

/-- THE SECOND FORM's CARD OF 'leadtraillaw08.SchemeNames'. -/
def schemeNamesUptoCard : Claim7 := { stood := { row := schemeNamesUptoRow, standIns := [], harness := (true, "fc442a4cc9c99015e3f43e55c4aae18b3e4bfe7f76d7444da3a90a4f903917e3"), looks := true }, kinds := [], alts := [], laidByText := true, laidKinds := [.data, .data, .data, .data, .sentinel, .sentinel, .pinned], laidTests := true, laidLooks := .later }
def SchemeNamesUptoCardSaid : Prop := Claim7.holds Tryz.pinned (.plain (OpenSpec.upto schemeNamesSpec)) schemeNamesUptoCard

/-- THE SECOND FORM's CARD OF 'leadtraillaw08.SchemeBuilds'. -/
def schemeBuildsUptoCard : Claim7 := { stood := { row := schemeBuildsUptoRow, standIns := [], harness := (true, "fc442a4cc9c99015e3f43e55c4aae18b3e4bfe7f76d7444da3a90a4f903917e3"), looks := true }, kinds := [], alts := [], laidByText := true, laidKinds := [.data, .data, .data, .data, .sentinel, .sentinel, .pinned], laidTests := true, laidLooks := .later }
def SchemeBuildsUptoCardSaid : Prop := Claim7.holds Tryz.pinned (.plain (OpenSpec.upto schemeBuildsSpec)) schemeBuildsUptoCard

/-- THE SECOND FORM's CARD OF 'leadtraillaw08.SchemeValid'. -/
def schemeValidUptoCard : Claim7 := { stood := { row := schemeValidUptoRow, standIns := [], harness := (true, "fc442a4cc9c99015e3f43e55c4aae18b3e4bfe7f76d7444da3a90a4f903917e3"), looks := true }, kinds := [], alts := [], laidByText := true, laidKinds := [.data, .data, .data, .data, .sentinel, .sentinel, .pinned], laidTests := true, laidLooks := .later }
def SchemeValidUptoCardSaid : Prop := Claim7.holds Tryz.pinned (.plain (OpenSpec.upto schemeValidSpec)) schemeValidUptoCard
end Rows
end Go.Proofs.YtobofhiakgohfaaGreatDoor
