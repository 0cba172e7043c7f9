/-
  DERIVED. GIVEN WITH THE SEED: THE CARDS: each row of YtobofhiakgohfaaDoorRows.lean that lists a variable, with what it lists TIED to the program's text (the seventh form; the later family's looks); each row that meets fmt, with fmt's text TOLD by the authors' own Lean function (tested against real Go, not proved from fmt's source: count such statements apart). THE CARD IS WHAT COUNTS. Prove the row's statement (the work); the ties are given (YtobofhiakgohfaaDoorTie.lean); close each card by the builder's one call (the guide's Derived/Test/ToyasCard.lean, 'card_holds'). Laid BY PROGRAM, IN A SANDBOX (cutbox-door.mjs). By AI agents, Wed Nov 11 2026. No macro, syntax, notation, axiom, sorry.
-/
import Derived.Test.YtobofhiakgohfaaDoorRows
import GoSem.ClaimSeven
namespace Go.Proofs.YtobofhiakgohfaaDoor
namespace Rows

/-- THE TIED CARD OF 'leadtraillaw07.PrinterPrints'. -/
def printerPrintsCard : Claim7 := { stood := { row := printerPrintsRow, standIns := [], harness := (true, "c44cdc55206d063d101794f238ca2ba72bcfa3d7a3b0674d3935d3455498b1a6"), looks := true }, kinds := [], alts := [], laidByText := true, laidKinds := [.data, .data, .data, .data, .pinned], laidTests := true, laidLooks := .later }
def PrinterPrintsCardSaid : Prop := Claim7.holds Tryd.pinned (.plain (OpenSpec.ofChange printerPrintsSpec)) printerPrintsCard

/-- THE TIED CARD OF 'leadtraillaw05.TokenNames'. -/
def tokenNamesCard : Claim7 := { stood := { row := tokenNamesRow, standIns := [], harness := (true, "c44cdc55206d063d101794f238ca2ba72bcfa3d7a3b0674d3935d3455498b1a6"), looks := true }, kinds := [], alts := [], laidByText := true, laidKinds := [.data, .data, .data, .data, .sentinel, .sentinel, .pinned], laidTests := true, laidLooks := .later }
def TokenNamesCardSaid : Prop := Claim7.holds Tryd.pinned (.plain (OpenSpec.ofChange tokenNamesSpec)) tokenNamesCard

/-- THE TIED CARD OF 'leadtraillaw05.TokenAll'. -/
def tokenAllCard : Claim7 := { stood := { row := tokenAllRow, standIns := [], harness := (true, "c44cdc55206d063d101794f238ca2ba72bcfa3d7a3b0674d3935d3455498b1a6"), looks := true }, kinds := [], alts := [], laidByText := true, laidKinds := [.data, .data, .data, .data, .sentinel, .sentinel, .pinned], laidTests := true, laidLooks := .later }
def TokenAllCardSaid : Prop := Claim7.holds Tryd.pinned (.plain (OpenSpec.ofChange tokenAllSpec)) tokenAllCard

/-- THE TIED CARD OF 'leadtraillaw05.TokenTiles'. -/
def tokenTilesCard : Claim7 := { stood := { row := tokenTilesRow, standIns := [], harness := (true, "c44cdc55206d063d101794f238ca2ba72bcfa3d7a3b0674d3935d3455498b1a6"), looks := true }, kinds := [], alts := [], laidByText := true, laidKinds := [.data, .data, .data, .data, .sentinel, .sentinel, .pinned], laidTests := true, laidLooks := .later }
def TokenTilesCardSaid : Prop := Claim7.holds Tryd.pinned (.plain (OpenSpec.ofChange tokenTilesSpec)) tokenTilesCard

/-- THE TIED CARD OF 'leadtraillaw05.TokenWords'. -/
def tokenWordsCard : Claim7 := { stood := { row := tokenWordsRow, standIns := [], harness := (true, "c44cdc55206d063d101794f238ca2ba72bcfa3d7a3b0674d3935d3455498b1a6"), looks := true }, kinds := [], alts := [], laidByText := true, laidKinds := [.data, .data, .data, .data, .sentinel, .sentinel, .pinned], laidTests := true, laidLooks := .later }
def TokenWordsCardSaid : Prop := Claim7.holds Tryd.pinned (.plain (OpenSpec.ofChange tokenWordsSpec)) tokenWordsCard

/-- THE TIED CARD OF 'leadtraillaw05.TokenBack'. -/
def tokenBackCard : Claim7 := { stood := { row := tokenBackRow, standIns := [], harness := (true, "c44cdc55206d063d101794f238ca2ba72bcfa3d7a3b0674d3935d3455498b1a6"), looks := true }, kinds := [], alts := [], laidByText := true, laidKinds := [.data, .data, .data, .data, .sentinel, .sentinel, .pinned], laidTests := true, laidLooks := .later }
def TokenBackCardSaid : Prop := Claim7.holds Tryd.pinned (.plain (OpenSpec.ofChange tokenBackSpec)) tokenBackCard

/-- THE TIED CARD OF 'leadtraillaw05.TokenOwns'. -/
def tokenOwnsCard : Claim7 := { stood := { row := tokenOwnsRow, standIns := [], harness := (true, "c44cdc55206d063d101794f238ca2ba72bcfa3d7a3b0674d3935d3455498b1a6"), looks := true }, kinds := [], alts := [], laidByText := true, laidKinds := [.data, .data, .data, .data, .sentinel, .sentinel, .pinned], laidTests := true, laidLooks := .later }
def TokenOwnsCardSaid : Prop := Claim7.holds Tryd.pinned (.plain (OpenSpec.ofChange tokenOwnsSpec)) tokenOwnsCard

/-- THE TIED CARD OF 'leadtraillaw06.DescrNames'. -/
def descrNamesCard : Claim7 := { stood := { row := descrNamesRow, standIns := [], harness := (true, "c44cdc55206d063d101794f238ca2ba72bcfa3d7a3b0674d3935d3455498b1a6"), looks := true }, kinds := [], alts := [], laidByText := true, laidKinds := [.data, .data, .data, .data, .sentinel, .sentinel, .pinned], laidTests := true, laidLooks := .later }
def DescrNamesCardSaid : Prop := Claim7.holds Tryd.pinned (.plain (OpenSpec.ofChange descrNamesSpec)) descrNamesCard

/-- THE TIED CARD OF 'leadtraillaw06.DescrParses'. -/
def descrParsesCard : Claim7 := { stood := { row := descrParsesRow, standIns := [], harness := (true, "c44cdc55206d063d101794f238ca2ba72bcfa3d7a3b0674d3935d3455498b1a6"), looks := true }, kinds := [], alts := [], laidByText := true, laidKinds := [.data, .data, .data, .data, .sentinel, .sentinel, .pinned], laidTests := true, laidLooks := .later }
def DescrParsesCardSaid : Prop := Claim7.holds Tryd.pinned (.plain (OpenSpec.ofChange descrParsesSpec)) descrParsesCard

/-- THE TIED CARD OF 'leadtraillaw06.DescrOwns'. -/
def descrOwnsCard : Claim7 := { stood := { row := descrOwnsRow, standIns := [], harness := (true, "c44cdc55206d063d101794f238ca2ba72bcfa3d7a3b0674d3935d3455498b1a6"), looks := true }, kinds := [], alts := [], laidByText := true, laidKinds := [.data, .data, .data, .data, .sentinel, .sentinel, .pinned], laidTests := true, laidLooks := .later }
def DescrOwnsCardSaid : Prop := Claim7.holds Tryd.pinned (.plain (OpenSpec.ofChange descrOwnsSpec)) descrOwnsCard

/-- THE TIED CARD OF 'leadtraillaw06.DescrLocal'. -/
def descrLocalCard : Claim7 := { stood := { row := descrLocalRow, standIns := [], harness := (true, "c44cdc55206d063d101794f238ca2ba72bcfa3d7a3b0674d3935d3455498b1a6"), looks := true }, kinds := [], alts := [], laidByText := true, laidKinds := [.data, .data, .data, .data, .sentinel, .sentinel, .pinned], laidTests := true, laidLooks := .later }
def DescrLocalCardSaid : Prop := Claim7.holds Tryd.pinned (.plain (OpenSpec.ofChange descrLocalSpec)) descrLocalCard

/-- THE TIED CARD OF 'leadtraillaw07.PrinterBack'. -/
def printerBackCard : Claim7 := { stood := { row := printerBackRow, standIns := [], harness := (true, "c44cdc55206d063d101794f238ca2ba72bcfa3d7a3b0674d3935d3455498b1a6"), looks := true }, kinds := [], alts := [], laidByText := true, laidKinds := [.data, .data, .data, .data, .sentinel, .sentinel, .pinned], laidTests := true, laidLooks := .later }
def PrinterBackCardSaid : Prop := Claim7.holds Tryd.pinned (.plain (OpenSpec.ofChange printerBackSpec)) printerBackCard

/-- THE TIED CARD OF 'leadtraillaw07.PrinterTidies'. -/
def printerTidiesCard : Claim7 := { stood := { row := printerTidiesRow, standIns := [], harness := (true, "c44cdc55206d063d101794f238ca2ba72bcfa3d7a3b0674d3935d3455498b1a6"), looks := true }, kinds := [], alts := [], laidByText := true, laidKinds := [.data, .data, .data, .data, .sentinel, .sentinel, .pinned], laidTests := true, laidLooks := .later }
def PrinterTidiesCardSaid : Prop := Claim7.holds Tryd.pinned (.plain (OpenSpec.ofChange printerTidiesSpec)) printerTidiesCard

/-- THE TIED CARD OF 'leadtraillaw06.DescrTooBig'. -/
def descrTooBigCard : Claim7 := { stood := { row := descrTooBigRow, standIns := [], harness := (true, "c44cdc55206d063d101794f238ca2ba72bcfa3d7a3b0674d3935d3455498b1a6"), looks := true }, kinds := [], alts := [], laidByText := true, laidKinds := [.data, .data, .data, .data, .sentinel, .sentinel, .pinned], laidTests := true, laidLooks := .later }
def DescrTooBigCardSaid : Prop := Claim7.holds Tryd.pinned (.plain (OpenSpec.ofChange descrTooBigSpec)) descrTooBigCard

/-- THE SECOND FORM's CARD OF 'leadtraillaw07.PrinterPrints'. -/
def printerPrintsUptoCard : Claim7 := { stood := { row := printerPrintsUptoRow, standIns := [], harness := (true, "c44cdc55206d063d101794f238ca2ba72bcfa3d7a3b0674d3935d3455498b1a6"), looks := true }, kinds := [], alts := [], laidByText := true, laidKinds := [.data, .data, .data, .data, .pinned], laidTests := true, laidLooks := .later }
def PrinterPrintsUptoCardSaid : Prop := Claim7.holds Tryd.pinned (.plain (OpenSpec.upto printerPrintsSpec)) printerPrintsUptoCard

/-- THE SECOND FORM's CARD OF 'leadtraillaw05.TokenNames'. -/
def tokenNamesUptoCard : Claim7 := { stood := { row := tokenNamesUptoRow, standIns := [], harness := (true, "c44cdc55206d063d101794f238ca2ba72bcfa3d7a3b0674d3935d3455498b1a6"), looks := true }, kinds := [], alts := [], laidByText := true, laidKinds := [.data, .data, .data, .data, .sentinel, .sentinel, .pinned], laidTests := true, laidLooks := .later }
def TokenNamesUptoCardSaid : Prop := Claim7.holds Tryd.pinned (.plain (OpenSpec.upto tokenNamesSpec)) tokenNamesUptoCard

/-- THE SECOND FORM's CARD OF 'leadtraillaw05.TokenAll'. -/
def tokenAllUptoCard : Claim7 := { stood := { row := tokenAllUptoRow, standIns := [], harness := (true, "c44cdc55206d063d101794f238ca2ba72bcfa3d7a3b0674d3935d3455498b1a6"), looks := true }, kinds := [], alts := [], laidByText := true, laidKinds := [.data, .data, .data, .data, .sentinel, .sentinel, .pinned], laidTests := true, laidLooks := .later }
def TokenAllUptoCardSaid : Prop := Claim7.holds Tryd.pinned (.plain (OpenSpec.upto tokenAllSpec)) tokenAllUptoCard

/-- THE SECOND FORM's CARD OF 'leadtraillaw05.TokenTiles'. -/
def tokenTilesUptoCard : Claim7 := { stood := { row := tokenTilesUptoRow, standIns := [], harness := (true, "c44cdc55206d063d101794f238ca2ba72bcfa3d7a3b0674d3935d3455498b1a6"), looks := true }, kinds := [], alts := [], laidByText := true, laidKinds := [.data, .data, .data, .data, .sentinel, .sentinel, .pinned], laidTests := true, laidLooks := .later }
def TokenTilesUptoCardSaid : Prop := Claim7.holds Tryd.pinned (.plain (OpenSpec.upto tokenTilesSpec)) tokenTilesUptoCard

/-- THE SECOND FORM's CARD OF 'leadtraillaw05.TokenWords'. -/
def tokenWordsUptoCard : Claim7 := { stood := { row := tokenWordsUptoRow, standIns := [], harness := (true, "c44cdc55206d063d101794f238ca2ba72bcfa3d7a3b0674d3935d3455498b1a6"), looks := true }, kinds := [], alts := [], laidByText := true, laidKinds := [.data, .data, .data, .data, .sentinel, .sentinel, .pinned], laidTests := true, laidLooks := .later }
def TokenWordsUptoCardSaid : Prop := Claim7.holds Tryd.pinned (.plain (OpenSpec.upto tokenWordsSpec)) tokenWordsUptoCard

/-- THE SECOND FORM's CARD OF 'leadtraillaw05.TokenBack'. -/
def tokenBackUptoCard : Claim7 := { stood := { row := tokenBackUptoRow, standIns := [], harness := (true, "c44cdc55206d063d101794f238ca2ba72bcfa3d7a3b0674d3935d3455498b1a6"), looks := true }, kinds := [], alts := [], laidByText := true, laidKinds := [.data, .data, .data, .data, .sentinel, .sentinel, .pinned], laidTests := true, laidLooks := .later }
def TokenBackUptoCardSaid : Prop := Claim7.holds Tryd.pinned (.plain (OpenSpec.upto tokenBackSpec)) tokenBackUptoCard

/-- THE SECOND FORM's CARD OF 'leadtraillaw05.TokenOwns'. -/
def tokenOwnsUptoCard : Claim7 := { stood := { row := tokenOwnsUptoRow, standIns := [], harness := (true, "c44cdc55206d063d101794f238ca2ba72bcfa3d7a3b0674d3935d3455498b1a6"), looks := true }, kinds := [], alts := [], laidByText := true, laidKinds := [.data, .data, .data, .data, .sentinel, .sentinel, .pinned], laidTests := true, laidLooks := .later }
def TokenOwnsUptoCardSaid : Prop := Claim7.holds Tryd.pinned (.plain (OpenSpec.upto tokenOwnsSpec)) tokenOwnsUptoCard

/-- THE SECOND FORM's CARD OF 'leadtraillaw06.DescrNames'. -/
def descrNamesUptoCard : Claim7 := { stood := { row := descrNamesUptoRow, standIns := [], harness := (true, "c44cdc55206d063d101794f238ca2ba72bcfa3d7a3b0674d3935d3455498b1a6"), looks := true }, kinds := [], alts := [], laidByText := true, laidKinds := [.data, .data, .data, .data, .sentinel, .sentinel, .pinned], laidTests := true, laidLooks := .later }
def DescrNamesUptoCardSaid : Prop := Claim7.holds Tryd.pinned (.plain (OpenSpec.upto descrNamesSpec)) descrNamesUptoCard

/-- THE SECOND FORM's CARD OF 'leadtraillaw06.DescrParses'. -/
def descrParsesUptoCard : Claim7 := { stood := { row := descrParsesUptoRow, standIns := [], harness := (true, "c44cdc55206d063d101794f238ca2ba72bcfa3d7a3b0674d3935d3455498b1a6"), looks := true }, kinds := [], alts := [], laidByText := true, laidKinds := [.data, .data, .data, .data, .sentinel, .sentinel, .pinned], laidTests := true, laidLooks := .later }
def DescrParsesUptoCardSaid : Prop := Claim7.holds Tryd.pinned (.plain (OpenSpec.upto descrParsesSpec)) descrParsesUptoCard

/-- THE SECOND FORM's CARD OF 'leadtraillaw06.DescrOwns'. -/
def descrOwnsUptoCard : Claim7 := { stood := { row := descrOwnsUptoRow, standIns := [], harness := (true, "c44cdc55206d063d101794f238ca2ba72bcfa3d7a3b0674d3935d3455498b1a6"), looks := true }, kinds := [], alts := [], laidByText := true, laidKinds := [.data, .data, .data, .data, .sentinel, .sentinel, .pinned], laidTests := true, laidLooks := .later }
def DescrOwnsUptoCardSaid : Prop := Claim7.holds Tryd.pinned (.plain (OpenSpec.upto descrOwnsSpec)) descrOwnsUptoCard

/-- THE SECOND FORM's CARD OF 'leadtraillaw06.DescrLocal'. -/
def descrLocalUptoCard : Claim7 := { stood := { row := descrLocalUptoRow, standIns := [], harness := (true, "c44cdc55206d063d101794f238ca2ba72bcfa3d7a3b0674d3935d3455498b1a6"), looks := true }, kinds := [], alts := [], laidByText := true, laidKinds := [.data, .data, .data, .data, .sentinel, .sentinel, .pinned], laidTests := true, laidLooks := .later }
def DescrLocalUptoCardSaid : Prop := Claim7.holds Tryd.pinned (.plain (OpenSpec.upto descrLocalSpec)) descrLocalUptoCard

/-- THE SECOND FORM's CARD OF 'leadtraillaw07.PrinterBack'. -/
def printerBackUptoCard : Claim7 := { stood := { row := printerBackUptoRow, standIns := [], harness := (true, "c44cdc55206d063d101794f238ca2ba72bcfa3d7a3b0674d3935d3455498b1a6"), looks := true }, kinds := [], alts := [], laidByText := true, laidKinds := [.data, .data, .data, .data, .sentinel, .sentinel, .pinned], laidTests := true, laidLooks := .later }
def PrinterBackUptoCardSaid : Prop := Claim7.holds Tryd.pinned (.plain (OpenSpec.upto printerBackSpec)) printerBackUptoCard

/-- THE SECOND FORM's CARD OF 'leadtraillaw07.PrinterTidies'. -/
def printerTidiesUptoCard : Claim7 := { stood := { row := printerTidiesUptoRow, standIns := [], harness := (true, "c44cdc55206d063d101794f238ca2ba72bcfa3d7a3b0674d3935d3455498b1a6"), looks := true }, kinds := [], alts := [], laidByText := true, laidKinds := [.data, .data, .data, .data, .sentinel, .sentinel, .pinned], laidTests := true, laidLooks := .later }
def PrinterTidiesUptoCardSaid : Prop := Claim7.holds Tryd.pinned (.plain (OpenSpec.upto printerTidiesSpec)) printerTidiesUptoCard

/-- THE SECOND FORM's CARD OF 'leadtraillaw06.DescrTooBig'. -/
def descrTooBigUptoCard : Claim7 := { stood := { row := descrTooBigUptoRow, standIns := [], harness := (true, "c44cdc55206d063d101794f238ca2ba72bcfa3d7a3b0674d3935d3455498b1a6"), looks := true }, kinds := [], alts := [], laidByText := true, laidKinds := [.data, .data, .data, .data, .sentinel, .sentinel, .pinned], laidTests := true, laidLooks := .later }
def DescrTooBigUptoCardSaid : Prop := Claim7.holds Tryd.pinned (.plain (OpenSpec.upto descrTooBigSpec)) descrTooBigUptoCard
end Rows
end Go.Proofs.YtobofhiakgohfaaDoor
