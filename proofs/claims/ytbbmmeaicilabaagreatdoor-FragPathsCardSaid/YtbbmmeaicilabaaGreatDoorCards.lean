/-
  DERIVED. GIVEN WITH THE SEED: THE CARDS: each row of YtbbmmeaicilabaaGreatDoorRows.lean that lists a variable, with what it lists TIED to the program's text (the seventh form; the later family's looks); each row that meets fmt, with fmt's text TOLD by the authors' own Lean function (tested against real Go, not proved from fmt's source: count such statements apart). THE CARD IS WHAT COUNTS. Prove the row's statement (the work); the ties are given (YtbbmmeaicilabaaGreatDoorTie.lean); close each card by the builder's one call (the guide's Derived/Test/ToyasCard.lean, 'card_holds'). Laid BY PROGRAM, IN A SANDBOX (cutbox-door.mjs). By AI agents, Wed Nov 11 2026. No macro, syntax, notation, axiom, sorry.
-/
import Derived.Test.YtbbmmeaicilabaaGreatDoorRows
import GoSem.ClaimSeven
namespace Go.Proofs.YtbbmmeaicilabaaGreatDoor
namespace Rows

/-- THE TIED CARD OF 'gimletlaw13.FragParts'. -/
def fragPartsCard : Claim7 := { stood := { row := fragPartsRow, standIns := [], harness := (true, "538b8e18e66d1e93f4ebd9d92b1d3d7b3173afc0699a5cb253badd2dd3a82f30"), looks := true }, kinds := [], alts := [], laidByText := true, laidKinds := [.data, .widerDeep, .listed, .data, .pinned], laidTests := true, laidLooks := .later }
def FragPartsCardSaid : Prop := Claim7.holds Tryz.pinned (.plain (OpenSpec.ofChange fragPartsSpec)) fragPartsCard

/-- THE TIED CARD OF 'gimletlaw13.FragPaths'. -/
def fragPathsCard : Claim7 := { stood := { row := fragPathsRow, standIns := [], harness := (true, "538b8e18e66d1e93f4ebd9d92b1d3d7b3173afc0699a5cb253badd2dd3a82f30"), looks := true }, kinds := [], alts := [], laidByText := true, laidKinds := [.data, .widerDeep, .listed, .data, .pinned], laidTests := true, laidLooks := .later }
def FragPathsCardSaid : Prop := Claim7.holds Tryz.pinned (.plain (OpenSpec.ofChange fragPathsSpec)) fragPathsCard

/-- THE TIED CARD OF 'gimletlaw13.FragQueries'. -/
def fragQueriesCard : Claim7 := { stood := { row := fragQueriesRow, standIns := [], harness := (true, "538b8e18e66d1e93f4ebd9d92b1d3d7b3173afc0699a5cb253badd2dd3a82f30"), looks := true }, kinds := [], alts := [], laidByText := true, laidKinds := [.data, .data, .data, .data, .widerDeep, .listed, .data, .data, .pinned], laidTests := true, laidLooks := .later }
def FragQueriesCardSaid : Prop := Claim7.holds Tryz.pinned (.plain (OpenSpec.ofChange fragQueriesSpec)) fragQueriesCard

/-- THE SECOND FORM's CARD OF 'gimletlaw13.FragParts'. -/
def fragPartsUptoCard : Claim7 := { stood := { row := fragPartsUptoRow, standIns := [], harness := (true, "538b8e18e66d1e93f4ebd9d92b1d3d7b3173afc0699a5cb253badd2dd3a82f30"), looks := true }, kinds := [], alts := [], laidByText := true, laidKinds := [.data, .widerDeep, .listed, .data, .pinned], laidTests := true, laidLooks := .later }
def FragPartsUptoCardSaid : Prop := Claim7.holds Tryz.pinned (.plain (OpenSpec.upto fragPartsSpec)) fragPartsUptoCard

/-- THE SECOND FORM's CARD OF 'gimletlaw13.FragPaths'. -/
def fragPathsUptoCard : Claim7 := { stood := { row := fragPathsUptoRow, standIns := [], harness := (true, "538b8e18e66d1e93f4ebd9d92b1d3d7b3173afc0699a5cb253badd2dd3a82f30"), looks := true }, kinds := [], alts := [], laidByText := true, laidKinds := [.data, .widerDeep, .listed, .data, .pinned], laidTests := true, laidLooks := .later }
def FragPathsUptoCardSaid : Prop := Claim7.holds Tryz.pinned (.plain (OpenSpec.upto fragPathsSpec)) fragPathsUptoCard

/-- THE SECOND FORM's CARD OF 'gimletlaw13.FragQueries'. -/
def fragQueriesUptoCard : Claim7 := { stood := { row := fragQueriesUptoRow, standIns := [], harness := (true, "538b8e18e66d1e93f4ebd9d92b1d3d7b3173afc0699a5cb253badd2dd3a82f30"), looks := true }, kinds := [], alts := [], laidByText := true, laidKinds := [.data, .data, .data, .data, .widerDeep, .listed, .data, .data, .pinned], laidTests := true, laidLooks := .later }
def FragQueriesUptoCardSaid : Prop := Claim7.holds Tryz.pinned (.plain (OpenSpec.upto fragQueriesSpec)) fragQueriesUptoCard
end Rows
end Go.Proofs.YtbbmmeaicilabaaGreatDoor
