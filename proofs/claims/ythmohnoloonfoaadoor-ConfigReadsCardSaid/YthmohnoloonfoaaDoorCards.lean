/-
  DERIVED. GIVEN WITH THE SEED: THE CARDS: each row of YthmohnoloonfoaaDoorRows.lean that lists a variable, with what it lists TIED to the program's text (the seventh form; the later family's looks); each row that meets fmt, with fmt's text TOLD by the authors' own Lean function (tested against real Go, not proved from fmt's source: count such statements apart). THE CARD IS WHAT COUNTS. Prove the row's statement (the work); the ties are given (YthmohnoloonfoaaDoorTie.lean); close each card by the builder's one call (the guide's Derived/Test/ToyasCard.lean, 'card_holds'). Laid BY PROGRAM, IN A SANDBOX (cutbox-door.mjs). By AI agents, Wed Nov 11 2026. No macro, syntax, notation, axiom, sorry.
-/
import Derived.Test.YthmohnoloonfoaaDoorRows
import GoSem.ClaimSeven
namespace Go.Proofs.YthmohnoloonfoaaDoor
namespace Rows

/-- THE TIED CARD OF 'reticulelaw04.ConfigChecks'. -/
def configChecksCard : Claim7 := { stood := { row := configChecksRow, standIns := [], harness := (true, "bf34121656531617372f1bedf2951265b78c777a9582a846f8e6edc406a3351f"), looks := true }, kinds := [], alts := [], laidByText := true, laidKinds := [.data, .data, .data, .data, .sentinel, .sentinel, .pinned], laidTests := true, laidLooks := .later }
def ConfigChecksCardSaid : Prop := Claim7.holds Tryd.pinned (.plain (OpenSpec.ofChange configChecksSpec)) configChecksCard

/-- THE TIED CARD OF 'reticulelaw04.ConfigReads'. -/
def configReadsCard : Claim7 := { stood := { row := configReadsRow, standIns := [], harness := (true, "bf34121656531617372f1bedf2951265b78c777a9582a846f8e6edc406a3351f"), looks := true }, kinds := [], alts := [], laidByText := true, laidKinds := [.data, .data, .data, .data, .sentinel, .sentinel, .pinned], laidTests := true, laidLooks := .later }
def ConfigReadsCardSaid : Prop := Claim7.holds Tryd.pinned (.plain (OpenSpec.ofChange configReadsSpec)) configReadsCard

/-- THE TIED CARD OF 'reticulelaw04.ConfigBack'. -/
def configBackCard : Claim7 := { stood := { row := configBackRow, standIns := [], harness := (true, "bf34121656531617372f1bedf2951265b78c777a9582a846f8e6edc406a3351f"), looks := true }, kinds := [], alts := [], laidByText := true, laidKinds := [.data, .data, .data, .data, .sentinel, .sentinel, .pinned], laidTests := true, laidLooks := .later }
def ConfigBackCardSaid : Prop := Claim7.holds Tryd.pinned (.plain (OpenSpec.ofChange configBackSpec)) configBackCard

/-- THE TIED CARD OF 'reticulelaw04.ConfigLanes'. -/
def configLanesCard : Claim7 := { stood := { row := configLanesRow, standIns := [], harness := (true, "bf34121656531617372f1bedf2951265b78c777a9582a846f8e6edc406a3351f"), looks := true }, kinds := [], alts := [], laidByText := true, laidKinds := [.data, .data, .data, .data, .sentinel, .sentinel, .pinned], laidTests := true, laidLooks := .later }
def ConfigLanesCardSaid : Prop := Claim7.holds Tryd.pinned (.plain (OpenSpec.ofChange configLanesSpec)) configLanesCard

/-- THE TIED CARD OF 'reticulelaw04.ConfigEdges'. -/
def configEdgesCard : Claim7 := { stood := { row := configEdgesRow, standIns := [], harness := (true, "bf34121656531617372f1bedf2951265b78c777a9582a846f8e6edc406a3351f"), looks := true }, kinds := [], alts := [], laidByText := true, laidKinds := [.data, .data, .data, .data, .sentinel, .sentinel, .pinned], laidTests := true, laidLooks := .later }
def ConfigEdgesCardSaid : Prop := Claim7.holds Tryd.pinned (.plain (OpenSpec.ofChange configEdgesSpec)) configEdgesCard

/-- THE SECOND FORM's CARD OF 'reticulelaw04.ConfigChecks'. -/
def configChecksUptoCard : Claim7 := { stood := { row := configChecksUptoRow, standIns := [], harness := (true, "bf34121656531617372f1bedf2951265b78c777a9582a846f8e6edc406a3351f"), looks := true }, kinds := [], alts := [], laidByText := true, laidKinds := [.data, .data, .data, .data, .sentinel, .sentinel, .pinned], laidTests := true, laidLooks := .later }
def ConfigChecksUptoCardSaid : Prop := Claim7.holds Tryd.pinned (.plain (OpenSpec.upto configChecksSpec)) configChecksUptoCard

/-- THE SECOND FORM's CARD OF 'reticulelaw04.ConfigReads'. -/
def configReadsUptoCard : Claim7 := { stood := { row := configReadsUptoRow, standIns := [], harness := (true, "bf34121656531617372f1bedf2951265b78c777a9582a846f8e6edc406a3351f"), looks := true }, kinds := [], alts := [], laidByText := true, laidKinds := [.data, .data, .data, .data, .sentinel, .sentinel, .pinned], laidTests := true, laidLooks := .later }
def ConfigReadsUptoCardSaid : Prop := Claim7.holds Tryd.pinned (.plain (OpenSpec.upto configReadsSpec)) configReadsUptoCard

/-- THE SECOND FORM's CARD OF 'reticulelaw04.ConfigBack'. -/
def configBackUptoCard : Claim7 := { stood := { row := configBackUptoRow, standIns := [], harness := (true, "bf34121656531617372f1bedf2951265b78c777a9582a846f8e6edc406a3351f"), looks := true }, kinds := [], alts := [], laidByText := true, laidKinds := [.data, .data, .data, .data, .sentinel, .sentinel, .pinned], laidTests := true, laidLooks := .later }
def ConfigBackUptoCardSaid : Prop := Claim7.holds Tryd.pinned (.plain (OpenSpec.upto configBackSpec)) configBackUptoCard

/-- THE SECOND FORM's CARD OF 'reticulelaw04.ConfigLanes'. -/
def configLanesUptoCard : Claim7 := { stood := { row := configLanesUptoRow, standIns := [], harness := (true, "bf34121656531617372f1bedf2951265b78c777a9582a846f8e6edc406a3351f"), looks := true }, kinds := [], alts := [], laidByText := true, laidKinds := [.data, .data, .data, .data, .sentinel, .sentinel, .pinned], laidTests := true, laidLooks := .later }
def ConfigLanesUptoCardSaid : Prop := Claim7.holds Tryd.pinned (.plain (OpenSpec.upto configLanesSpec)) configLanesUptoCard

/-- THE SECOND FORM's CARD OF 'reticulelaw04.ConfigEdges'. -/
def configEdgesUptoCard : Claim7 := { stood := { row := configEdgesUptoRow, standIns := [], harness := (true, "bf34121656531617372f1bedf2951265b78c777a9582a846f8e6edc406a3351f"), looks := true }, kinds := [], alts := [], laidByText := true, laidKinds := [.data, .data, .data, .data, .sentinel, .sentinel, .pinned], laidTests := true, laidLooks := .later }
def ConfigEdgesUptoCardSaid : Prop := Claim7.holds Tryd.pinned (.plain (OpenSpec.upto configEdgesSpec)) configEdgesUptoCard
end Rows
end Go.Proofs.YthmohnoloonfoaaDoor
