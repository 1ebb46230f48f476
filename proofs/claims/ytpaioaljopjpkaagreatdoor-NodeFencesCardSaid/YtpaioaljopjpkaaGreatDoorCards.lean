/-
  DERIVED. GIVEN WITH THE SEED: THE CARDS: each row of YtpaioaljopjpkaaGreatDoorRows.lean that lists a variable, with what it lists TIED to the program's text (the seventh form; the later family's looks); each row that meets fmt, with fmt's text TOLD by the authors' own Lean function (tested against real Go, not proved from fmt's source: count such statements apart). THE CARD IS WHAT COUNTS. Prove the row's statement (the work); the ties are given (YtpaioaljopjpkaaGreatDoorTie.lean); close each card by the builder's one call (the guide's Derived/Test/ToyasCard.lean, 'card_holds'). Laid BY PROGRAM, IN A SANDBOX (cutbox-door.mjs). By AI agents, Wed Nov 11 2026. No macro, syntax, notation, axiom, sorry.
-/
import Derived.Test.YtpaioaljopjpkaaGreatDoorRows
import GoSem.ClaimSeven
namespace Go.Proofs.YtpaioaljopjpkaaGreatDoor
namespace Rows

/-- THE TIED CARD OF 'signalmanlaw15.NodeWhole'. -/
def nodeWholeCard : Claim7 := { stood := { row := nodeWholeRow, standIns := [], harness := (true, "398f00aa359c708cb336f25b60291d8fc2be45342bc2d2a67fb233d6055c8aca"), looks := false }, kinds := [], alts := [], laidByText := true, laidKinds := [.data, .pinned], laidTests := true, laidLooks := .later }
def NodeWholeCardSaid : Prop := Claim7.holds Tryz.pinned (.plain (OpenSpec.ofChange nodeWholeSpec)) nodeWholeCard

/-- THE TIED CARD OF 'signalmanlaw15.NodeDoes'. -/
def nodeDoesCard : Claim7 := { stood := { row := nodeDoesRow, standIns := [], harness := (true, "398f00aa359c708cb336f25b60291d8fc2be45342bc2d2a67fb233d6055c8aca"), looks := false }, kinds := [], alts := [], laidByText := true, laidKinds := [.data, .pinned], laidTests := true, laidLooks := .later }
def NodeDoesCardSaid : Prop := Claim7.holds Tryz.pinned (.plain (OpenSpec.ofChange nodeDoesSpec)) nodeDoesCard

/-- THE TIED CARD OF 'signalmanlaw15.NodeFences'. -/
def nodeFencesCard : Claim7 := { stood := { row := nodeFencesRow, standIns := [], harness := (true, "398f00aa359c708cb336f25b60291d8fc2be45342bc2d2a67fb233d6055c8aca"), looks := false }, kinds := [], alts := [], laidByText := true, laidKinds := [.data, .pinned], laidTests := true, laidLooks := .later }
def NodeFencesCardSaid : Prop := Claim7.holds Tryz.pinned (.plain (OpenSpec.ofChange nodeFencesSpec)) nodeFencesCard

/-- THE TIED CARD OF 'signalmanlaw15.NodeCopies'. -/
def nodeCopiesCard : Claim7 := { stood := { row := nodeCopiesRow, standIns := [], harness := (true, "398f00aa359c708cb336f25b60291d8fc2be45342bc2d2a67fb233d6055c8aca"), looks := false }, kinds := [], alts := [], laidByText := true, laidKinds := [.data, .pinned], laidTests := true, laidLooks := .later }
def NodeCopiesCardSaid : Prop := Claim7.holds Tryz.pinned (.plain (OpenSpec.ofChange nodeCopiesSpec)) nodeCopiesCard

/-- THE TIED CARD OF 'signalmanlaw15.NodeReads'. -/
def nodeReadsCard : Claim7 := { stood := { row := nodeReadsRow, standIns := [], harness := (true, "398f00aa359c708cb336f25b60291d8fc2be45342bc2d2a67fb233d6055c8aca"), looks := false }, kinds := [], alts := [], laidByText := true, laidKinds := [.data, .pinned], laidTests := true, laidLooks := .later }
def NodeReadsCardSaid : Prop := Claim7.holds Tryz.pinned (.plain (OpenSpec.ofChange nodeReadsSpec)) nodeReadsCard

/-- THE TIED CARD OF 'signalmanlaw16.ClusterDoes'. -/
def clusterDoesCard : Claim7 := { stood := { row := clusterDoesRow, standIns := [], harness := (true, "398f00aa359c708cb336f25b60291d8fc2be45342bc2d2a67fb233d6055c8aca"), looks := false }, kinds := [], alts := [], laidByText := true, laidKinds := [.data, .pinned], laidTests := true, laidLooks := .later }
def ClusterDoesCardSaid : Prop := Claim7.holds Tryz.pinned (.plain (OpenSpec.ofChange clusterDoesSpec)) clusterDoesCard

/-- THE TIED CARD OF 'signalmanlaw16.ClusterLeads'. -/
def clusterLeadsCard : Claim7 := { stood := { row := clusterLeadsRow, standIns := [], harness := (true, "398f00aa359c708cb336f25b60291d8fc2be45342bc2d2a67fb233d6055c8aca"), looks := false }, kinds := [], alts := [], laidByText := true, laidKinds := [.data, .pinned], laidTests := true, laidLooks := .later }
def ClusterLeadsCardSaid : Prop := Claim7.holds Tryz.pinned (.plain (OpenSpec.ofChange clusterLeadsSpec)) clusterLeadsCard

/-- THE TIED CARD OF 'signalmanlaw16.ClusterKeeps'. -/
def clusterKeepsCard : Claim7 := { stood := { row := clusterKeepsRow, standIns := [], harness := (true, "398f00aa359c708cb336f25b60291d8fc2be45342bc2d2a67fb233d6055c8aca"), looks := false }, kinds := [], alts := [], laidByText := true, laidKinds := [.data, .pinned], laidTests := true, laidLooks := .later }
def ClusterKeepsCardSaid : Prop := Claim7.holds Tryz.pinned (.plain (OpenSpec.ofChange clusterKeepsSpec)) clusterKeepsCard

/-- THE TIED CARD OF 'signalmanlaw16.ClusterServes'. -/
def clusterServesCard : Claim7 := { stood := { row := clusterServesRow, standIns := [], harness := (true, "398f00aa359c708cb336f25b60291d8fc2be45342bc2d2a67fb233d6055c8aca"), looks := false }, kinds := [], alts := [], laidByText := true, laidKinds := [.data, .pinned], laidTests := true, laidLooks := .later }
def ClusterServesCardSaid : Prop := Claim7.holds Tryz.pinned (.plain (OpenSpec.ofChange clusterServesSpec)) clusterServesCard

/-- THE TIED CARD OF 'signalmanlaw16.ClusterCopies'. -/
def clusterCopiesCard : Claim7 := { stood := { row := clusterCopiesRow, standIns := [], harness := (true, "398f00aa359c708cb336f25b60291d8fc2be45342bc2d2a67fb233d6055c8aca"), looks := false }, kinds := [], alts := [], laidByText := true, laidKinds := [.data, .pinned], laidTests := true, laidLooks := .later }
def ClusterCopiesCardSaid : Prop := Claim7.holds Tryz.pinned (.plain (OpenSpec.ofChange clusterCopiesSpec)) clusterCopiesCard

/-- THE SECOND FORM's CARD OF 'signalmanlaw15.NodeWhole'. -/
def nodeWholeUptoCard : Claim7 := { stood := { row := nodeWholeUptoRow, standIns := [], harness := (true, "398f00aa359c708cb336f25b60291d8fc2be45342bc2d2a67fb233d6055c8aca"), looks := false }, kinds := [], alts := [], laidByText := true, laidKinds := [.data, .pinned], laidTests := true, laidLooks := .later }
def NodeWholeUptoCardSaid : Prop := Claim7.holds Tryz.pinned (.plain (OpenSpec.upto nodeWholeSpec)) nodeWholeUptoCard

/-- THE SECOND FORM's CARD OF 'signalmanlaw15.NodeDoes'. -/
def nodeDoesUptoCard : Claim7 := { stood := { row := nodeDoesUptoRow, standIns := [], harness := (true, "398f00aa359c708cb336f25b60291d8fc2be45342bc2d2a67fb233d6055c8aca"), looks := false }, kinds := [], alts := [], laidByText := true, laidKinds := [.data, .pinned], laidTests := true, laidLooks := .later }
def NodeDoesUptoCardSaid : Prop := Claim7.holds Tryz.pinned (.plain (OpenSpec.upto nodeDoesSpec)) nodeDoesUptoCard

/-- THE SECOND FORM's CARD OF 'signalmanlaw15.NodeFences'. -/
def nodeFencesUptoCard : Claim7 := { stood := { row := nodeFencesUptoRow, standIns := [], harness := (true, "398f00aa359c708cb336f25b60291d8fc2be45342bc2d2a67fb233d6055c8aca"), looks := false }, kinds := [], alts := [], laidByText := true, laidKinds := [.data, .pinned], laidTests := true, laidLooks := .later }
def NodeFencesUptoCardSaid : Prop := Claim7.holds Tryz.pinned (.plain (OpenSpec.upto nodeFencesSpec)) nodeFencesUptoCard

/-- THE SECOND FORM's CARD OF 'signalmanlaw15.NodeCopies'. -/
def nodeCopiesUptoCard : Claim7 := { stood := { row := nodeCopiesUptoRow, standIns := [], harness := (true, "398f00aa359c708cb336f25b60291d8fc2be45342bc2d2a67fb233d6055c8aca"), looks := false }, kinds := [], alts := [], laidByText := true, laidKinds := [.data, .pinned], laidTests := true, laidLooks := .later }
def NodeCopiesUptoCardSaid : Prop := Claim7.holds Tryz.pinned (.plain (OpenSpec.upto nodeCopiesSpec)) nodeCopiesUptoCard

/-- THE SECOND FORM's CARD OF 'signalmanlaw15.NodeReads'. -/
def nodeReadsUptoCard : Claim7 := { stood := { row := nodeReadsUptoRow, standIns := [], harness := (true, "398f00aa359c708cb336f25b60291d8fc2be45342bc2d2a67fb233d6055c8aca"), looks := false }, kinds := [], alts := [], laidByText := true, laidKinds := [.data, .pinned], laidTests := true, laidLooks := .later }
def NodeReadsUptoCardSaid : Prop := Claim7.holds Tryz.pinned (.plain (OpenSpec.upto nodeReadsSpec)) nodeReadsUptoCard

/-- THE SECOND FORM's CARD OF 'signalmanlaw16.ClusterDoes'. -/
def clusterDoesUptoCard : Claim7 := { stood := { row := clusterDoesUptoRow, standIns := [], harness := (true, "398f00aa359c708cb336f25b60291d8fc2be45342bc2d2a67fb233d6055c8aca"), looks := false }, kinds := [], alts := [], laidByText := true, laidKinds := [.data, .pinned], laidTests := true, laidLooks := .later }
def ClusterDoesUptoCardSaid : Prop := Claim7.holds Tryz.pinned (.plain (OpenSpec.upto clusterDoesSpec)) clusterDoesUptoCard

/-- THE SECOND FORM's CARD OF 'signalmanlaw16.ClusterLeads'. -/
def clusterLeadsUptoCard : Claim7 := { stood := { row := clusterLeadsUptoRow, standIns := [], harness := (true, "398f00aa359c708cb336f25b60291d8fc2be45342bc2d2a67fb233d6055c8aca"), looks := false }, kinds := [], alts := [], laidByText := true, laidKinds := [.data, .pinned], laidTests := true, laidLooks := .later }
def ClusterLeadsUptoCardSaid : Prop := Claim7.holds Tryz.pinned (.plain (OpenSpec.upto clusterLeadsSpec)) clusterLeadsUptoCard

/-- THE SECOND FORM's CARD OF 'signalmanlaw16.ClusterKeeps'. -/
def clusterKeepsUptoCard : Claim7 := { stood := { row := clusterKeepsUptoRow, standIns := [], harness := (true, "398f00aa359c708cb336f25b60291d8fc2be45342bc2d2a67fb233d6055c8aca"), looks := false }, kinds := [], alts := [], laidByText := true, laidKinds := [.data, .pinned], laidTests := true, laidLooks := .later }
def ClusterKeepsUptoCardSaid : Prop := Claim7.holds Tryz.pinned (.plain (OpenSpec.upto clusterKeepsSpec)) clusterKeepsUptoCard

/-- THE SECOND FORM's CARD OF 'signalmanlaw16.ClusterServes'. -/
def clusterServesUptoCard : Claim7 := { stood := { row := clusterServesUptoRow, standIns := [], harness := (true, "398f00aa359c708cb336f25b60291d8fc2be45342bc2d2a67fb233d6055c8aca"), looks := false }, kinds := [], alts := [], laidByText := true, laidKinds := [.data, .pinned], laidTests := true, laidLooks := .later }
def ClusterServesUptoCardSaid : Prop := Claim7.holds Tryz.pinned (.plain (OpenSpec.upto clusterServesSpec)) clusterServesUptoCard

/-- THE SECOND FORM's CARD OF 'signalmanlaw16.ClusterCopies'. -/
def clusterCopiesUptoCard : Claim7 := { stood := { row := clusterCopiesUptoRow, standIns := [], harness := (true, "398f00aa359c708cb336f25b60291d8fc2be45342bc2d2a67fb233d6055c8aca"), looks := false }, kinds := [], alts := [], laidByText := true, laidKinds := [.data, .pinned], laidTests := true, laidLooks := .later }
def ClusterCopiesUptoCardSaid : Prop := Claim7.holds Tryz.pinned (.plain (OpenSpec.upto clusterCopiesSpec)) clusterCopiesUptoCard
end Rows
end Go.Proofs.YtpaioaljopjpkaaGreatDoor
