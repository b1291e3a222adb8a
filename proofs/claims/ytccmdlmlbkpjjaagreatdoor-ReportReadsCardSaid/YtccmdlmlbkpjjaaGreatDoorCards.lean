/-
  DERIVED. GIVEN WITH THE SEED: THE CARDS: each row of YtccmdlmlbkpjjaaGreatDoorRows.lean that lists a variable, with what it lists TIED to the program's text (the seventh form; the later family's looks); each row that meets fmt, with fmt's text TOLD by the authors' own Lean function (tested against real Go, not proved from fmt's source: count such statements apart). THE CARD IS WHAT COUNTS. Prove the row's statement (the work); the ties are given (YtccmdlmlbkpjjaaGreatDoorTie.lean); close each card by the builder's one call (the guide's Derived/Test/ToyasCard.lean, 'card_holds'). Laid BY PROGRAM, IN A SANDBOX (cutbox-door.mjs). By AI agents, Wed Nov 11 2026. No macro, syntax, notation, axiom, sorry.
-/
import Derived.Test.YtccmdlmlbkpjjaaGreatDoorRows
import GoSem.ClaimSeven
namespace Go.Proofs.YtccmdlmlbkpjjaaGreatDoor
namespace Rows

/-- THE TIED CARD OF 'norialaw24.AuditNil'. -/
def auditNilCard : Claim7 := { stood := { row := auditNilRow, standIns := [], harness := (true, "109500dfc21699d225944b47e617706f615e894753a8beab054c5b6fc943c895"), looks := true }, kinds := [], alts := [], laidByText := true, laidKinds := [.data, .data], laidTests := true, laidLooks := .later }
def AuditNilCardSaid : Prop := Claim7.holds Tryz.pinned (.plain (OpenSpec.ofChange auditNilSpec)) auditNilCard

/-- THE TIED CARD OF 'norialaw26.ReportLists'. -/
def reportListsCard : Claim7 := { stood := { row := reportListsRow, standIns := [], harness := (true, "109500dfc21699d225944b47e617706f615e894753a8beab054c5b6fc943c895"), looks := true }, kinds := [], alts := [], laidByText := true, laidKinds := [.data, .data, .data, .data, .data, .data, .data], laidTests := true, laidLooks := .later }
def ReportListsCardSaid : Prop := Claim7.holds Tryz.pinned (.plain (OpenSpec.ofChange reportListsSpec)) reportListsCard

/-- THE TIED CARD OF 'norialaw26.ReportNil'. -/
def reportNilCard : Claim7 := { stood := { row := reportNilRow, standIns := [], harness := (true, "109500dfc21699d225944b47e617706f615e894753a8beab054c5b6fc943c895"), looks := true }, kinds := [], alts := [], laidByText := true, laidKinds := [.data, .data, .data, .data, .data, .data, .data], laidTests := true, laidLooks := .later }
def ReportNilCardSaid : Prop := Claim7.holds Tryz.pinned (.plain (OpenSpec.ofChange reportNilSpec)) reportNilCard

/-- THE TIED CARD OF 'norialaw26.ReportReads'. -/
def reportReadsCard : Claim7 := { stood := { row := reportReadsRow, standIns := [], harness := (true, "109500dfc21699d225944b47e617706f615e894753a8beab054c5b6fc943c895"), looks := true }, kinds := [], alts := [], laidByText := true, laidKinds := [.data, .data, .data, .data, .sentinel, .sentinel, .data, .data, .data, .data, .pinned], laidTests := true, laidLooks := .later }
def ReportReadsCardSaid : Prop := Claim7.holds Tryz.pinned (.plain (OpenSpec.ofChange reportReadsSpec)) reportReadsCard

/-- THE SECOND FORM's CARD OF 'norialaw24.AuditNil'. -/
def auditNilUptoCard : Claim7 := { stood := { row := auditNilUptoRow, standIns := [], harness := (true, "109500dfc21699d225944b47e617706f615e894753a8beab054c5b6fc943c895"), looks := true }, kinds := [], alts := [], laidByText := true, laidKinds := [.data, .data], laidTests := true, laidLooks := .later }
def AuditNilUptoCardSaid : Prop := Claim7.holds Tryz.pinned (.plain (OpenSpec.upto auditNilSpec)) auditNilUptoCard

/-- THE SECOND FORM's CARD OF 'norialaw26.ReportLists'. -/
def reportListsUptoCard : Claim7 := { stood := { row := reportListsUptoRow, standIns := [], harness := (true, "109500dfc21699d225944b47e617706f615e894753a8beab054c5b6fc943c895"), looks := true }, kinds := [], alts := [], laidByText := true, laidKinds := [.data, .data, .data, .data, .data, .data, .data], laidTests := true, laidLooks := .later }
def ReportListsUptoCardSaid : Prop := Claim7.holds Tryz.pinned (.plain (OpenSpec.upto reportListsSpec)) reportListsUptoCard

/-- THE SECOND FORM's CARD OF 'norialaw26.ReportNil'. -/
def reportNilUptoCard : Claim7 := { stood := { row := reportNilUptoRow, standIns := [], harness := (true, "109500dfc21699d225944b47e617706f615e894753a8beab054c5b6fc943c895"), looks := true }, kinds := [], alts := [], laidByText := true, laidKinds := [.data, .data, .data, .data, .data, .data, .data], laidTests := true, laidLooks := .later }
def ReportNilUptoCardSaid : Prop := Claim7.holds Tryz.pinned (.plain (OpenSpec.upto reportNilSpec)) reportNilUptoCard

/-- THE SECOND FORM's CARD OF 'norialaw26.ReportReads'. -/
def reportReadsUptoCard : Claim7 := { stood := { row := reportReadsUptoRow, standIns := [], harness := (true, "109500dfc21699d225944b47e617706f615e894753a8beab054c5b6fc943c895"), looks := true }, kinds := [], alts := [], laidByText := true, laidKinds := [.data, .data, .data, .data, .sentinel, .sentinel, .data, .data, .data, .data, .pinned], laidTests := true, laidLooks := .later }
def ReportReadsUptoCardSaid : Prop := Claim7.holds Tryz.pinned (.plain (OpenSpec.upto reportReadsSpec)) reportReadsUptoCard
end Rows
end Go.Proofs.YtccmdlmlbkpjjaaGreatDoor
