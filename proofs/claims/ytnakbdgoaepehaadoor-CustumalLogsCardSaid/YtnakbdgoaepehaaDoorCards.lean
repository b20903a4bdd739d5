/-
  DERIVED. GIVEN WITH THE SEED: THE CARDS: each row of YtnakbdgoaepehaaDoorRows.lean that lists a variable, with what it lists TIED to the program's text (the seventh form; the later family's looks); each row that meets fmt, with fmt's text TOLD by the authors' own Lean function (tested against real Go, not proved from fmt's source: count such statements apart). THE CARD IS WHAT COUNTS. Prove the row's statement (the work); the ties are given (YtnakbdgoaepehaaDoorTie.lean); close each card by the builder's one call (the guide's Derived/Test/ToyasCard.lean, 'card_holds'). Laid BY PROGRAM, IN A SANDBOX (cutbox-door.mjs). By AI agents, Wed Nov 11 2026. No macro, syntax, notation, axiom, sorry.
-/
import Derived.Test.YtnakbdgoaepehaaDoorRows
import GoSem.ClaimSeven
namespace Go.Proofs.YtnakbdgoaepehaaDoor
namespace Rows

/-- THE TIED CARD OF 'custumaltop.CustumalProves'. -/
def custumalProvesCard : Claim7 := { stood := { row := custumalProvesRow, standIns := [], harness := (true, "6500f4af6ab020251246ec3d5906ec6065d01b9c5ad1c1b7304603533cdc5830"), looks := false }, kinds := [], alts := [], laidByText := true, laidKinds := [.data, .data], laidTests := true, laidLooks := .later }
def CustumalProvesCardSaid : Prop := Claim7.holds Tryd.pinned (.plain (OpenSpec.ofChange custumalProvesSpec)) custumalProvesCard

/-- THE TIED CARD OF 'custumaltop.CustumalMarks'. -/
def custumalMarksCard : Claim7 := { stood := { row := custumalMarksRow, standIns := [], harness := (true, "6500f4af6ab020251246ec3d5906ec6065d01b9c5ad1c1b7304603533cdc5830"), looks := false }, kinds := [], alts := [], laidByText := true, laidKinds := [.data, .data, .data, .data], laidTests := true, laidLooks := .later }
def CustumalMarksCardSaid : Prop := Claim7.holds Tryd.pinned (.plain (OpenSpec.ofChange custumalMarksSpec)) custumalMarksCard

/-- THE TIED CARD OF 'custumaltop.CustumalLogs'. -/
def custumalLogsCard : Claim7 := { stood := { row := custumalLogsRow, standIns := [], harness := (true, "6500f4af6ab020251246ec3d5906ec6065d01b9c5ad1c1b7304603533cdc5830"), looks := false }, kinds := [], alts := [], laidByText := true, laidKinds := [.data, .data], laidTests := true, laidLooks := .later }
def CustumalLogsCardSaid : Prop := Claim7.holds Tryd.pinned (.plain (OpenSpec.ofChange custumalLogsSpec)) custumalLogsCard

/-- THE SECOND FORM's CARD OF 'custumaltop.CustumalProves'. -/
def custumalProvesUptoCard : Claim7 := { stood := { row := custumalProvesUptoRow, standIns := [], harness := (true, "6500f4af6ab020251246ec3d5906ec6065d01b9c5ad1c1b7304603533cdc5830"), looks := false }, kinds := [], alts := [], laidByText := true, laidKinds := [.data, .data], laidTests := true, laidLooks := .later }
def CustumalProvesUptoCardSaid : Prop := Claim7.holds Tryd.pinned (.plain (OpenSpec.upto custumalProvesSpec)) custumalProvesUptoCard

/-- THE SECOND FORM's CARD OF 'custumaltop.CustumalMarks'. -/
def custumalMarksUptoCard : Claim7 := { stood := { row := custumalMarksUptoRow, standIns := [], harness := (true, "6500f4af6ab020251246ec3d5906ec6065d01b9c5ad1c1b7304603533cdc5830"), looks := false }, kinds := [], alts := [], laidByText := true, laidKinds := [.data, .data, .data, .data], laidTests := true, laidLooks := .later }
def CustumalMarksUptoCardSaid : Prop := Claim7.holds Tryd.pinned (.plain (OpenSpec.upto custumalMarksSpec)) custumalMarksUptoCard

/-- THE SECOND FORM's CARD OF 'custumaltop.CustumalLogs'. -/
def custumalLogsUptoCard : Claim7 := { stood := { row := custumalLogsUptoRow, standIns := [], harness := (true, "6500f4af6ab020251246ec3d5906ec6065d01b9c5ad1c1b7304603533cdc5830"), looks := false }, kinds := [], alts := [], laidByText := true, laidKinds := [.data, .data], laidTests := true, laidLooks := .later }
def CustumalLogsUptoCardSaid : Prop := Claim7.holds Tryd.pinned (.plain (OpenSpec.upto custumalLogsSpec)) custumalLogsUptoCard
end Rows
end Go.Proofs.YtnakbdgoaepehaaDoor
