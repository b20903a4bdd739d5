/-
  DERIVED. GIVEN WITH THE SEED: THE CARDS: each row of YthmchbdhikakhaaDoorRows.lean that lists a variable, with what it lists TIED to the program's text (the seventh form; the later family's looks); each row that meets fmt, with fmt's text TOLD by the authors' own Lean function (tested against real Go, not proved from fmt's source: count such statements apart). THE CARD IS WHAT COUNTS. Prove the row's statement (the work); the ties are given (YthmchbdhikakhaaDoorTie.lean); close each card by the builder's one call (the guide's Derived/Test/ToyasCard.lean, 'card_holds'). Laid BY PROGRAM, IN A SANDBOX (cutbox-door.mjs). By AI agents, Wed Nov 11 2026. No macro, syntax, notation, axiom, sorry.
-/
import Derived.Test.YthmchbdhikakhaaDoorRows
import GoSem.ClaimSeven
namespace Go.Proofs.YthmchbdhikakhaaDoor
namespace Rows

/-- THE TIED CARD OF 'custumaltop.CustumalApart'. -/
def custumalApartCard : Claim7 := { stood := { row := custumalApartRow, standIns := [], harness := (true, "a5a0695107a443884184478231a7cee927a770cf8e2500b75475299a26dbd66b"), looks := false }, kinds := [], alts := [], laidByText := true, laidKinds := [.data, .data], laidTests := true, laidLooks := .later }
def CustumalApartCardSaid : Prop := Claim7.holds Tryd.pinned (.plain (OpenSpec.ofChange custumalApartSpec)) custumalApartCard

/-- THE SECOND FORM's CARD OF 'custumaltop.CustumalApart'. -/
def custumalApartUptoCard : Claim7 := { stood := { row := custumalApartUptoRow, standIns := [], harness := (true, "a5a0695107a443884184478231a7cee927a770cf8e2500b75475299a26dbd66b"), looks := false }, kinds := [], alts := [], laidByText := true, laidKinds := [.data, .data], laidTests := true, laidLooks := .later }
def CustumalApartUptoCardSaid : Prop := Claim7.holds Tryd.pinned (.plain (OpenSpec.upto custumalApartSpec)) custumalApartUptoCard
end Rows
end Go.Proofs.YthmchbdhikakhaaDoor
