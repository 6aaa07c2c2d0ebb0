/-
  DERIVED. GIVEN WITH THE SEED: THE CARDS: each row of YtpohbbmldedmdaaDoorRows.lean that lists a variable, with what it lists TIED to the program's text (the seventh form; the later family's looks); each row that meets fmt, with fmt's text TOLD by the authors' own Lean function (tested against real Go, not proved from fmt's source: count such statements apart). THE CARD IS WHAT COUNTS. Prove the row's statement (the work); the ties are given (YtpohbbmldedmdaaDoorTie.lean); close each card by the builder's one call (the guide's Derived/Test/ToyasCard.lean, 'card_holds'). Laid BY PROGRAM, IN A SANDBOX (cutbox-door.mjs). By AI agents, Wed Nov 11 2026. No macro, syntax, notation, axiom, sorry.
-/
import Derived.Test.YtpohbbmldedmdaaDoorRows
import GoSem.ClaimSeven
namespace Go.Proofs.YtpohbbmldedmdaaDoor
namespace Rows

/-- THE TIED CARD OF 'airsharelaw6.BitmapMoves'. -/
def bitmapMovesCard : Claim7 := { stood := { row := bitmapMovesRow, standIns := [], harness := (true, "f4347b5cec304ba3f7595538fa1ac66628610403c2fcdddd7ed6ebfdde69e085"), looks := false }, kinds := [], alts := [], laidByText := true, laidKinds := [.data], laidTests := true, laidLooks := .later }
def BitmapMovesCardSaid : Prop := Claim7.holds Tryd.pinned (.plain (OpenSpec.ofChange bitmapMovesSpec)) bitmapMovesCard

/-- THE TIED CARD OF 'airsharelaw6.BitmapKeeps'. -/
def bitmapKeepsCard : Claim7 := { stood := { row := bitmapKeepsRow, standIns := [], harness := (true, "f4347b5cec304ba3f7595538fa1ac66628610403c2fcdddd7ed6ebfdde69e085"), looks := false }, kinds := [], alts := [], laidByText := true, laidKinds := [.data], laidTests := true, laidLooks := .later }
def BitmapKeepsCardSaid : Prop := Claim7.holds Tryd.pinned (.plain (OpenSpec.ofChange bitmapKeepsSpec)) bitmapKeepsCard

/-- THE TIED CARD OF 'airsharelaw6.BitmapSequence'. -/
def bitmapSequenceCard : Claim7 := { stood := { row := bitmapSequenceRow, standIns := [], harness := (true, "f4347b5cec304ba3f7595538fa1ac66628610403c2fcdddd7ed6ebfdde69e085"), looks := false }, kinds := [], alts := [], laidByText := true, laidKinds := [.data], laidTests := true, laidLooks := .later }
def BitmapSequenceCardSaid : Prop := Claim7.holds Tryd.pinned (.plain (OpenSpec.ofChange bitmapSequenceSpec)) bitmapSequenceCard

/-- THE TIED CARD OF 'airsharelaw6.BitmapBits'. -/
def bitmapBitsCard : Claim7 := { stood := { row := bitmapBitsRow, standIns := [], harness := (true, "f4347b5cec304ba3f7595538fa1ac66628610403c2fcdddd7ed6ebfdde69e085"), looks := false }, kinds := [], alts := [], laidByText := true, laidKinds := [.data], laidTests := true, laidLooks := .later }
def BitmapBitsCardSaid : Prop := Claim7.holds Tryd.pinned (.plain (OpenSpec.ofChange bitmapBitsSpec)) bitmapBitsCard

/-- THE TIED CARD OF 'airsharelaw6.BitmapPack'. -/
def bitmapPackCard : Claim7 := { stood := { row := bitmapPackRow, standIns := [], harness := (true, "f4347b5cec304ba3f7595538fa1ac66628610403c2fcdddd7ed6ebfdde69e085"), looks := false }, kinds := [], alts := [], laidByText := true, laidKinds := [.data], laidTests := true, laidLooks := .later }
def BitmapPackCardSaid : Prop := Claim7.holds Tryd.pinned (.plain (OpenSpec.ofChange bitmapPackSpec)) bitmapPackCard

/-- THE SECOND FORM's CARD OF 'airsharelaw6.BitmapMoves'. -/
def bitmapMovesUptoCard : Claim7 := { stood := { row := bitmapMovesUptoRow, standIns := [], harness := (true, "f4347b5cec304ba3f7595538fa1ac66628610403c2fcdddd7ed6ebfdde69e085"), looks := false }, kinds := [], alts := [], laidByText := true, laidKinds := [.data], laidTests := true, laidLooks := .later }
def BitmapMovesUptoCardSaid : Prop := Claim7.holds Tryd.pinned (.plain (OpenSpec.upto bitmapMovesSpec)) bitmapMovesUptoCard

/-- THE SECOND FORM's CARD OF 'airsharelaw6.BitmapKeeps'. -/
def bitmapKeepsUptoCard : Claim7 := { stood := { row := bitmapKeepsUptoRow, standIns := [], harness := (true, "f4347b5cec304ba3f7595538fa1ac66628610403c2fcdddd7ed6ebfdde69e085"), looks := false }, kinds := [], alts := [], laidByText := true, laidKinds := [.data], laidTests := true, laidLooks := .later }
def BitmapKeepsUptoCardSaid : Prop := Claim7.holds Tryd.pinned (.plain (OpenSpec.upto bitmapKeepsSpec)) bitmapKeepsUptoCard

/-- THE SECOND FORM's CARD OF 'airsharelaw6.BitmapSequence'. -/
def bitmapSequenceUptoCard : Claim7 := { stood := { row := bitmapSequenceUptoRow, standIns := [], harness := (true, "f4347b5cec304ba3f7595538fa1ac66628610403c2fcdddd7ed6ebfdde69e085"), looks := false }, kinds := [], alts := [], laidByText := true, laidKinds := [.data], laidTests := true, laidLooks := .later }
def BitmapSequenceUptoCardSaid : Prop := Claim7.holds Tryd.pinned (.plain (OpenSpec.upto bitmapSequenceSpec)) bitmapSequenceUptoCard

/-- THE SECOND FORM's CARD OF 'airsharelaw6.BitmapBits'. -/
def bitmapBitsUptoCard : Claim7 := { stood := { row := bitmapBitsUptoRow, standIns := [], harness := (true, "f4347b5cec304ba3f7595538fa1ac66628610403c2fcdddd7ed6ebfdde69e085"), looks := false }, kinds := [], alts := [], laidByText := true, laidKinds := [.data], laidTests := true, laidLooks := .later }
def BitmapBitsUptoCardSaid : Prop := Claim7.holds Tryd.pinned (.plain (OpenSpec.upto bitmapBitsSpec)) bitmapBitsUptoCard

/-- THE SECOND FORM's CARD OF 'airsharelaw6.BitmapPack'. -/
def bitmapPackUptoCard : Claim7 := { stood := { row := bitmapPackUptoRow, standIns := [], harness := (true, "f4347b5cec304ba3f7595538fa1ac66628610403c2fcdddd7ed6ebfdde69e085"), looks := false }, kinds := [], alts := [], laidByText := true, laidKinds := [.data], laidTests := true, laidLooks := .later }
def BitmapPackUptoCardSaid : Prop := Claim7.holds Tryd.pinned (.plain (OpenSpec.upto bitmapPackSpec)) bitmapPackUptoCard
end Rows
end Go.Proofs.YtpohbbmldedmdaaDoor
