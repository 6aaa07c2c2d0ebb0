/- What the listed table gives a walk; a start that meets the condition. -/
import Derived.Test.YtpohbbmldedmdaaDoorRows
import Derived.Test.YtpohbbmldedmdaaDoorTie
import Derived.Test.YtpohbbmldedmdaaDoorCards
import Derived.Test.YtpohbbmldedmdaaDoorBt
import Derived.ProofKit
import Derived.LaidMore
import Derived.Lib.LaidTab
namespace Go.Proofs.YtpohbbmldedmdaaDoor
open Go.RowKit
set_option linter.unusedVariables false
set_option linter.unusedSimpArgs false

def L1 : List (String × DataW Unit) := [("math/bits.deBruijn64tab", Rows.laid_math_bits_deBruijn64tab)]
theorem L1_tab : L1 = [("math/bits.deBruijn64tab", Lib.tabData .u8 (Lib.deBruijn64tab.map fun (n : Nat) => (n : Int)))] := rfl
theorem gT : Tryd.prog.globalNamed "math/bits.deBruijn64tab" = some 0 := by kernel_rfl
theorem gTType : (Tryd.prog.globals[0]?).map (·.type) = some 59 := by kernel_rfl

theorem door_met (os : Os) (args : Array Value) : laidMetH Tryd.prog L1 ((World.doorLaid Tryd.prog 14 os).forCall (fun _ _ => 0) ⟨#[], args, []⟩).memory :=
  laidMetH_of_parts3 (fuel := 8) (laidMet_of_run' 8 (by kernel_rfl) (by kernel_rfl)) (by kernel_rfl) (by kernel_rfl)

theorem tb_of_laid {W : World} (h : laidMetH Tryd.prog L1 W) : Tb W := by
  rw [MakeChecks.laidMetH_plain _ _ _ (by kernel_rfl)] at h
  rw [L1_tab] at h
  have ht := Lib.tabIs_of_head gT gTType Tryd.underlying59 Tryd.underlying5 (by kernel_rfl) (by kernel_rfl) h
  intro j hj
  have := ht.cell gT j (by simpa using hj)
  rw [this]
  simp [List.getElem?_map, hj]

end Go.Proofs.YtpohbbmldedmdaaDoor
