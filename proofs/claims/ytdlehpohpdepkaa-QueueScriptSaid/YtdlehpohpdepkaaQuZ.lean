/- slices.DeleteFunc of no packets; Expire. -/
import Derived.Test.YtdlehpohpdepkaaQuY
namespace Go.Proofs.Ytdlehpohpdepkaa
open Go.RowKit
set_option linter.unusedVariables false
set_option linter.unusedSimpArgs false

set_option maxHeartbeats 1000000 in
theorem idxf_nil (w : World) (A : Option Addr) (c : Nat) (f : Value) :
    Calls Try.prog 40 #[.slice A 0 c, f] w fun e w' => e = .returned (.int .i64 (-1)) ∧ Chg [] w w' := by
  go_enter Try.func40, Try.ntmps40
  go_wp2
  refine wp_loop_rounds 1 ?_
  rw [rounds_succ]
  go_wp2
  go_ret
  exact ⟨rfl, Chg.refl _ _⟩

set_option maxHeartbeats 1000000 in
theorem delf_nil (w : World) (A : Option Addr) (c : Nat) (f : Value) :
    Calls Try.prog 31 #[.slice A 0 c, f] w fun e w' => e = .returned (.slice A 0 c) ∧ Chg [] w w' := by
  go_enter Try.func31, Try.ntmps31
  go_wp2_with fail
  refine (idxf_nil w A c f).mono ?_
  rintro e w' ⟨rfl, hc⟩
  go_wp2_with fail
  go_ret
  exact ⟨rfl, hc⟩

end Go.Proofs.Ytdlehpohpdepkaa
