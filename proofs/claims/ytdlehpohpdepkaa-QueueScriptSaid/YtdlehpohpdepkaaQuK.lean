/- slices.Clone of packets; Packets. -/
import Derived.Test.YtdlehpohpdepkaaQuR
namespace Go.Proofs.Ytdlehpohpdepkaa
open Go.RowKit
set_option linter.unusedVariables false
set_option linter.unusedSimpArgs false

set_option maxHeartbeats 1000000 in
theorem clone_raw {w : World} {B : Nat} {A : Option Addr} {n c : Nat} {xs : List Value} (hr : Reads w B 5 A n xs) (hone : ∀ u ∈ xs, u.oneCell' = true) (hn : n ≤ 1000) (hA : A = none → n = 0 ∧ c = 0) :
    Calls Try.prog 33 #[.slice A n c] w fun e w' => ∃ A' c', e = .returned (.slice A' n c') ∧ w'.ownsRow w.heap.size 24 5 (.slice A' n c') n xs ∧ Chg [] w w' := by
  have heq := fun W : World => Lib.run_eql_slice_nil (P := Try.prog) W 42 24 A n c 0 0 Try.underlying42
  cases A with
  | none =>
    obtain ⟨rfl, rfl⟩ := hA rfl
    have hx : xs = [] := List.eq_nil_of_length_eq_zero (by simpa using hr.1)
    have HX := Lib.hid hx
    clear hA hx
    go_enter Try.func33, Try.ntmps33
    go_wp2
    go_ret
    exact ⟨none, 0, rfl, by rw [HX.out]; exact World.ownsRow_nil _ _ _ _, Chg.refl _ _⟩
  | some ad =>
    clear hA
    have hE := own_empty w 24 5 w.heap.size (Nat.le_refl _)
    have hR := hr.more (B' := max B w.heap.size) (Nat.le_max_left _ _)
    go_enter Try.func33, Try.ntmps33
    go_wp2_with (at_builtin; refine list_app (P := Try.prog) (t := 42) Try.underlying42 pk_info rfl (by omega) (.tmp 5) (.tmp 6) w.heap.size (n := 0) (m := n) (N := n) (Nat.zero_add _) (by omega) hone (by omega) hE (reads_alloc hr _) (by simp) (by rfl) (by rfl) (by rfl) (by rfl) ?_; intro A1 d1 W1 hown1 hgrow1 hat1)
    go_ret
    exact ⟨A1, d1, rfl, hown1, ((Chg.refl [] w).alloc (.cells #[] 24)).grown hgrow1 (by simp [Value.ownBlock])⟩

end Go.Proofs.Ytdlehpohpdepkaa
