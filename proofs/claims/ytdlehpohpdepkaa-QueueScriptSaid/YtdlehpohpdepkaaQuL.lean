/- Packets. -/
import Derived.Test.YtdlehpohpdepkaaQuK
namespace Go.Proofs.Ytdlehpohpdepkaa
open Go.RowKit
set_option linter.unusedVariables false
set_option linter.unusedSimpArgs false

set_option maxHeartbeats 1000000 in
theorem qpackets_raw (q : Nat) (A : Option Addr) (n c : Nat) (xs : List Value) (w : World) (B : Nat) (h : w.cell? ⟨q, 2, none⟩ = some (.slice A n c)) (hr : Reads w B 5 A n xs) (hone : ∀ u ∈ xs, u.oneCell' = true) (hn : n ≤ 1000) (hA : A = none → n = 0 ∧ c = 0) :
    Calls Try.prog 21 #[.pointer (some ⟨q, 0, none⟩)] w fun e w' => ∃ A' c', e = .returned (.slice A' n c') ∧ w'.ownsRow w.heap.size 24 5 (.slice A' n c') n xs ∧ Chg [] w w' := by
  go_enter Try.func21, Try.ntmps21
  go_wp2_with fail
  refine (clone_raw hr hone hn hA).mono ?_
  rintro e w' ⟨A', c', rfl, ho, hc⟩
  go_wp2_with fail
  go_ret
  exact ⟨A', c', rfl, ho, hc⟩

theorem qpackets_c {w : World} {B q : Nat} {O : List Nat} {most mb : Int} {ps : List Pk} (h : QA w B q O most mb ps) :
    Calls Try.prog 21 #[.pointer (some ⟨q, 0, none⟩)] w fun e w' => ∃ A' c', e = .returned (.slice A' ps.length c') ∧ w'.ownsRow w.heap.size 24 5 (.slice A' ps.length c') ps.length (ps.flatMap pkC) ∧ Chg [] w w' := by
  obtain ⟨h1, h2, h3, h4, h5, A, c, h6, h7, h8⟩ := h
  refine qpackets_raw q A ps.length c _ w w.heap.size ((h6.cell 2).trans rfl) (Reads.of_own h7) (flat_one _) (by omega) ?_
  rintro rfl
  rcases h7.2 with ⟨hv, h0⟩ | ⟨g, cap, cur, e1, _⟩
  · injection hv with a b d
    exact ⟨h0, d⟩
  · injection e1 with a
    cases a

end Go.Proofs.Ytdlehpohpdepkaa
