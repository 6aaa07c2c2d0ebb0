/- The sender: Pending (slices.Clone). -/
import Derived.Test.YtgkhendbpehagaaSnE
namespace Go.Proofs.Ytgkhendbpehagaa
open Go.RowKit
set_option linter.unusedVariables false
set_option linter.unusedSimpArgs false

set_option maxHeartbeats 1000000 in
theorem clone_raw {w : World} {B : Nat} {A : Option Addr} {n c : Nat} {xs : List Value} (hr : Reads w B 3 A n xs) (hone : ∀ u ∈ xs, u.oneCell' = true) (hn : n ≤ 1000) (hA : A = none → n = 0 ∧ c = 0) :
    Calls Try.prog 26 #[.slice A n c] w fun e w' => ∃ A' c', e = .returned (.slice A' n c') ∧ w'.ownsRow w.heap.size 39 3 (.slice A' n c') n xs ∧ Chg [] w w' := by
  have heq := fun W : World => Lib.run_eql_slice_nil (P := Try.prog) W 33 39 A n c 0 0 Try.underlying33
  cases A with
  | none =>
    obtain ⟨rfl, rfl⟩ := hA rfl
    have hx : xs = [] := List.eq_nil_of_length_eq_zero (by simpa using hr.1)
    have HX := Lib.hid hx
    clear hA hx
    go_enter Try.func26, Try.ntmps26
    go_wp2
    go_ret
    exact ⟨none, 0, rfl, by rw [HX.out]; exact World.ownsRow_nil _ _ _ _, Chg.refl _ _⟩
  | some ad =>
    clear hA
    have hE := own_empty w 39 3 w.heap.size (Nat.le_refl _)
    have hR := hr.more (B' := max B w.heap.size) (Nat.le_max_left _ _)
    go_enter Try.func26, Try.ntmps26
    go_wp2_with (at_builtin; refine list_app (P := Try.prog) (t := 33) Try.underlying33 sn_info rfl (by omega) (.tmp 5) (.tmp 6) w.heap.size (n := 0) (m := n) (N := n) (Nat.zero_add _) (by omega) hone (by omega) hE (reads_alloc hr _) (by simp) (by rfl) (by rfl) (by rfl) (by rfl) ?_; intro A1 d1 W1 hown1 hgrow1 hat1)
    go_ret
    exact ⟨A1, d1, rfl, hown1, ((Chg.refl [] w).alloc (.cells #[] 39)).grown hgrow1 (by simp [Value.ownBlock])⟩


set_option maxHeartbeats 1000000 in
theorem spend_raw (s : Nat) (A : Option Addr) (n c : Nat) (xs : List Value) (w : World) (B : Nat) (h : w.cell? ⟨s, 3, none⟩ = some (.slice A n c)) (hr : Reads w B 3 A n xs) (hone : ∀ u ∈ xs, u.oneCell' = true) (hn : n ≤ 1000) (hA : A = none → n = 0 ∧ c = 0) :
    Calls Try.prog 11 #[.pointer (some ⟨s, 0, none⟩)] w fun e w' => ∃ A' c', e = .returned (.slice A' n c') ∧ w'.ownsRow w.heap.size 39 3 (.slice A' n c') n xs ∧ Chg [] w w' := by
  go_enter Try.func11, Try.ntmps11
  go_wp2_with fail
  refine (clone_raw hr hone hn hA).mono ?_
  rintro e w' ⟨A', c', rfl, ho, hc⟩
  go_wp2_with fail
  go_ret
  exact ⟨A', c', rfl, ho, hc⟩

theorem spend_c {w : World} {B s : Nat} {O : List Nat} {wd tr nx : Int} {ps : List Sn} (h : SA w B s O wd tr nx ps) :
    Calls Try.prog 11 #[.pointer (some ⟨s, 0, none⟩)] w fun e w' => ∃ A' c', e = .returned (.slice A' ps.length c') ∧ w'.ownsRow w.heap.size 39 3 (.slice A' ps.length c') ps.length (ps.flatMap snC) ∧ Chg [] w w' := by
  obtain ⟨A, c, h9, h10, h11⟩ := h.row
  refine spend_raw s A ps.length c _ w w.heap.size ((h9.cell 3).trans rfl) (Reads.of_own h10) (snCells.flat_one _) h.hl ?_
  rintro rfl
  rcases h10.2 with ⟨hv, h0⟩ | ⟨g, cap, cur, e1, _⟩
  · injection hv with a b d
    exact ⟨h0, d⟩
  · injection e1 with a
    cases a

end Go.Proofs.Ytgkhendbpehagaa
