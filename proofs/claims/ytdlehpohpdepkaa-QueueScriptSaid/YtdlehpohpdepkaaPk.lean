/- Packets: queue.Valid, the reference's ValidPacket, the drawn length, a drawn packet (some). -/
import Derived.Test.YtdlehpohpdepkaaGen
import Derived.BigGuardPart
import Derived.Deep.RegionHeld3
import Derived.Laws.ResultCell
namespace Go.Proofs.Ytdlehpohpdepkaa
open Go.RowKit
set_option linter.unusedVariables false
set_option linter.unusedSimpArgs false

def validB (i f l a d : Int) : Bool := decide (1 ≤ i ∧ 0 ≤ f ∧ f < 32 ∧ 1 ≤ l ∧ l ≤ 4096 ∧ 0 ≤ a ∧ a ≤ 16384 ∧ (d = -1 ∨ a ≤ d ∧ d ≤ 81919))

set_option maxHeartbeats 400000 in
theorem valid_raw (i f l a d : Int) (w : World) :
    Calls Try.prog 9 #[.agg #[.int .i64 i, .int .i64 f, .int .i64 l, .int .i64 a, .int .i64 d]] w fun e w' => e = .returned (.bool (validB i f l a d)) ∧ Chg [] w w' := by
  go_enter Try.func9, Try.ntmps9
  go_wp2
  all_goals
    go_ret
    refine ⟨ret_bool ?_, (Chg.refl _ _).alloc _⟩
    unfold validB
    first
      | exact (decide_eq_true (by omega)).symm
      | exact (decide_eq_false (by omega)).symm
      | exact decide_eq_decide.2 (by omega)

set_option maxHeartbeats 400000 in
theorem rvalid_raw (i f l a d : Int) (w : World) :
    Calls Try.prog 10 #[.agg #[.int .i64 i, .int .i64 f, .int .i64 l, .int .i64 a, .int .i64 d]] w fun e w' => e = .returned (.bool (validB i f l a d)) ∧ Chg [] w w' := by
  go_enter Try.func10, Try.ntmps10
  go_wp2
  all_goals
    go_ret
    refine ⟨ret_bool ?_, (Chg.refl _ _).alloc _⟩
    unfold validB
    first
      | exact (decide_eq_true (by omega)).symm
      | exact (decide_eq_false (by omega)).symm
      | exact decide_eq_decide.2 (by omega)

/-- Behind a call that turned block c alone: a cell of another block. -/
theorem chg1_cell {w w' : World} {c b j : Nat} {v : Value} (hc : Chg [c] w w') (hb : b ≠ c) (h : w.cell? ⟨b, j, none⟩ = some v) : w'.cell? ⟨b, j, none⟩ = some v :=
  (hc.cell (p := ⟨b, j, none⟩) (block_lt_of_cell h) (by simpa using hb)).trans h

set_option maxHeartbeats 400000 in
theorem length_c {w : World} {B c : Nat} {zs : List Int} {k : Nat} (h : Cho w B c zs k) (hk : k ≤ 900000) :
    Calls Try.prog 16 #[.pointer (some ⟨c, 0, none⟩)] w fun e w' =>
      ∃ n : Int, e = .returned (.int .i64 n) ∧ 1 ≤ n ∧ n ≤ 4096 ∧ Cho w' B c zs (k + 1) ∧ Chg [c] w w' := by
  have hlt := h.lt
  have hle := h.le
  go_enter Try.func16, Try.ntmps16
  go_wp2_with fail
  refine (next_c (h.chg ((Chg.refl [] w).alloc _) (by simp) (by simp)) (by omega) (by omega)).mono ?_
  rintro e w1 ⟨rfl, hC1, hc1⟩
  have h1 := nx_nonneg zs k 7
  have h2 := nx_lt zs k 7 (by omega)
  have hch : Chg [c] w w1 := ((Chg.refl [c] w).alloc _).trans hc1 (by simp)
  obtain ⟨j, hj⟩ := Int.eq_ofNat_of_zero_le h1
  rw [hj] at h1 h2 ⊢
  clear hj
  obtain ⟨v, hv, hv1, hv2⟩ : ∃ v : Int, w1.cell? ⟨w.heap.size, j, none⟩ = some (.int .i64 v) ∧ 1 ≤ v ∧ v ≤ 4096 := by
    have hB := (Blk.new w 3 #[.int .i64 100, .int .i64 1, .int .i64 60, .int .i64 1500, .int .i64 4096, .int .i64 100, .int .i64 700]).cell j
    have hj7 : j = 0 ∨ j = 1 ∨ j = 2 ∨ j = 3 ∨ j = 4 ∨ j = 5 ∨ j = 6 := by omega
    rcases hj7 with rfl | rfl | rfl | rfl | rfl | rfl | rfl
    all_goals exact ⟨_, chg1_cell hc1 (by omega) (hB.trans rfl), by omega, by omega⟩
  go_wp2_with fail
  go_ret
  exact ⟨v, rfl, hv1, hv2, hC1, hch⟩

end Go.Proofs.Ytdlehpohpdepkaa
