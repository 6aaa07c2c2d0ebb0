/- The walk of the statement SenderTries. -/
import Derived.Test.YtgkhendbpehagaaSnY
namespace Go.Proofs.Ytgkhendbpehagaa
open Go.RowKit
set_option linter.unusedVariables false
set_option linter.unusedSimpArgs false

theorem fnd_one (id t : Int) : fnd 0 [⟨0, id, t⟩] = some 0 := by simp [fnd]
theorem exh_one {tr id t : Int} (h : tr ≤ t) : exh tr [⟨0, id, t⟩] = [⟨0, id, t⟩] := by
  have : decide (t < tr) = false := decide_eq_false (by omega)
  simp [exh, this]
theorem exh_none {tr id t : Int} (h : t < tr) : exh tr [⟨0, id, t⟩] = [] := by
  simp [exh, h]

set_option maxRecDepth 100000 in
set_option maxHeartbeats 4000000 in
theorem senderTries_walk {w : World} (n id : Int) (h0 : 0 ≤ n) (h1 : n ≤ 255) :
    Calls Try.prog 6 #[.int .u8 n, .int .i64 id] w fun e w' => e = .returned (.bool true) ∧ Below w.heap.size w w' := by
  have hr0 : 0 ≤ n % 16 := by omega
  have hr1 : n % 16 ≤ 15 := by omega
  by_cases hid : id < 1
  · go_enter Try.func6, Try.ntmps6
    go_wp2_with fail
    generalize n % 16 = r at hr0 hr1 ⊢
    refine (snew_c 4 (1 + r) (by omega) (by omega) (by omega) (by omega) w (Nat.le_refl _)).mono ?_
    rintro e w1 ⟨s, rfl, hA1, hs1, hc1⟩
    go_wp2_with fail
    refine (sassign_bad hA1 id hid).mono ?_
    rintro e w2 ⟨rfl, m2, rfl⟩
    go_wp2_with fail
    refine (sawake_c _).mono ?_
    rintro e w3 ⟨rfl, hc3⟩
    go_wp2_with fail
    go_ret
    exact ⟨rfl, ((hc1.drewN m2).trans hc3 (by simp)).below (Nat.le_refl _) (by simp)⟩
  · have hid' : 1 ≤ id := by omega
    have hidb : decide (id < 1) = false := decide_eq_false hid
    go_enter Try.func6, Try.ntmps6
    go_wp2_with fail
    generalize n % 16 = r at hr0 hr1 ⊢
    obtain ⟨t, rfl⟩ : ∃ t : Nat, r = t := ⟨r.toNat, by omega⟩
    refine (snew_c 4 (1 + (t : Int)) (by omega) (by omega) (by omega) (by omega) w (Nat.le_refl _)).mono ?_
    rintro e w1 ⟨s, rfl, hA1, hs1, hc1⟩
    have hz1 := hc1.size
    have hsl := hA1.lt
    go_wp2_with fail
    refine (sassign_room hA1 (by omega) (by simp) id hid' (by show (0 - 0 + 65536) % 65536 < (4 : Int); omega)).mono ?_
    rintro e w2 ⟨rfl, O2, hA2, hO2, hc2⟩
    have hz2 := hc2.size
    simp only [List.not_mem_nil, false_or] at hO2
    have k2 : Chg [] w w2 := hc1.trans hc2 (by simp; omega)
    rw [show (0 + 1 + 65536 : Int) % 65536 = 1 from by decide] at hA2
    rw [show ([] : List Sn) ++ [⟨0, id, 0⟩] = [⟨0, id, 0⟩] from rfl] at hA2
    clear hA1 hc1 hc2
    go_wp2_with fail
    go_loopw [10] (fun vi wr => ∃ j : Nat, j ≤ t + 1 ∧ vi = .int .i64 ((j : Int) + 1) ∧ SA wr w.heap.size s O2 4 (1 + (t : Int)) 1 [⟨0, id, j⟩] ∧ Chg [] w wr) (fun vi _ => t + 2 - (intOf vi).toNat)
    case atStart => exact ⟨0, by omega, rfl, hA2, k2⟩
    case round =>
      obtain ⟨j, hj, rfl, hA, hk⟩ := hrel
      clear hA2 k2
      by_cases hlt : j < t + 1
      · have hlt' : (j : Int) + 1 ≤ 1 + (t : Int) := by omega
        go_wp2_with fail
        refine (ssend_c hA 0 (fnd_one id j) (by simp) (by simp; omega)).mono ?_
        rintro e w4 ⟨rfl, hA4, hc4⟩
        rw [show bump [⟨0, id, (j : Int)⟩] 0 = [⟨0, id, (j : Int) + 1⟩] from rfl] at hA4
        have k4 : Chg [] w w4 := hk.trans hc4 (by simp; exact ⟨by omega, fun i hi => by have := hA.BO i hi; omega⟩)
        go_wp2_with fail
        refine (sexh_c hA4).mono ?_
        rintro e w5 ⟨A5, c5, rfl, ho5, hc5⟩
        have hA5 := hA4.chg hc5 (by simp) (by simp)
        have k5 := k4.trans hc5 (by simp)
        clear hA4 hc4 hk k4 ho5
        by_cases hjt : j = t
        · subst hjt
          rw [exh_one (by omega)]
          have hb : ((j : Int) + 1 == 1 + (j : Int)) = true := by rw [beq_iff_eq]; omega
          go_wp2_with fail
          go_roundw
          case rel => exact ⟨j + 1, by omega, by go_num, by simpa using hA5, k5⟩
          case measure => simp [intOf]; omega
        · rw [exh_none (by omega)]
          have hb : ((j : Int) + 1 == 1 + (t : Int)) = false := by rw [beq_eq_false_iff_ne]; omega
          go_wp2_with fail
          go_roundw
          case rel => exact ⟨j + 1, by omega, by go_num, by simpa using hA5, k5⟩
          case measure => simp [intOf]; omega
      · obtain rfl : j = t + 1 := by omega
        go_wp2_with fail
        refine (ssend_done hA 0 (fnd_one id _) (by simp) (by simp; omega)).mono ?_
        rintro e w4 ⟨rfl, hc4⟩
        have hA4 := hA.chg hc4 (by simp) (by simp)
        have k4 := hk.trans hc4 (by simp)
        clear hA hk
        go_wp2_with fail
        refine (sdrop_c hA4 0 (fnd_one id _) (by simp)).mono ?_
        rintro e w5 ⟨rfl, hA5, hc5⟩
        have k5 : Chg [] w w5 := k4.trans hc5 (by simp; exact ⟨by omega, fun i hi => by have := hA4.BO i hi; omega⟩)
        rw [show ([⟨0, id, ((t + 1 : Nat) : Int)⟩] : List Sn).eraseIdx 0 = [] from rfl] at hA5
        go_wp2_with fail
        refine (ssend_none hA5 0 rfl).mono ?_
        rintro e w6 ⟨rfl, hc6⟩
        go_wp2_with fail
        refine (sawake_c _).mono ?_
        rintro e w7 ⟨rfl, hc7⟩
        go_wp2_with fail
        go_ret
        exact ⟨rfl, ((k5.trans hc6 (by simp)).trans hc7 (by simp)).below (Nat.le_refl _) (by simp)⟩

end Go.Proofs.Ytgkhendbpehagaa
