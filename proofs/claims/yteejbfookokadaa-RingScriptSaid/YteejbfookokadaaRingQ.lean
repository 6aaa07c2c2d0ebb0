/- The walk of the statement RingQueues: what is pushed is popped in the same order. -/
import Derived.Test.YteejbfookokadaaRingL
namespace Go.Proofs.Yteejbfookokadaa
open Go.RowKit
set_option linter.unusedVariables false
set_option linter.unusedSimpArgs false

theorem chg_pair {w a b : World} {r q : Nat} (h : Chg [] w a) (k : Chg [r, q] a b) (hr : w.heap.size ≤ r) (hq : w.heap.size ≤ q) : Chg [] w b := h.trans k (by simp; omega)
theorem chg_one {w a b : World} {r : Nat} (h : Chg [] w a) (k : Chg [r] a b) (hr : w.heap.size ≤ r) : Chg [] w b := h.trans k (by simp; omega)

set_option maxHeartbeats 1000000 in
theorem ringQueues_walk {w : World} {a : Option Addr} {len cap : Nat} {zs : List Int} {first : Int} (hz : zs.length = len) (hl : len ≤ 9223372036854775807) (hi : Inp w w.heap.size a zs) (hf1 : -9223372036854775808 ≤ first) (hf2 : first ≤ 9223372036854775807) :
    Calls Try.prog 3 #[.slice a len cap, .int .i64 first] w fun e w' => e = .returned (.bool true) ∧ Below w.heap.size w w' := by
  have HF := Lib.hid (at64_zero hf1 hf2)
  have hgn := gnew_c (cap := cap) hz hl hi
  clear hz hi
  go_enter Try.func3, Try.ntmps3
  go_wp2_with fail
  refine hgn.mono ?_
  rintro e w1 ⟨c, rfl, hC1, hc1⟩
  clear hgn
  go_wp2_with fail
  refine (next_c hC1 (by omega) (by omega)).mono ?_
  rintro e w2 ⟨rfl, hC2, hc2⟩
  obtain ⟨n, hn⟩ := Int.eq_ofNat_of_zero_le (nx_nonneg zs 0 4)
  have hn4 := nx_lt zs 0 4 (by omega)
  rw [hn] at hn4 ⊢
  have hB1 : w.heap.size ≤ c := hC1.le
  have k2 := chg_one hc1 hc2 hB1
  clear hn
  go_wp2_with fail
  refine (rnew_3 (n + 1) (by omega) (by omega) (by omega) w2 (B := w.heap.size) k2.size).mono ?_
  rintro e w3 ⟨r, q, rfl, hR3, hr, hq, hc3⟩
  have k3 := k2.trans hc3 (by simp)
  have hC3 := hC2.chg hc3 (by simp) (by simp)
  have hclt := hC2.lt
  have hne1 : c ≠ r := by omega
  have hne2 : c ≠ q := by omega
  have hBr := k2.size
  clear hC1 hC2 hc1 hc2 hc3 k2
  go_wp2_with fail
  go_loopw [8, 9, 10] (fun vi vo vj wr => ∃ j k o m : Nat, j ≤ 40 ∧ k ≤ 1 + j ∧ vj = .int .i64 j ∧ vi = .int .i64 (at64 first (o + m)) ∧ vo = .int .i64 (at64 first o) ∧
      Cho wr w.heap.size c zs k ∧ RingA wr w.heap.size r q (n + 1) (runFrom first o m) ∧ Chg [] w wr) (fun _ _ vj _ => 40 - (intOf vj).toNat)
  case atStart => exact ⟨0, 1, 0, 0, by omega, by omega, rfl, by rw [← HF.out], by rw [← HF.out], hC3, hR3, k3⟩
  case round =>
    obtain ⟨j, k, o, m, hj, hk, rfl, rfl, rfl, hC, hR, hch⟩ := hrel
    clear hC3 hR3 k3
    by_cases hj40 : j < 40
    · have hm := hR.len.1
      rw [runFrom_length] at hm
      by_cases h0 : nx zs k 2 = 0
      · have hd : (nx zs k 2 == 0) = true := beq_iff_eq.2 h0
        clear h0
        by_cases hmn : m < n + 1
        · go_wp2_with fail
          refine (next_c hC (by omega) (by omega)).mono ?_
          rintro e wa ⟨rfl, hCa, hca⟩
          have hRa := hR.chg hca (by simp; exact Ne.symm hne1) (by simp; exact Ne.symm hne2)
          go_wp2_with fail
          refine (push_is hRa _ (c := 0) (M := runFrom first o (m + 1)) (by rw [insE, runFrom_length, if_pos hmn]) (by rw [insL, runFrom_length, if_pos hmn]; exact runFrom_push first o m)).mono ?_
          rintro e wb ⟨rfl, hRb, hcb⟩
          go_wp2_with fail
          go_roundw
          case rel => exact ⟨j + 1, k + 1, o, m + 1, by omega, by omega, by go_num, by rw [at64_succ, Nat.add_assoc], rfl, hCa.chg hcb (by simp [hne1, hne2]) (by simp; omega), hRb, chg_pair (chg_one hch hca hB1) hcb (by omega) (by omega)⟩
          case measure => simp [intOf]; omega
        · go_wp2_with fail
          refine (next_c hC (by omega) (by omega)).mono ?_
          rintro e wa ⟨rfl, hCa, hca⟩
          have hRa := hR.chg hca (by simp; exact Ne.symm hne1) (by simp; exact Ne.symm hne2)
          go_wp2_with fail
          refine (push_is hRa _ (c := 4) (M := runFrom first o m) (by rw [insE, runFrom_length, if_neg hmn]) (by rw [insL, runFrom_length, if_neg hmn])).mono ?_
          rintro e wb ⟨rfl, hRb, hcb⟩
          go_wp2_with fail
          go_roundw
          case rel => exact ⟨j + 1, k + 1, o, m, by omega, by omega, by go_num, rfl, rfl, hCa.chg hcb (by simp [hne1, hne2]) (by simp; omega), hRb, chg_pair (chg_one hch hca hB1) hcb (by omega) (by omega)⟩
          case measure => simp [intOf]; omega
      · have hd : (nx zs k 2 == 0) = false := beq_eq_false_iff_ne.2 h0
        clear h0
        rcases m with _ | m
        · go_wp2_with fail
          refine (next_c hC (by omega) (by omega)).mono ?_
          rintro e wa ⟨rfl, hCa, hca⟩
          have hRa := hR.chg hca (by simp; exact Ne.symm hne1) (by simp; exact Ne.symm hne2)
          go_wp2_with fail
          refine (pop_is hRa (v := 0) (c := 5) (M := runFrom first o 0) rfl rfl rfl).mono ?_
          rintro e wb ⟨rfl, hRb, hcb⟩
          go_wp2_with fail
          go_roundw
          case rel => exact ⟨j + 1, k + 1, o, 0, by omega, by omega, by go_num, rfl, rfl, hCa.chg hcb (by simp [hne1, hne2]) (by simp; omega), hRb, chg_pair (chg_one hch hca hB1) hcb (by omega) (by omega)⟩
          case measure => simp [intOf]; omega
        · go_wp2_with fail
          refine (next_c hC (by omega) (by omega)).mono ?_
          rintro e wa ⟨rfl, hCa, hca⟩
          have hRa := hR.chg hca (by simp; exact Ne.symm hne1) (by simp; exact Ne.symm hne2)
          go_wp2_with fail
          refine (pop_is hRa (v := at64 first o) (c := 0) (M := runFrom first (o + 1) m) (by rw [runFrom_pop, takeV_cons]) (by rw [runFrom_pop, takeOk_cons]; rfl) (by rw [runFrom_pop, takeL_cons])).mono ?_
          rintro e wb ⟨rfl, hRb, hcb⟩
          go_wp2_with fail
          go_roundw
          case rel => exact ⟨j + 1, k + 1, o + 1, m, by omega, by omega, by go_num, by rw [show o + (m + 1) = o + 1 + m from by omega], by rw [at64_succ], hCa.chg hcb (by simp [hne1, hne2]) (by simp; omega), hRb, chg_pair (chg_one hch hca hB1) hcb (by omega) (by omega)⟩
          case measure => simp [intOf]; omega
    · have hm := hR.len.1
      rw [runFrom_length] at hm
      have hln := len_c hR
      rw [runFrom_length] at hln
      have hq : ((m : Int) == wrap64 (at64 first (o + m) - at64 first o)) = true := by rw [at64_diff first o m (by omega)]; simp
      have hBq := hch.size
      go_wp2_with fail
      refine hln.mono ?_
      rintro e wa ⟨rfl, m1, rfl⟩
      clear hln
      go_wp2_with fail
      refine (awake_c _).mono ?_
      rintro e wb ⟨rfl, hcb⟩
      go_wp2_with fail
      go_ret
      exact ⟨rfl, ((hch.drewN m1).trans hcb (by simp)).below (Nat.le_refl _) (by simp)⟩

end Go.Proofs.Yteejbfookokadaa
