/- The walk of the statement RingScript. -/
import Derived.Test.YteejbfookokadaaRingT
import Derived.Deep.RegionWith
import Derived.Deep.DrawnRows
namespace Go.Proofs.Yteejbfookokadaa
open Go.RowKit
set_option linter.unusedVariables false
set_option linter.unusedSimpArgs false

attribute [local go_sem ↓] Go.wp_at_zero Go.wp_at_succ

theorem cap_c {w : World} {B r q n : Nat} {L : List Int} (h : RingA w B r q n L) : Calls Try.prog 22 #[.pointer (some ⟨r, 0, none⟩)] w fun e w' => e = .returned (.int .i64 (n : Nat)) ∧ ∃ m, w' = w.drewN m := by
  obtain ⟨h1, h2, h3, h4, h5, h6, f, cs, h7, h8, h9, h10, h11⟩ := h
  exact cap_raw r q n w ((h8.cell 0).trans rfl)
theorem cap_is {w : World} {B r q n : Nat} {L : List Int} {i : Int} (h : RingA w B r q n L) (hi : i = (n : Int)) : Calls Try.prog 22 #[.pointer (some ⟨r, 0, none⟩)] w fun e w' => e = .returned (.int .i64 i) ∧ ∃ m, w' = w.drewN m := by
  subst hi
  exact cap_c h
theorem rnew_bad_c (n : Int) (hn : n < 1 ∨ 4096 < n) (w : World) :
    Calls Try.prog 8 #[.int .i64 n] w fun e w' => e = .returned (.tuple #[.pointer none, .int .i64 1]) ∧ ∃ m, w' = w.drewN m := rnew_bad n hn w

theorem act_q {w0 w : World} {B c r q s g n k : Nat} {zs L : List Int} (h : RS w B c r q s g n zs k L L) (hk : k ≤ 100000) (h0 : Chg [] w0 w) (hB : B = w0.heap.size) :
    Calls Try.prog 21 #[.pointer (some ⟨c, 0, none⟩), .pointer (some ⟨r, 0, none⟩), .pointer (some ⟨s, 0, none⟩)] w fun e w' =>
      e = .returned (.bool true) ∧ ∃ g' L', RS w' B c r q s g' n zs (k + 3) L' L' ∧ Chg [] w0 w' ∧ ∃ a d, w'.cell? ⟨s, 1, none⟩ = some (.slice a L'.length d) ∧ Rd w' g' a L' := by
  refine (act_c h hk).mono ?_
  rintro e w' ⟨rfl, g', L', s', hc, hg⟩
  obtain ⟨a1, a2, a3, a4, a, d, a5, a6, a7⟩ := s'.ref
  exact ⟨rfl, g', L', s', h0.trans hc (by have := h.lt; simp; omega), a, d, (a5.cell 1).trans rfl, a6⟩
theorem RingA.drew {w : World} {B r q n : Nat} {L : List Int} (h : RingA w B r q n L) : RingA w.drew B r q n L := h.chg ((Chg.refl [] w).drew) (by simp) (by simp)

set_option maxRecDepth 100000 in
set_option maxHeartbeats 40000000 in
theorem ringScript_walk {w : World} {a : Option Addr} {len cap : Nat} {zs : List Int} {x : Int} (hz : zs.length = len) (hl : len ≤ 9223372036854775807) (hi : Inp w w.heap.size a zs) (hx1 : -9223372036854775808 ≤ x) (hx2 : x ≤ 9223372036854775807) :
    Calls Try.prog 6 #[.slice a len cap, .int .i64 x] w fun e w' => e = .returned (.bool true) ∧ Below w.heap.size w w' := by
  have hgn := gnew_c (cap := cap) hz hl hi
  clear hz hi
  go_enter Try.func6, Try.ntmps6
  go_wp2_with fail
  refine hgn.mono ?_
  rintro e w1 ⟨c, rfl, hC1, hc1⟩
  clear hgn
  have hB1 : w.heap.size ≤ c := hC1.le
  go_wp2_with fail
  refine (next_c hC1 (by omega) (by omega)).mono ?_
  rintro e w2 ⟨rfl, hC2, hc2⟩
  have k2 := chg_one hc1 hc2 hB1
  have hn5 := nx_lt zs 0 5 (by omega)
  obtain ⟨n, hn⟩ := Int.eq_ofNat_of_zero_le (nx_nonneg zs 0 5)
  rw [hn] at hn5 ⊢
  clear hn hC1 hc1 hc2
  go_wp2_with fail
  refine (rnew_3 (n + 1) (by omega) (by omega) (by omega) w2 (B := w.heap.size) k2.size).mono ?_
  rintro e w3 ⟨r, q, rfl, hR3, hr, hq, hc3⟩
  have k3 := k2.trans hc3 (by simp)
  have hC3 := hC2.chg hc3 (by simp) (by simp)
  have hclt := hC2.lt
  have hRlt := hR3.lt
  have hz2 := k2.size
  have hz3 := k3.size
  have hz4 := hc3.size
  clear hC2 hc3 k2
  go_wp2_with fail
  refine (rnew4_c (n + 1) (by omega) (by omega) (by omega) w3 w3.heap.size (B := w.heap.size) hz3).mono ?_
  rintro e w4 ⟨s, rfl, hF4, hs, hc4⟩
  have k4 := k3.trans hc4 (by simp)
  have s4 : RS w4 w.heap.size c r q s w3.heap.size (n + 1) zs 1 [] [] :=
    ⟨hC3.chg hc4 (by simp) (by simp), hR3.chg hc4 (by simp) (by simp), hF4, by omega, by omega, by omega, by omega, by omega, by omega, by omega, by omega⟩
  clear hC3 hR3 hF4 hc4 k3
  go_wp2_with fail
  go_loopw [11] (fun vi wr => ∃ (j g : Nat) (L : List Int), j ≤ 30 ∧ vi = .int .i64 j ∧ RS wr w.heap.size c r q s g (n + 1) zs (3 * j + 1) L L ∧ Chg [] w wr) (fun vi _ => 30 - (intOf vi).toNat)
  case atStart => exact ⟨0, w3.heap.size, [], by omega, rfl, s4, k4⟩
  case round =>
    obtain ⟨j, g, L, hj, rfl, s5, k5⟩ := hrel
    clear s4 k4
    by_cases hj30 : j < 30
    · have hj' : (j : Int) < 30 := by omega
      go_wp2_with fail
      go_region_with (first
        | (go_at_call 21; refine (act_q (s5.toQuiet (Chg.refl [] wr).drew) (by omega) k5.drew rfl).mono ?_; rintro e wa ⟨rfl, ga, La, sa, ka, aa, ac, ea, ra⟩)
        | (go_at_call 12; refine (len_c sa.ring).mono ?_; rintro e wb ⟨rfl, m1, rfl⟩)
        | (go_at_call 22; refine (cap_is (i := 1 + (n : Int)) (sa.ring.drewN _) (by omega)).mono ?_; rintro e wb ⟨rfl, m2, rfl⟩)
        | (go_at_call 14; refine (items_c (sa.ring.drewN _)).mono ?_; rintro e wb ⟨gi, rfl, hgi1, hgi2, hrdi, hci⟩; have ei := (hci.cell (p := ⟨s, 1, none⟩) (by have := sa.lt; simp; omega) (by simp)).trans ea)
        | (go_at_call 16; refine (equal_is2 rfl rfl hrdi ((ra.chg ((Chg.refl [] wa).drewN _) (by simp)).chg hci (by simp))).mono ?_; rintro e wc ⟨rfl, m3, rfl⟩))
      all_goals
        have sE := ((sa.toQuiet ((Chg.refl [] wa).drewN _)).toQuiet hci).toQuiet ((Chg.refl [] wb).drewN m3)
        have kE := ((ka.drewN _).trans hci (by simp)).drewN m3
        go_wp2_with fail
        go_roundw
        case rel => exact ⟨j + 1, ga, La, by omega, by go_num, by rw [show 3 * (j + 1) + 1 = 3 * j + 1 + 3 from by omega]; exact sE, kE⟩
        case measure => simp [intOf]; omega
    · have hge : (30 : Int) ≤ (j : Int) := by omega
      have hBq := k5.size
      clear s5
      by_cases hv : 1 ≤ x ∧ x ≤ 4096
      · obtain ⟨hv1, hv2⟩ := hv
        obtain ⟨nx1, rfl⟩ := Int.eq_ofNat_of_zero_le (show 0 ≤ x by omega)
        go_wp2_with fail
        refine (rnew_3 nx1 (by omega) (by omega) rfl wr (B := w.heap.size) hBq).mono ?_
        rintro e wa ⟨r2, q2, rfl, hR2, hr2, hq2, hc2⟩
        go_wp2_with fail
        refine (awake_c _).mono ?_
        rintro e wi ⟨rfl, hci⟩
        go_wp2_with fail
        go_ret
        exact ⟨rfl, ((k5.trans hc2 (by simp)).trans hci (by simp)).below (Nat.le_refl _) (by simp)⟩
      · by_cases hv1 : x < 1
        · have hv2 : ¬ (1 ≤ x) := by omega
          go_wp2_with fail
          refine (rnew_bad_c x (by omega) wr).mono ?_
          rintro e wa ⟨rfl, m1, rfl⟩
          go_wp2_with fail
          refine (awake_c _).mono ?_
          rintro e wi ⟨rfl, hci⟩
          go_wp2_with fail
          go_ret
          exact ⟨rfl, ((k5.drewN m1).trans hci (by simp)).below (Nat.le_refl _) (by simp)⟩
        · have hv2 : 1 ≤ x := by omega
          have hv3 : 4096 < x := by omega
          have hv4 : decide (x ≤ 4096) = false := by simp; omega
          go_wp2_with fail
          refine (rnew_bad_c x (by omega) wr).mono ?_
          rintro e wa ⟨rfl, m1, rfl⟩
          go_wp2_with fail
          refine (awake_c _).mono ?_
          rintro e wi ⟨rfl, hci⟩
          go_wp2_with fail
          go_ret
          exact ⟨rfl, ((k5.drewN m1).trans hci (by simp)).below (Nat.le_refl _) (by simp)⟩

end Go.Proofs.Yteejbfookokadaa
