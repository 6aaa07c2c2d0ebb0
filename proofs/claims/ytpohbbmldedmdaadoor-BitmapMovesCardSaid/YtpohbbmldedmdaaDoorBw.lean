/- Move of the reference; the law's comparison (moves). -/
import Derived.Test.YtpohbbmldedmdaaDoorBv
namespace Go.Proofs.YtpohbbmldedmdaaDoor
open Go.RowKit
set_option linter.unusedVariables false
set_option linter.unusedSimpArgs false

set_option maxHeartbeats 2000000 in
theorem rmove (base b to : Int) (w : World) (h0 : 0 ≤ b) (h1 : b < 18446744073709551616) :
    Calls Tryd.prog 23 #[.agg #[.int .i64 base, .int .u64 b], .int .i64 to] w fun e w' => e = .returned (.tuple #[.agg #[.int .i64 (movM base to), .int .u64 (movB base b to)], .int .i64 (movE base to)]) ∧ Chg [] w w' := by
  by_cases h : 0 ≤ base ∧ base < 65536 ∧ 0 ≤ to ∧ to < 65536
  · have hd := dst_bd base to
    have HD := Lib.hid (rdist base to)
    rw [show distV base to = dst base to from if_pos h, show distE base to = 0 from if_pos h] at HD
    by_cases h2 : dst base to < 32768
    · have ho : movOk base to := ⟨h, h2⟩
      rw [show movM base to = to from if_pos ho, show movB base b to = b / 2 ^ (dst base to).toNat from (if_pos ho).trans (shr_eq b _ h0 h1), show movE base to = 0 from if_pos ho]
      clear h ho
      generalize dst base to = d at hd HD h2 ⊢
      obtain ⟨D, hD⟩ := Int.eq_ofNat_of_zero_le hd.1
      rw [show d.toNat = D from by omega]
      have HDD := Lib.hid hD
      clear hD
      go_enter Tryd.func23, Tryd.ntmps23
      go_wp2_with fail
      refine (HD.out _).mono ?_
      rintro e w1 ⟨rfl, rfl⟩
      have k1 : Chg [] w _ := ((Chg.refl [] w).alloc (.cells #[.int .i64 base, .int .u64 b] 29)).alloc (.cells #[.int .i64 0, .int .u64 0] 29)
      have hm := (Blk.new w 29 #[.int .i64 base, .int .u64 b]).alloc (.cells #[.int .i64 0, .int .u64 0] 29)
      have hr := Blk.new (w.alloc (.cells #[.int .i64 base, .int .u64 b] 29)) 29 #[.int .i64 0, .int .u64 0]
      simp only [World.size_alloc] at hr
      go_wp2_with fail
      go_loopw [8] (fun vn wr => ∃ j : Nat, j ≤ D ∧ vn = .int .i64 j ∧ Chg [] w wr ∧ Blk wr w.heap.size 29 #[.int .i64 base, .int .u64 (b / 2 ^ j)] ∧ Blk wr (w.heap.size + 1) 29 #[.int .i64 0, .int .u64 0]) (fun vn _ => D - (intOf vn).toNat)
      case atStart => exact ⟨0, by omega, rfl, by repeat (first | (with_reducible exact k1) | (with_reducible refine Chg.drew ?_)), by simpa using (by repeat (first | (with_reducible exact hm) | (with_reducible refine Blk.drew ?_)) : Blk _ _ _ _), by repeat (first | (with_reducible exact hr) | (with_reducible refine Blk.drew ?_))⟩
      case round =>
        clear k1 hm hr
        obtain ⟨j, hj, rfl, kr, hm, hr⟩ := hrel
        have m0 := (hm.cell 0).trans rfl
        have m1 := (hm.cell 1).trans rfl
        have f0 := hm.frozen 0
        have f1 := hm.frozen 1
        have hml := hm.lt
        have hbd := pow_bd b j h0 h1
        have r0 := (hr.cell 0).trans rfl
        have r1 := (hr.cell 1).trans rfl
        have e0 := hr.frozen 0
        have e1 := hr.frozen 1
        have hrl := hr.lt
        have HP := Lib.hid (half_pow b j h0)
        have HZ := Lib.hid (pow_zero_up b j D h0 hj)
        have HM := Lib.hid hm
        have HR := Lib.hid hr
        clear hr
        by_cases hlt : j < D
        · have hlt' : (j : Int) < d := by have := HDD.out; omega
          by_cases hq0 : 0 < b / 2 ^ j
          · generalize b / 2 ^ j = q at m1 hbd HP HM hm hq0
            clear hm HZ
            go_wp2_with fail
            try go_region
            all_goals
              go_wp2_with fail
              go_roundw
              case rel =>
                have b8 := (HM.out.set_ 1 (.int .u64 (q / 2)))
                simp only [List.setIfInBounds_toArray, List.set_cons_succ, List.set_cons_zero] at b8
                rw [HP.out] at b8
                refine ⟨j + 1, by omega, by go_num, (kr.setCell (p := ⟨w.heap.size, 1, none⟩) (.inr (Nat.le_refl _)) _), ?_, (HR.out.far (p := ⟨w.heap.size, 1, none⟩) (by simp) _)⟩
                rw [HP.out]
                exact b8
              case measure => simp [intOf]; omega
          · have hq1 : b / 2 ^ j ≤ 0 := by omega
            have HQ := Lib.hid (HZ.out (by omega))
            generalize b / 2 ^ j = q at m1 hbd hq1 hm hq0
            obtain rfl : q = 0 := by omega
            clear hm HM HP HZ
            go_wp2_with fail
            try go_region
            all_goals
              go_wp2_with fail
              refine bodyPost_ret (v := .tuple #[.agg #[.int .i64 to, .int .u64 0], .int .i64 0]) (by simp [results, Tryd.results23, go_sem, *]) rfl ⟨by rw [HQ.out], ?_⟩
              repeat (first | (with_reducible exact kr) | (with_reducible refine Chg.alloc ?_ _) | (with_reducible refine Chg.drew ?_) | ((with_reducible refine Chg.setCell ?_ ?hp _); case hp => (right; simp)))
        · have hge' : d ≤ (j : Int) := by have := HDD.out; omega
          obtain rfl : j = D := by omega
          clear HDD
          generalize hq : b / 2 ^ j = q at m1 hbd
          have HQ := Lib.hid hq
          clear hq hm HM HP HZ
          go_wp2_with fail
          try go_region
          all_goals
            go_wp2_with fail
            refine bodyPost_ret (v := .tuple #[.agg #[.int .i64 to, .int .u64 q], .int .i64 0]) (by simp [results, Tryd.results23, go_sem, *]) rfl ⟨by rw [HQ.out], ?_⟩
            repeat (first | (with_reducible exact kr) | (with_reducible refine Chg.alloc ?_ _) | (with_reducible refine Chg.drew ?_) | ((with_reducible refine Chg.setCell ?_ ?hp _); case hp => (right; simp)))
    · have ho : ¬ movOk base to := fun hh => h2 hh.2
      rw [show movM base to = 0 from if_neg ho, show movB base b to = 0 from if_neg ho, show movE base to = 1 from if_neg ho]
      clear h ho
      generalize dst base to = d at hd HD h2 ⊢
      go_enter Tryd.func23, Tryd.ntmps23
      go_wp2_with fail
      refine (HD.out _).mono ?_
      rintro e w1 ⟨rfl, rfl⟩
      go_wp2_with fail
      refine bodyPost_ret (v := .tuple #[.agg #[.int .i64 0, .int .u64 0], .int .i64 1]) (by simp [results, Tryd.results23, go_sem, *]) rfl ⟨rfl, ?_⟩
      repeat (first | (with_reducible exact Chg.refl _ _) | (with_reducible refine Chg.alloc ?_ _) | (with_reducible refine Chg.drew ?_) | ((with_reducible refine Chg.setCell ?_ ?hp _); case hp => (right; simp)))
  · have ho : ¬ movOk base to := fun hh => h hh.1
    have HD := Lib.hid (rdist base to)
    rw [show distV base to = 0 from if_neg h, show distE base to = 1 from if_neg h] at HD
    rw [show movM base to = 0 from if_neg ho, show movB base b to = 0 from if_neg ho, show movE base to = 1 from if_neg ho]
    clear h ho
    go_enter Tryd.func23, Tryd.ntmps23
    go_wp2_with fail
    refine (HD.out _).mono ?_
    rintro e w1 ⟨rfl, rfl⟩
    go_wp2_with fail
    refine bodyPost_ret (v := .tuple #[.agg #[.int .i64 0, .int .u64 0], .int .i64 1]) (by simp [results, Tryd.results23, go_sem, *]) rfl ⟨rfl, ?_⟩
    repeat (first | (with_reducible exact Chg.refl _ _) | (with_reducible refine Chg.alloc ?_ _) | (with_reducible refine Chg.drew ?_) | ((with_reducible refine Chg.setCell ?_ ?hp _); case hp => (right; simp)))

set_option maxHeartbeats 2000000 in
theorem lmoves (base b to : Int) (w : World) (hT : Tb w) (h0 : 0 ≤ b) (h1 : b < 18446744073709551616) : Calls Tryd.prog 11 #[.agg #[.int .i64 base, .int .u64 b], .int .i64 to] w fun e w' => e = .returned (.bool true) ∧ Chg [] w w' := by
  have H1 := Lib.hid (fun W hW => padv base b W hW h0 h1)
  have H2 := Lib.hid (fun W => radv base b W h0 h1)
  have H3 := Lib.hid (fun W => pmove base b to W h0 h1)
  have H4 := Lib.hid (fun W => rmove base b to W h0 h1)
  have HT := Lib.hid hT
  clear hT
  generalize advM base b = v1 at H1 H2
  generalize advB base b = v2 at H1 H2
  generalize advN base b = v3 at H1 H2
  generalize movM base to = v4 at H3 H4
  generalize movB base b to = v5 at H3 H4
  generalize movE base to = v6 at H3 H4
  have hel1 := bm_eql v1 v2 v1 v2
  have hel2 := bm_eql v4 v5 v4 v5
  go_enter Tryd.func11, Tryd.ntmps11
  go_wp2_with fail
  refine (H1.out _ (HT.out.chg ((Chg.refl [] w).alloc _))).mono ?_
  rintro e w1 ⟨rfl, hc1⟩
  have k1 := ((Chg.refl [] w).alloc (.cells #[.int .i64 base, .int .u64 b] 29)).trans hc1 (by simp)
  have hm1 := (Blk.new w 29 #[.int .i64 base, .int .u64 b]).chg hc1 (by simp)
  have m0 := (hm1.cell 0).trans rfl
  have m1 := (hm1.cell 1).trans rfl
  have ml := hm1.lt
  clear hc1 H1
  go_wp2_with fail
  refine (H2.out _).mono ?_
  rintro e w2 ⟨rfl, hc2⟩
  have k2 := (k1.alloc (.cells #[.int .i64 v1, .int .u64 v2] 29)).trans hc2 (by simp)
  have hm2 := (hm1.alloc (.cells #[.int .i64 v1, .int .u64 v2] 29)).chg hc2 (by simp)
  have hx2 := (Blk.new w1 29 #[.int .i64 v1, .int .u64 v2]).chg hc2 (by simp)
  clear m0 m1 ml hm1 k1 hc2 H2
  have m0 := (hm2.cell 0).trans rfl
  have m1 := (hm2.cell 1).trans rfl
  have ml := hm2.lt
  go_wp2_with fail
  refine (H3.out _).mono ?_
  rintro e w3 ⟨rfl, hc3⟩
  have k3 := (k2.alloc (.cells #[.int .i64 v1, .int .u64 v2] 29)).trans hc3 (by simp)
  have hm3 := (hm2.alloc (.cells #[.int .i64 v1, .int .u64 v2] 29)).chg hc3 (by simp)
  have hx3 := (hx2.alloc (.cells #[.int .i64 v1, .int .u64 v2] 29)).chg hc3 (by simp)
  have hy3 := (Blk.new w2 29 #[.int .i64 v1, .int .u64 v2]).chg hc3 (by simp)
  clear m0 m1 ml hm2 hx2 k2 hc3 H3
  have m0 := (hm3.cell 0).trans rfl
  have m1 := (hm3.cell 1).trans rfl
  have ml := hm3.lt
  go_wp2_with fail
  refine (H4.out _).mono ?_
  rintro e w4 ⟨rfl, hc4⟩
  have k4 := (k3.alloc (.cells #[.int .i64 v4, .int .u64 v5] 29)).trans hc4 (by simp)
  have hx4 := (hx3.alloc (.cells #[.int .i64 v4, .int .u64 v5] 29)).chg hc4 (by simp)
  have hy4 := (hy3.alloc (.cells #[.int .i64 v4, .int .u64 v5] 29)).chg hc4 (by simp)
  have hu4 := (Blk.new w3 29 #[.int .i64 v4, .int .u64 v5]).chg hc4 (by simp)
  clear m0 m1 ml hm3 hx3 hy3 k3 hc4 H4
  have x0 := (hx4.cell 0).trans rfl
  have x1 := (hx4.cell 1).trans rfl
  have xl := hx4.lt
  have y0 := (hy4.cell 0).trans rfl
  have y1 := (hy4.cell 1).trans rfl
  have yl := hy4.lt
  have u0 := (hu4.cell 0).trans rfl
  have u1 := (hu4.cell 1).trans rfl
  have ul := hu4.lt
  clear hx4 hy4 hu4
  go_wp2_with fail
  go_ret
  exact ⟨rfl, by repeat (first | (with_reducible exact k4) | (with_reducible refine Chg.alloc ?_ _) | (with_reducible refine Chg.drew ?_) | ((with_reducible refine Chg.setCell ?_ ?hp _); case hp => (right; simp)))⟩

end Go.Proofs.YtpohbbmldedmdaaDoor
