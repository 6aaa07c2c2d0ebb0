/- Set and Has of package bitmap and of its reference. -/
import Derived.Test.YtpohbbmldedmdaaDoorBt
namespace Go.Proofs.YtpohbbmldedmdaaDoor
open Go.RowKit
set_option linter.unusedVariables false
set_option linter.unusedSimpArgs false

theorem wrap_small (d : Int) (h0 : 0 ≤ d) (h1 : d < 65536) : IntKind.u64.wrap d = d := by rw [IntKind.wrap_u64]; omega

set_option maxHeartbeats 1000000 in
theorem pset (base b seq : Int) (w : World) (h0 : 0 ≤ b) (h1 : b < 18446744073709551616) :
    Calls Tryd.prog 35 #[.agg #[.int .i64 base, .int .u64 b], .int .i64 seq] w fun e w' => e = .returned (.tuple #[.agg #[.int .i64 (setM base seq), .int .u64 (setB base b seq)], .int .i64 (setE base seq)]) ∧ Chg [] w w' := by
  by_cases h : 0 ≤ base ∧ base < 65536 ∧ 0 ≤ seq ∧ seq < 65536
  · have hd := dst_bd base seq
    have HD := Lib.hid (pdist base seq)
    rw [show distV base seq = dst base seq from if_pos h, show distE base seq = 0 from if_pos h] at HD
    by_cases h2 : dst base seq < 64
    · have ho : setOk base seq := ⟨h, h2⟩
      rw [show setM base seq = base from if_pos ho, show setB base b seq = bits .or .u64 b (IntKind.u64.wrap (2 ^ (dst base seq).toNat)) from if_pos ho, show setE base seq = 0 from by unfold setE; rw [if_pos h, if_pos h2]]
      clear h ho
      have hw := wrap_small (dst base seq) hd.1 hd.2
      generalize dst base seq = d at hd HD h2 hw ⊢
      go_enter Tryd.func35, Tryd.ntmps35
      go_wp2_with fail
      refine (HD.out _).mono ?_
      rintro e w1 ⟨rfl, rfl⟩
      go_wp2_with fail
      try go_region
      all_goals
        go_wp2_with fail
        refine bodyPost_ret (v := .tuple #[.agg #[.int .i64 base, .int .u64 (bits .or .u64 b (IntKind.u64.wrap (2 ^ d.toNat)))], .int .i64 0]) (by simp [results, Tryd.results35, go_sem, *]) rfl ⟨rfl, ?_⟩
        repeat (first | (with_reducible exact Chg.refl _ _) | (with_reducible refine Chg.alloc ?_ _) | (with_reducible refine Chg.drew ?_) | ((with_reducible refine Chg.setCell ?_ ?hp _); case hp => simp))
    · have ho : ¬ setOk base seq := fun hh => h2 hh.2
      rw [show setM base seq = 0 from if_neg ho, show setB base b seq = 0 from if_neg ho, show setE base seq = 2 from by unfold setE; rw [if_pos h, if_neg h2]]
      clear h ho
      generalize dst base seq = d at hd HD h2 ⊢
      go_enter Tryd.func35, Tryd.ntmps35
      go_wp2_with fail
      refine (HD.out _).mono ?_
      rintro e w1 ⟨rfl, rfl⟩
      go_wp2_with fail
      refine bodyPost_ret (v := .tuple #[.agg #[.int .i64 0, .int .u64 0], .int .i64 2]) (by simp [results, Tryd.results35, go_sem, *]) rfl ⟨rfl, ?_⟩
      repeat (first | (with_reducible exact Chg.refl _ _) | (with_reducible refine Chg.alloc ?_ _) | (with_reducible refine Chg.drew ?_) | ((with_reducible refine Chg.setCell ?_ ?hp _); case hp => simp))
  · have ho : ¬ setOk base seq := fun hh => h hh.1
    have HD := Lib.hid (pdist base seq)
    rw [show distV base seq = 0 from if_neg h, show distE base seq = 1 from if_neg h] at HD
    rw [show setM base seq = 0 from if_neg ho, show setB base b seq = 0 from if_neg ho, show setE base seq = 1 from by unfold setE; rw [if_neg h]]
    clear h ho
    go_enter Tryd.func35, Tryd.ntmps35
    go_wp2_with fail
    refine (HD.out _).mono ?_
    rintro e w1 ⟨rfl, rfl⟩
    go_wp2_with fail
    refine bodyPost_ret (v := .tuple #[.agg #[.int .i64 0, .int .u64 0], .int .i64 1]) (by simp [results, Tryd.results35, go_sem, *]) rfl ⟨rfl, ?_⟩
    repeat (first | (with_reducible exact Chg.refl _ _) | (with_reducible refine Chg.alloc ?_ _) | (with_reducible refine Chg.drew ?_) | ((with_reducible refine Chg.setCell ?_ ?hp _); case hp => simp))

set_option maxHeartbeats 1000000 in
theorem rset (base b seq : Int) (w : World) (h0 : 0 ≤ b) (h1 : b < 18446744073709551616) :
    Calls Tryd.prog 36 #[.agg #[.int .i64 base, .int .u64 b], .int .i64 seq] w fun e w' => e = .returned (.tuple #[.agg #[.int .i64 (setM base seq), .int .u64 (setB base b seq)], .int .i64 (setE base seq)]) ∧ Chg [] w w' := by
  by_cases h : 0 ≤ base ∧ base < 65536 ∧ 0 ≤ seq ∧ seq < 65536
  · have hd := dst_bd base seq
    have HD := Lib.hid (rdist base seq)
    rw [show distV base seq = dst base seq from if_pos h, show distE base seq = 0 from if_pos h] at HD
    by_cases h2 : dst base seq < 64
    · have ho : setOk base seq := ⟨h, h2⟩
      rw [show setM base seq = base from if_pos ho, show setB base b seq = bits .or .u64 b (IntKind.u64.wrap (2 ^ (dst base seq).toNat)) from if_pos ho, show setE base seq = 0 from by unfold setE; rw [if_pos h, if_pos h2]]
      clear h ho
      have hw := wrap_small (dst base seq) hd.1 hd.2
      generalize dst base seq = d at hd HD h2 hw ⊢
      go_enter Tryd.func36, Tryd.ntmps36
      go_wp2_with fail
      refine (HD.out _).mono ?_
      rintro e w1 ⟨rfl, rfl⟩
      go_wp2_with fail
      try go_region
      all_goals
        go_wp2_with fail
        refine bodyPost_ret (v := .tuple #[.agg #[.int .i64 base, .int .u64 (bits .or .u64 b (IntKind.u64.wrap (2 ^ d.toNat)))], .int .i64 0]) (by simp [results, Tryd.results36, go_sem, *]) rfl ⟨rfl, ?_⟩
        repeat (first | (with_reducible exact Chg.refl _ _) | (with_reducible refine Chg.alloc ?_ _) | (with_reducible refine Chg.drew ?_) | ((with_reducible refine Chg.setCell ?_ ?hp _); case hp => simp))
    · have ho : ¬ setOk base seq := fun hh => h2 hh.2
      rw [show setM base seq = 0 from if_neg ho, show setB base b seq = 0 from if_neg ho, show setE base seq = 2 from by unfold setE; rw [if_pos h, if_neg h2]]
      clear h ho
      generalize dst base seq = d at hd HD h2 ⊢
      go_enter Tryd.func36, Tryd.ntmps36
      go_wp2_with fail
      refine (HD.out _).mono ?_
      rintro e w1 ⟨rfl, rfl⟩
      go_wp2_with fail
      refine bodyPost_ret (v := .tuple #[.agg #[.int .i64 0, .int .u64 0], .int .i64 2]) (by simp [results, Tryd.results36, go_sem, *]) rfl ⟨rfl, ?_⟩
      repeat (first | (with_reducible exact Chg.refl _ _) | (with_reducible refine Chg.alloc ?_ _) | (with_reducible refine Chg.drew ?_) | ((with_reducible refine Chg.setCell ?_ ?hp _); case hp => simp))
  · have ho : ¬ setOk base seq := fun hh => h hh.1
    have HD := Lib.hid (rdist base seq)
    rw [show distV base seq = 0 from if_neg h, show distE base seq = 1 from if_neg h] at HD
    rw [show setM base seq = 0 from if_neg ho, show setB base b seq = 0 from if_neg ho, show setE base seq = 1 from by unfold setE; rw [if_neg h]]
    clear h ho
    go_enter Tryd.func36, Tryd.ntmps36
    go_wp2_with fail
    refine (HD.out _).mono ?_
    rintro e w1 ⟨rfl, rfl⟩
    go_wp2_with fail
    refine bodyPost_ret (v := .tuple #[.agg #[.int .i64 0, .int .u64 0], .int .i64 1]) (by simp [results, Tryd.results36, go_sem, *]) rfl ⟨rfl, ?_⟩
    repeat (first | (with_reducible exact Chg.refl _ _) | (with_reducible refine Chg.alloc ?_ _) | (with_reducible refine Chg.drew ?_) | ((with_reducible refine Chg.setCell ?_ ?hp _); case hp => simp))

set_option maxHeartbeats 1000000 in
theorem rhas (base b seq : Int) (w : World) (hb0 : 0 ≤ b) (hb : b < 18446744073709551616) :
    Calls Tryd.prog 38 #[.agg #[.int .i64 base, .int .u64 b], .int .i64 seq] w fun e w' => e = .returned (.bool (hasB base b seq)) ∧ Chg [] w w' := by
  by_cases h : 0 ≤ base ∧ base < 65536 ∧ 0 ≤ seq ∧ seq < 65536
  · have hd := dst_bd base seq
    have HD := Lib.hid (rdist base seq)
    rw [show distV base seq = dst base seq from if_pos h, show distE base seq = 0 from if_pos h] at HD
    by_cases h5 : dst base seq < 64
    · have HB := Lib.hid (show hasB base b seq = decide (b / 2 ^ (dst base seq).toNat % 2 = 1) from by unfold hasB; exact decide_eq_decide.2 ⟨fun h => h.2.2.2.2.2, fun h' => ⟨h.1, h.2.1, h.2.2.1, h.2.2.2, h5, h'⟩⟩)
      have hw := wrap_small (dst base seq) hd.1 hd.2
      have hq : 0 ≤ b / 2 ^ (dst base seq).toNat := Int.ediv_nonneg hb0 (Int.le_of_lt (Int.pow_pos (by decide)))
      clear h
      generalize dst base seq = d at hd HD h5 hw HB hq ⊢
      go_enter Tryd.func38, Tryd.ntmps38
      go_wp2_with fail
      refine (HD.out _).mono ?_
      rintro e w' ⟨rfl, rfl⟩
      go_wp2_with fail
      go_ret
      refine ⟨ret_bool ?_, (Chg.refl _ _).alloc _⟩
      rw [HB.out]
      rfl
    · have HB := Lib.hid (show hasB base b seq = false from by unfold hasB; exact decide_eq_false (fun hh => h5 hh.2.2.2.2.1))
      clear h
      generalize dst base seq = d at hd HD h5 ⊢
      go_enter Tryd.func38, Tryd.ntmps38
      go_wp2_with fail
      refine (HD.out _).mono ?_
      rintro e w' ⟨rfl, rfl⟩
      go_wp2_with fail
      go_ret
      exact ⟨ret_bool HB.out.symm, (Chg.refl _ _).alloc _⟩
  · have HB := Lib.hid (show hasB base b seq = false from by unfold hasB; exact decide_eq_false (fun hh => h ⟨hh.1, hh.2.1, hh.2.2.1, hh.2.2.2.1⟩))
    have HD := Lib.hid (rdist base seq)
    rw [show distV base seq = 0 from if_neg h, show distE base seq = 1 from if_neg h] at HD
    clear h
    go_enter Tryd.func38, Tryd.ntmps38
    go_wp2_with fail
    refine (HD.out _).mono ?_
    rintro e w' ⟨rfl, rfl⟩
    go_wp2_with fail
    go_ret
    exact ⟨ret_bool HB.out.symm, (Chg.refl _ _).alloc _⟩

end Go.Proofs.YtpohbbmldedmdaaDoor
