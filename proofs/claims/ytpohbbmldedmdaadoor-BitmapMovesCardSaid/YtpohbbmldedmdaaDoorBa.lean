/- Contracts of package bitmap and of its reference: Next, Distance, Before, Inside, Valid, Has, Set, at every argument. -/
import Derived.Test.YtpohbbmldedmdaaDoorBm
import Derived.Laws.ResultCell
namespace Go.Proofs.YtpohbbmldedmdaaDoor
open Go.RowKit
set_option linter.unusedVariables false
set_option linter.unusedSimpArgs false

def distV (a b : Int) : Int := if 0 ≤ a ∧ a < 65536 ∧ 0 ≤ b ∧ b < 65536 then dst a b else 0
def distE (a b : Int) : Int := if 0 ≤ a ∧ a < 65536 ∧ 0 ≤ b ∧ b < 65536 then 0 else 1
def nextV (a n : Int) : Int := if 0 ≤ a ∧ a < 65536 ∧ -65536 ≤ n ∧ n ≤ 65536 then (a + n + 65536) % 65536 else 0
def nextE (a n : Int) : Int := if 0 ≤ a ∧ a < 65536 ∧ -65536 ≤ n ∧ n ≤ 65536 then 0 else 1
def insB (base size seq : Int) : Bool := decide (0 ≤ base ∧ base < 65536 ∧ 0 ≤ seq ∧ seq < 65536 ∧ 1 ≤ size ∧ size ≤ 64 ∧ dst base seq < size)
def setOk (base seq : Int) : Prop := (0 ≤ base ∧ base < 65536 ∧ 0 ≤ seq ∧ seq < 65536) ∧ dst base seq < 64
instance (base seq : Int) : Decidable (setOk base seq) := by unfold setOk; infer_instance
def setM (base seq : Int) : Int := if setOk base seq then base else 0
def setB (base bts seq : Int) : Int := if setOk base seq then bits .or .u64 bts (IntKind.u64.wrap (2 ^ (dst base seq).toNat)) else 0
def setE (base seq : Int) : Int := if 0 ≤ base ∧ base < 65536 ∧ 0 ≤ seq ∧ seq < 65536 then (if dst base seq < 64 then 0 else 2) else 1
theorem ret_tup {k k' : IntKind} {a b a' b' : Int} (h : a = a') (h2 : b = b') : Ending.returned (.tuple #[.int k a, .int k' b]) = .returned (.tuple #[.int k a', .int k' b']) := by rw [h, h2]


set_option maxHeartbeats 400000 in
theorem pdist (a b : Int) (w : World) : Calls Tryd.prog 24 #[.int .i64 a, .int .i64 b] w fun e w' => e = .returned (.tuple #[.int .i64 (distV a b), .int .i64 (distE a b)]) ∧ w = w' := by
  by_cases h : 0 ≤ a ∧ a < 65536 ∧ 0 ≤ b ∧ b < 65536
  · have e1 : distV a b = dst a b := if_pos h
    have e2 : distE a b = 0 := if_pos h
    rw [e1, e2]
    obtain ⟨h1, h2, h3, h4⟩ := h
    clear e1 e2
    unfold dst
    go_enter Tryd.func24, Tryd.ntmps24
    go_wp2
    go_ret2
    exact ⟨rfl, rfl⟩
  · have e1 : distV a b = 0 := if_neg h
    have e2 : distE a b = 1 := if_neg h
    rw [e1, e2]
    clear e1 e2
    go_enter Tryd.func24, Tryd.ntmps24
    go_wp2
    all_goals
      first
        | (go_ret2; exact ⟨rfl, rfl⟩)
        | (exfalso; simp only [Bool.not_eq_false', decide_eq_true_eq] at *; omega)

set_option maxHeartbeats 400000 in
theorem pnext (a n : Int) (w : World) : Calls Tryd.prog 28 #[.int .i64 a, .int .i64 n] w fun e w' => e = .returned (.tuple #[.int .i64 (nextV a n), .int .i64 (nextE a n)]) ∧ w = w' := by
  by_cases h : 0 ≤ a ∧ a < 65536 ∧ -65536 ≤ n ∧ n ≤ 65536
  · have e1 : nextV a n = (a + n + 65536) % 65536 := if_pos h
    have e2 : nextE a n = 0 := if_pos h
    rw [e1, e2]
    obtain ⟨h1, h2, h3, h4⟩ := h
    clear e1 e2
    go_enter Tryd.func28, Tryd.ntmps28
    go_wp2
    go_ret2
    exact ⟨rfl, rfl⟩
  · have e1 : nextV a n = 0 := if_neg h
    have e2 : nextE a n = 1 := if_neg h
    rw [e1, e2]
    clear e1 e2
    go_enter Tryd.func28, Tryd.ntmps28
    go_wp2
    all_goals
      first
        | (go_ret2; exact ⟨rfl, rfl⟩)
        | (exfalso; simp only [Bool.not_eq_false', decide_eq_true_eq] at *; omega)

set_option maxHeartbeats 400000 in
theorem pbef (a b : Int) (w : World) : Calls Tryd.prog 31 #[.int .i64 a, .int .i64 b] w fun e w' => e = .returned (.bool (befB a b)) ∧ w = w' := by
  by_cases h : 0 ≤ a ∧ a < 65536 ∧ 0 ≤ b ∧ b < 65536
  · have hd := dst_bd a b
    have HB := Lib.hid (show befB a b = decide (1 ≤ dst a b ∧ dst a b < 32768) from by unfold befB; exact decide_eq_decide.2 (by omega))
    have HD := Lib.hid (pdist a b)
    rw [show distV a b = dst a b from if_pos h, show distE a b = 0 from if_pos h] at HD
    clear h
    generalize dst a b = d at hd HB HD
    go_enter Tryd.func31, Tryd.ntmps31
    go_wp2_with fail
    refine (HD.out _).mono ?_
    rintro e w' ⟨rfl, rfl⟩
    go_wp2_with fail
    all_goals
      go_ret
      refine ⟨ret_bool ?_, rfl⟩
      rw [HB.out]
      first
        | exact (decide_eq_true (by omega)).symm
        | exact (decide_eq_false (by omega)).symm
        | exact decide_eq_decide.2 (by omega)
  · have HB := Lib.hid (show befB a b = false from by unfold befB; exact decide_eq_false (by omega))
    have HD := Lib.hid (pdist a b)
    rw [show distV a b = 0 from if_neg h, show distE a b = 1 from if_neg h] at HD
    clear h
    go_enter Tryd.func31, Tryd.ntmps31
    go_wp2_with fail
    refine (HD.out _).mono ?_
    rintro e w' ⟨rfl, rfl⟩
    go_wp2_with fail
    go_ret
    exact ⟨ret_bool HB.out.symm, rfl⟩

set_option maxHeartbeats 400000 in
theorem pins (base size seq : Int) (w : World) : Calls Tryd.prog 33 #[.int .i64 base, .int .i64 size, .int .i64 seq] w fun e w' => e = .returned (.bool (insB base size seq)) ∧ w = w' := by
  by_cases h : 0 ≤ base ∧ base < 65536 ∧ 0 ≤ seq ∧ seq < 65536
  · have hd := dst_bd base seq
    have HB := Lib.hid (show insB base size seq = decide (1 ≤ size ∧ size ≤ 64 ∧ dst base seq < size) from by unfold insB; exact decide_eq_decide.2 (by omega))
    have HD := Lib.hid (pdist base seq)
    rw [show distV base seq = dst base seq from if_pos h, show distE base seq = 0 from if_pos h] at HD
    clear h
    generalize dst base seq = d at hd HB HD
    go_enter Tryd.func33, Tryd.ntmps33
    go_wp2_with fail
    refine (HD.out _).mono ?_
    rintro e w' ⟨rfl, rfl⟩
    go_wp2_with fail
    all_goals
      go_ret
      refine ⟨ret_bool ?_, rfl⟩
      rw [HB.out]
      first
        | exact (decide_eq_true (by omega)).symm
        | exact (decide_eq_false (by omega)).symm
        | exact decide_eq_decide.2 (by omega)
  · have HB := Lib.hid (show insB base size seq = false from by unfold insB; exact decide_eq_false (by omega))
    have HD := Lib.hid (pdist base seq)
    rw [show distV base seq = 0 from if_neg h, show distE base seq = 1 from if_neg h] at HD
    clear h
    go_enter Tryd.func33, Tryd.ntmps33
    go_wp2_with fail
    refine (HD.out _).mono ?_
    rintro e w' ⟨rfl, rfl⟩
    go_wp2_with fail
    go_ret
    exact ⟨ret_bool HB.out.symm, rfl⟩

set_option maxHeartbeats 400000 in
theorem pval (base bts : Int) (w : World) :
    Calls Tryd.prog 26 #[.agg #[.int .i64 base, .int .u64 bts]] w fun e w' => e = .returned (.bool (seqB base)) ∧ Chg [] w w' := by
  go_enter Tryd.func26, Tryd.ntmps26
  go_wp2
  all_goals
    go_ret
    refine ⟨ret_bool ?_, (Chg.refl _ _).alloc _⟩
    unfold seqB
    first
      | exact (decide_eq_true (by omega)).symm
      | exact (decide_eq_false (by omega)).symm
      | exact decide_eq_decide.2 (by omega)

set_option maxHeartbeats 400000 in
theorem rdist (a b : Int) (w : World) : Calls Tryd.prog 30 #[.int .i64 a, .int .i64 b] w fun e w' => e = .returned (.tuple #[.int .i64 (distV a b), .int .i64 (distE a b)]) ∧ w = w' := by
  by_cases h : 0 ≤ a ∧ a < 65536 ∧ 0 ≤ b ∧ b < 65536
  · have e1 : distV a b = dst a b := if_pos h
    have e2 : distE a b = 0 := if_pos h
    rw [e1, e2]
    obtain ⟨h1, h2, h3, h4⟩ := h
    clear e1 e2
    unfold dst
    go_enter Tryd.func30, Tryd.ntmps30
    go_wp2
    go_ret2
    exact ⟨rfl, rfl⟩
  · have e1 : distV a b = 0 := if_neg h
    have e2 : distE a b = 1 := if_neg h
    rw [e1, e2]
    clear e1 e2
    go_enter Tryd.func30, Tryd.ntmps30
    go_wp2
    all_goals
      first
        | (go_ret2; exact ⟨rfl, rfl⟩)
        | (exfalso; simp only [Bool.not_eq_false', decide_eq_true_eq] at *; omega)

set_option maxHeartbeats 400000 in
theorem rnext (a n : Int) (w : World) : Calls Tryd.prog 29 #[.int .i64 a, .int .i64 n] w fun e w' => e = .returned (.tuple #[.int .i64 (nextV a n), .int .i64 (nextE a n)]) ∧ w = w' := by
  by_cases h : 0 ≤ a ∧ a < 65536 ∧ -65536 ≤ n ∧ n ≤ 65536
  · have e1 : nextV a n = (a + n + 65536) % 65536 := if_pos h
    have e2 : nextE a n = 0 := if_pos h
    rw [e1, e2]
    obtain ⟨h1, h2, h3, h4⟩ := h
    clear e1 e2
    go_enter Tryd.func29, Tryd.ntmps29
    go_wp2
    go_ret2
    exact ⟨rfl, rfl⟩
  · have e1 : nextV a n = 0 := if_neg h
    have e2 : nextE a n = 1 := if_neg h
    rw [e1, e2]
    clear e1 e2
    go_enter Tryd.func29, Tryd.ntmps29
    go_wp2
    all_goals
      first
        | (go_ret2; exact ⟨rfl, rfl⟩)
        | (exfalso; simp only [Bool.not_eq_false', decide_eq_true_eq] at *; omega)

set_option maxHeartbeats 400000 in
theorem rbef (a b : Int) (w : World) : Calls Tryd.prog 32 #[.int .i64 a, .int .i64 b] w fun e w' => e = .returned (.bool (befB a b)) ∧ w = w' := by
  by_cases h : 0 ≤ a ∧ a < 65536 ∧ 0 ≤ b ∧ b < 65536
  · have hd := dst_bd a b
    have HB := Lib.hid (show befB a b = decide (1 ≤ dst a b ∧ dst a b < 32768) from by unfold befB; exact decide_eq_decide.2 (by omega))
    have HD := Lib.hid (rdist a b)
    rw [show distV a b = dst a b from if_pos h, show distE a b = 0 from if_pos h] at HD
    clear h
    generalize dst a b = d at hd HB HD
    go_enter Tryd.func32, Tryd.ntmps32
    go_wp2_with fail
    refine (HD.out _).mono ?_
    rintro e w' ⟨rfl, rfl⟩
    go_wp2_with fail
    all_goals
      go_ret
      refine ⟨ret_bool ?_, rfl⟩
      rw [HB.out]
      first
        | exact (decide_eq_true (by omega)).symm
        | exact (decide_eq_false (by omega)).symm
        | exact decide_eq_decide.2 (by omega)
  · have HB := Lib.hid (show befB a b = false from by unfold befB; exact decide_eq_false (by omega))
    have HD := Lib.hid (rdist a b)
    rw [show distV a b = 0 from if_neg h, show distE a b = 1 from if_neg h] at HD
    clear h
    go_enter Tryd.func32, Tryd.ntmps32
    go_wp2_with fail
    refine (HD.out _).mono ?_
    rintro e w' ⟨rfl, rfl⟩
    go_wp2_with fail
    go_ret
    exact ⟨ret_bool HB.out.symm, rfl⟩

set_option maxHeartbeats 400000 in
theorem rins (base size seq : Int) (w : World) : Calls Tryd.prog 34 #[.int .i64 base, .int .i64 size, .int .i64 seq] w fun e w' => e = .returned (.bool (insB base size seq)) ∧ w = w' := by
  by_cases h : 0 ≤ base ∧ base < 65536 ∧ 0 ≤ seq ∧ seq < 65536
  · have hd := dst_bd base seq
    have HB := Lib.hid (show insB base size seq = decide (1 ≤ size ∧ size ≤ 64 ∧ dst base seq < size) from by unfold insB; exact decide_eq_decide.2 (by omega))
    have HD := Lib.hid (rdist base seq)
    rw [show distV base seq = dst base seq from if_pos h, show distE base seq = 0 from if_pos h] at HD
    clear h
    generalize dst base seq = d at hd HB HD
    go_enter Tryd.func34, Tryd.ntmps34
    go_wp2_with fail
    refine (HD.out _).mono ?_
    rintro e w' ⟨rfl, rfl⟩
    go_wp2_with fail
    all_goals
      go_ret
      refine ⟨ret_bool ?_, rfl⟩
      rw [HB.out]
      first
        | exact (decide_eq_true (by omega)).symm
        | exact (decide_eq_false (by omega)).symm
        | exact decide_eq_decide.2 (by omega)
  · have HB := Lib.hid (show insB base size seq = false from by unfold insB; exact decide_eq_false (by omega))
    have HD := Lib.hid (rdist base seq)
    rw [show distV base seq = 0 from if_neg h, show distE base seq = 1 from if_neg h] at HD
    clear h
    go_enter Tryd.func34, Tryd.ntmps34
    go_wp2_with fail
    refine (HD.out _).mono ?_
    rintro e w' ⟨rfl, rfl⟩
    go_wp2_with fail
    go_ret
    exact ⟨ret_bool HB.out.symm, rfl⟩

set_option maxHeartbeats 400000 in
theorem rval (base bts : Int) (w : World) :
    Calls Tryd.prog 37 #[.agg #[.int .i64 base, .int .u64 bts]] w fun e w' => e = .returned (.bool (seqB base)) ∧ Chg [] w w' := by
  go_enter Tryd.func37, Tryd.ntmps37
  go_wp2
  all_goals
    go_ret
    refine ⟨ret_bool ?_, (Chg.refl _ _).alloc _⟩
    unfold seqB
    first
      | exact (decide_eq_true (by omega)).symm
      | exact (decide_eq_false (by omega)).symm
      | exact decide_eq_decide.2 (by omega)

end Go.Proofs.YtpohbbmldedmdaaDoor
