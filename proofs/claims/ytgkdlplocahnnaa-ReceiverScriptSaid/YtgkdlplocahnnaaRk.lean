/- The receiver: Set of the bitmap, and Distance, Before, Has of its reference. -/
import Derived.Test.YtgkdlplocahnnaaRb
import Derived.Laws.ResultCell
import Derived.BigRegion
namespace Go.Proofs.Ytgkdlplocahnnaa
open Go.RowKit Go.Maps
set_option linter.unusedVariables false
set_option linter.unusedSimpArgs false

def hasB (base bits seq : Int) : Bool := decide (0 ≤ base ∧ base < 65536 ∧ 0 ≤ seq ∧ seq < 65536 ∧ dst base seq < 64 ∧ bits / 2 ^ (dst base seq).toNat % 2 = 1)
theorem shr_and (x : Int) (d : Nat) (hx0 : 0 ≤ x) (hx : x < 18446744073709551616) : bits .and .u64 (x / 2 ^ d) 1 = x / 2 ^ d % 2 := by
  obtain ⟨n, rfl⟩ := Int.eq_ofNat_of_zero_le hx0
  have h1 : ((n : Int) / 2 ^ d) = ((n / 2 ^ d : Nat) : Int) := by push_cast; rfl
  have h2 : n / 2 ^ d < 18446744073709551616 := Nat.lt_of_le_of_lt (Nat.div_le_self _ _) (by omega)
  have h3 := u64_and_nat (n / 2 ^ d) 1 h2 (by omega)
  rw [h1]
  rw [show ((1 : Nat) : Int) = 1 from rfl] at h3
  rw [h3, nat_mask1]
  push_cast
  rfl

def distV (a b : Int) : Int := if 0 ≤ a ∧ a < 65536 ∧ 0 ≤ b ∧ b < 65536 then dst a b else 0
def distE (a b : Int) : Int := if 0 ≤ a ∧ a < 65536 ∧ 0 ≤ b ∧ b < 65536 then 0 else 1
theorem wrap_dst6 (d : Int) (h0 : 0 ≤ d) (h1 : d < 65536) : IntKind.u64.wrap d = d := by rw [IntKind.wrap_u64]; omega

set_option maxHeartbeats 400000 in
theorem rdist (a b : Int) (w : World) : Calls Try.prog 31 #[.int .i64 a, .int .i64 b] w fun e w' => e = .returned (.tuple #[.int .i64 (distV a b), .int .i64 (distE a b)]) ∧ w = w' := by
  by_cases h : 0 ≤ a ∧ a < 65536 ∧ 0 ≤ b ∧ b < 65536
  · have e1 : distV a b = dst a b := if_pos h
    have e2 : distE a b = 0 := if_pos h
    rw [e1, e2]
    obtain ⟨h1, h2, h3, h4⟩ := h
    clear e1 e2
    unfold dst
    go_enter Try.func31, Try.ntmps31
    go_wp2
    go_ret2
    exact ⟨rfl, rfl⟩
  · have e1 : distV a b = 0 := if_neg h
    have e2 : distE a b = 1 := if_neg h
    rw [e1, e2]
    clear e1 e2
    go_enter Try.func31, Try.ntmps31
    go_wp2
    all_goals
      first
        | (go_ret2; exact ⟨rfl, rfl⟩)
        | (exfalso; simp only [Bool.not_eq_false', decide_eq_true_eq] at *; omega)

set_option maxHeartbeats 400000 in
theorem rbef (a b : Int) (w : World) : Calls Try.prog 16 #[.int .i64 a, .int .i64 b] w fun e w' => e = .returned (.bool (befB a b)) ∧ w = w' := by
  by_cases h : 0 ≤ a ∧ a < 65536 ∧ 0 ≤ b ∧ b < 65536
  · have hd := dst_bd a b
    have HB := Lib.hid (show befB a b = decide (1 ≤ dst a b ∧ dst a b < 32768) from by unfold befB; exact decide_eq_decide.2 (by omega))
    have HD := Lib.hid (rdist a b)
    rw [show distV a b = dst a b from if_pos h, show distE a b = 0 from if_pos h] at HD
    clear h
    generalize dst a b = d at hd HB HD
    go_enter Try.func16, Try.ntmps16
    go_wp2_with fail
    refine (HD.out _).mono ?_
    rintro e w' ⟨rfl, rfl⟩
    go_wp2_with fail
    all_goals
      go_ret
      refine ⟨ret_bool ?_, rfl⟩
      rw [HB.out]
      first
        | exact (decide_eq_true (by omega)).symm
        | exact (decide_eq_false (by omega)).symm
        | exact decide_eq_decide.2 (by omega)
  · have HB := Lib.hid (show befB a b = false from by unfold befB; exact decide_eq_false (by omega))
    have HD := Lib.hid (rdist a b)
    rw [show distV a b = 0 from if_neg h, show distE a b = 1 from if_neg h] at HD
    clear h
    go_enter Try.func16, Try.ntmps16
    go_wp2_with fail
    refine (HD.out _).mono ?_
    rintro e w' ⟨rfl, rfl⟩
    go_wp2_with fail
    go_ret
    exact ⟨ret_bool HB.out.symm, rfl⟩

set_option maxHeartbeats 1000000 in
theorem rhas (base b seq : Int) (w : World) (hb0 : 0 ≤ b) (hb : b < 18446744073709551616) :
    Calls Try.prog 17 #[.agg #[.int .i64 base, .int .u64 b], .int .i64 seq] w fun e w' => e = .returned (.bool (hasB base b seq)) ∧ Chg [] w w' := by
  by_cases h : 0 ≤ base ∧ base < 65536 ∧ 0 ≤ seq ∧ seq < 65536
  · have hd := dst_bd base seq
    have HD := Lib.hid (rdist base seq)
    rw [show distV base seq = dst base seq from if_pos h, show distE base seq = 0 from if_pos h] at HD
    by_cases h5 : dst base seq < 64
    · have HB := Lib.hid (show hasB base b seq = decide (b / 2 ^ (dst base seq).toNat % 2 = 1) from by unfold hasB; exact decide_eq_decide.2 ⟨fun h => h.2.2.2.2.2, fun h' => ⟨h.1, h.2.1, h.2.2.1, h.2.2.2, h5, h'⟩⟩)
      have hw := wrap_dst6 (dst base seq) hd.1 hd.2
      have hq : 0 ≤ b / 2 ^ (dst base seq).toNat := Int.ediv_nonneg hb0 (Int.le_of_lt (Int.pow_pos (by decide)))
      clear h
      generalize dst base seq = d at hd HD h5 hw HB hq ⊢
      go_enter Try.func17, Try.ntmps17
      go_wp2_with fail
      refine (HD.out _).mono ?_
      rintro e w' ⟨rfl, rfl⟩
      go_wp2_with fail
      go_ret
      refine ⟨ret_bool ?_, (Chg.refl _ _).alloc _⟩
      rw [HB.out]
      rfl
    · have HB := Lib.hid (show hasB base b seq = false from by unfold hasB; exact decide_eq_false (fun hh => h5 hh.2.2.2.2.1))
      clear h
      generalize dst base seq = d at hd HD h5 ⊢
      go_enter Try.func17, Try.ntmps17
      go_wp2_with fail
      refine (HD.out _).mono ?_
      rintro e w' ⟨rfl, rfl⟩
      go_wp2_with fail
      go_ret
      exact ⟨ret_bool HB.out.symm, (Chg.refl _ _).alloc _⟩
  · have HB := Lib.hid (show hasB base b seq = false from by unfold hasB; exact decide_eq_false (fun hh => h ⟨hh.1, hh.2.1, hh.2.2.1, hh.2.2.2.1⟩))
    have HD := Lib.hid (rdist base seq)
    rw [show distV base seq = 0 from if_neg h, show distE base seq = 1 from if_neg h] at HD
    clear h
    go_enter Try.func17, Try.ntmps17
    go_wp2_with fail
    refine (HD.out _).mono ?_
    rintro e w' ⟨rfl, rfl⟩
    go_wp2_with fail
    go_ret
    exact ⟨ret_bool HB.out.symm, (Chg.refl _ _).alloc _⟩


set_option maxHeartbeats 1000000 in
theorem set_ok (base b seq : Int) (w : World) (h0 : 0 ≤ b) (h1 : b < 18446744073709551616) (h2 : 0 ≤ base) (h3 : base < 65536) (h4 : 0 ≤ seq) (h5 : seq < 65536) (h6 : dst base seq < 64) :
    Calls Try.prog 30 #[.agg #[.int .i64 base, .int .u64 b], .int .i64 seq] w fun e w' => e = .returned (.tuple #[.agg #[.int .i64 base, .int .u64 (bits .or .u64 b (IntKind.u64.wrap (2 ^ (dst base seq).toNat)))], .int .i64 0]) ∧ Chg [] w w' := by
  have hd := dst_bd base seq
  have HD := Lib.hid (fun W => dist_ok base seq W h2 h3 h4 h5)
  have hw := wrap_dst6 (dst base seq) hd.1 hd.2
  generalize dst base seq = d at hd HD h6 hw ⊢
  go_enter Try.func30, Try.ntmps30
  go_wp2_with fail
  refine (HD.out _).mono ?_
  rintro e w1 ⟨rfl, rfl⟩
  go_wp2_with fail
  try go_region
  all_goals
    go_wp2_with fail
    refine bodyPost_ret (v := .tuple #[.agg #[.int .i64 base, .int .u64 (bits .or .u64 b (IntKind.u64.wrap (2 ^ d.toNat)))], .int .i64 0]) (by simp [results, Try.results30, go_sem, *]) rfl ⟨rfl, ?_⟩
    repeat (first | (with_reducible exact Chg.refl _ _) | (with_reducible refine Chg.alloc ?_ _) | (with_reducible refine Chg.drew ?_) | ((with_reducible refine Chg.setCell ?_ ?hp _); case hp => simp))

end Go.Proofs.Ytgkdlplocahnnaa
