/- The arithmetic of sequence numbers and bitmaps in package bitmap: Distance, Before, Has, Next, Valid. -/
import Derived.Test.YtgkhendbpehagaaGen
namespace Go.Proofs.Ytgkhendbpehagaa
open Go.RowKit
set_option linter.unusedVariables false
set_option linter.unusedSimpArgs false

def dst (a b : Int) : Int := (b - a + 65536) % 65536
theorem dst_bd (a b : Int) : 0 ≤ dst a b ∧ dst a b < 65536 := by unfold dst; omega
def seqB (a : Int) : Bool := decide (0 ≤ a ∧ a < 65536)
def befB (a b : Int) : Bool := decide (0 ≤ a ∧ a < 65536 ∧ 0 ≤ b ∧ b < 65536 ∧ 1 ≤ dst a b ∧ dst a b < 32768)
def hasB (base bits seq : Int) : Bool := decide (0 ≤ base ∧ base < 65536 ∧ 0 ≤ seq ∧ seq < 65536 ∧ dst base seq < 64 ∧ bits / 2 ^ (dst base seq).toNat % 2 = 1)

set_option maxHeartbeats 400000 in
theorem dist_ok (a b : Int) (w : World) (h1 : 0 ≤ a) (h2 : a < 65536) (h3 : 0 ≤ b) (h4 : b < 65536) :
    Calls Try.prog 42 #[.int .i64 a, .int .i64 b] w fun e w' => e = .returned (.tuple #[.int .i64 (dst a b), .int .i64 0]) ∧ w = w' := by
  go_enter Try.func42, Try.ntmps42
  go_wp2
  go_ret2
  exact ⟨rfl, rfl⟩

set_option maxHeartbeats 400000 in
theorem dist_bad (a b : Int) (w : World) (h : ¬ (0 ≤ a ∧ a < 65536 ∧ 0 ≤ b ∧ b < 65536)) :
    Calls Try.prog 42 #[.int .i64 a, .int .i64 b] w fun e w' => e = .returned (.tuple #[.int .i64 0, .int .i64 1]) ∧ w = w' := by
  go_enter Try.func42, Try.ntmps42
  go_wp2
  all_goals
    first
      | (go_ret2; exact ⟨rfl, rfl⟩)
      | (exfalso; simp only [Bool.not_eq_false', decide_eq_true_eq] at *; omega)

set_option maxHeartbeats 400000 in
theorem bef_raw (a b : Int) (w : World) :
    Calls Try.prog 29 #[.int .i64 a, .int .i64 b] w fun e w' => e = .returned (.bool (befB a b)) ∧ w = w' := by
  by_cases h : 0 ≤ a ∧ a < 65536 ∧ 0 ≤ b ∧ b < 65536
  · obtain ⟨h1, h2, h3, h4⟩ := h
    have hd := dst_bd a b
    go_enter Try.func29, Try.ntmps29
    go_wp2_with fail
    refine (dist_ok a b _ h1 h2 h3 h4).mono ?_
    rintro e w' ⟨rfl, rfl⟩
    have HB := Lib.hid (show befB a b = decide (1 ≤ dst a b ∧ dst a b < 32768) from by unfold befB; exact decide_eq_decide.2 (by omega))
    generalize dst a b = d at hd HB ⊢
    go_wp2_with fail
    all_goals
      go_ret
      refine ⟨ret_bool ?_, rfl⟩
      rw [HB.out]
      first
        | exact (decide_eq_true (by omega)).symm
        | exact (decide_eq_false (by omega)).symm
        | exact decide_eq_decide.2 (by omega)
  · have HB := Lib.hid (show befB a b = false from by unfold befB; exact decide_eq_false (by omega))
    rw [HB.out]
    go_enter Try.func29, Try.ntmps29
    go_wp2_with fail
    refine (dist_bad a b _ h).mono ?_
    rintro e w' ⟨rfl, rfl⟩
    go_wp2_with fail
    go_ret
    exact ⟨rfl, rfl⟩

set_option maxHeartbeats 400000 in
theorem bvalid_raw (base bits : Int) (w : World) :
    Calls Try.prog 27 #[.agg #[.int .i64 base, .int .u64 bits]] w fun e w' => e = .returned (.bool (seqB base)) ∧ Chg [] w w' := by
  go_enter Try.func27, Try.ntmps27
  go_wp2
  all_goals
    go_ret
    refine ⟨ret_bool ?_, (Chg.refl _ _).alloc _⟩
    unfold seqB
    first
      | exact (decide_eq_true (by omega)).symm
      | exact (decide_eq_false (by omega)).symm
      | exact decide_eq_decide.2 (by omega)

set_option maxHeartbeats 400000 in
theorem next_ok (a n : Int) (w : World) (h1 : 0 ≤ a) (h2 : a < 65536) (h3 : -65536 ≤ n) (h4 : n ≤ 65536) :
    Calls Try.prog 25 #[.int .i64 a, .int .i64 n] w fun e w' => e = .returned (.tuple #[.int .i64 ((a + n + 65536) % 65536), .int .i64 0]) ∧ w = w' := by
  go_enter Try.func25, Try.ntmps25
  go_wp2
  go_ret2
  exact ⟨rfl, rfl⟩

/-- bits >> d & 1 in a walk's words. -/
theorem shr_and (x : Int) (d : Nat) (hx0 : 0 ≤ x) (hx : x < 18446744073709551616) : bits .and .u64 (x / 2 ^ d) 1 = x / 2 ^ d % 2 := by
  obtain ⟨n, rfl⟩ := Int.eq_ofNat_of_zero_le hx0
  have h1 : ((n : Int) / 2 ^ d) = ((n / 2 ^ d : Nat) : Int) := by push_cast; rfl
  have h2 : n / 2 ^ d < 18446744073709551616 := Nat.lt_of_le_of_lt (Nat.div_le_self _ _) (by omega)
  have h3 := u64_and_nat (n / 2 ^ d) 1 h2 (by omega)
  rw [h1]
  rw [show ((1 : Nat) : Int) = 1 from rfl] at h3
  rw [h3, nat_mask1]
  push_cast
  rfl

set_option maxHeartbeats 1000000 in
theorem has_raw (base bits seq : Int) (w : World) (hb0 : 0 ≤ bits) (hb : bits < 18446744073709551616) :
    Calls Try.prog 30 #[.agg #[.int .i64 base, .int .u64 bits], .int .i64 seq] w fun e w' => e = .returned (.bool (hasB base bits seq)) ∧ Chg [] w w' := by
  by_cases h : 0 ≤ base ∧ base < 65536 ∧ 0 ≤ seq ∧ seq < 65536
  · obtain ⟨h1, h2, h3, h4⟩ := h
    have hd := dst_bd base seq
    by_cases h5 : dst base seq < 64
    · have HB := Lib.hid (show hasB base bits seq = decide (bits / 2 ^ (dst base seq).toNat % 2 = 1) from by unfold hasB; exact decide_eq_decide.2 ⟨fun h => h.2.2.2.2.2, fun h => ⟨h1, h2, h3, h4, h5, h⟩⟩)
      have HS := Lib.hid (shr_and bits (dst base seq).toNat hb0 hb)
      go_enter Try.func30, Try.ntmps30
      go_wp2_with fail
      refine (dist_ok base seq _ h1 h2 h3 h4).mono ?_
      rintro e w' ⟨rfl, rfl⟩
      generalize dst base seq = d at hd h5 HS HB ⊢
      go_wp2_with fail
      go_ret
      refine ⟨ret_bool ?_, (Chg.refl _ _).alloc _⟩
      rw [HB.out, HS.out]
      rfl
    · have HB := Lib.hid (show hasB base bits seq = false from by unfold hasB; exact decide_eq_false (fun hh => h5 hh.2.2.2.2.1))
      go_enter Try.func30, Try.ntmps30
      go_wp2_with fail
      refine (dist_ok base seq _ h1 h2 h3 h4).mono ?_
      rintro e w' ⟨rfl, rfl⟩
      generalize dst base seq = d at hd h5 ⊢
      go_wp2_with fail
      go_ret
      exact ⟨ret_bool HB.out.symm, (Chg.refl _ _).alloc _⟩
  · have HB := Lib.hid (show hasB base bits seq = false from by unfold hasB; exact decide_eq_false (fun hh => h ⟨hh.1, hh.2.1, hh.2.2.1, hh.2.2.2.1⟩))
    rw [HB.out]
    go_enter Try.func30, Try.ntmps30
    go_wp2_with fail
    refine (dist_bad base seq _ h).mono ?_
    rintro e w' ⟨rfl, rfl⟩
    go_wp2_with fail
    go_ret
    exact ⟨rfl, (Chg.refl _ _).alloc _⟩

theorem Calls.drewy {P : Program} {f : FuncId} {args : Array Value} {w : World} {v : Value} (h : Calls P f args w fun e w' => e = .returned v ∧ w = w') : Calls P f args w fun e w' => e = .returned v ∧ ∃ m, w' = w.drewN m :=
  h.mono fun _ _ ⟨he, hw⟩ => ⟨he, 0, hw.symm⟩

end Go.Proofs.Ytgkhendbpehagaa
