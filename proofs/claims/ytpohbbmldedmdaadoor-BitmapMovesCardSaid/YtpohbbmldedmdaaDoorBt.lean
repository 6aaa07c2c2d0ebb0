/- math/bits.TrailingZeros64 over its table; Advance of package bitmap; the sanity check (awake). -/
import Derived.Test.YtpohbbmldedmdaaDoorBa
import Derived.Shelf.Spec.TrailingZeros
import Derived.Laws.StructEq
namespace Go.Proofs.YtpohbbmldedmdaaDoor
open Go.RowKit
set_option linter.unusedVariables false
set_option linter.unusedSimpArgs false

/-- The table of the library, in its variable. -/
def Tb (w : World) : Prop := TabAt 0 Lib.deBruijn64tab w
theorem Tb.chg {w w' : World} (h : Tb w) (hc : Chg [] w w') : Tb w' := fun j hj => by
  have h1 := h j hj
  exact (hc.cell (p := ⟨0, j, none⟩) (block_lt_of_cell h1) (by simp)).trans h1

set_option maxHeartbeats 1000000 in
theorem tz_core (x k idx : Nat) (w : World) (hx0 : ((x : Int) == 0) = false)
    (key : IntKind.u64.wrap (bits BinOp.and IntKind.u64 (x : Int) (IntKind.u64.wrap (-(x : Int))) * 285870213051353865) / 288230376151711744 = (idx : Int))
    (hi : idx < 64) (hk : k < 64) (hcell : w.cell? ⟨0, idx, none⟩ = some (.int .u8 k)) :
    Calls Tryd.prog 27 #[.int .u64 x] w fun e w' => e = .returned (.int .i64 k) ∧ w = w' := by
  go_enter Tryd.func27, Tryd.ntmps27
  go_wp2_with (simp only [key])
  go_ret
  exact ⟨rfl, rfl⟩
set_option maxHeartbeats 1000000 in
theorem tz_zero (w : World) :
    Calls Tryd.prog 27 #[.int .u64 0] w fun e w' => e = .returned (.int .i64 64) ∧ w = w' := by
  go_enter Tryd.func27, Tryd.ntmps27
  go_wp2
  go_ret
  exact ⟨rfl, rfl⟩

theorem tz (x : Nat) (hx : x < 18446744073709551616) (w : World) (hT : Tb w) :
    Calls Tryd.prog 27 #[.int .u64 x] w fun e w' => e = .returned (.int .i64 (Lib.ctz 64 x)) ∧ w = w' := by
  by_cases hx0 : x = 0
  · subst hx0
    exact tz_zero w
  · obtain ⟨hlow, hk⟩ := Lib.lowest_bit 64 x hx0 hx
    obtain ⟨hi, htab⟩ := Lib.deBruijn64_at _ hk
    have hcell := hT _ hi
    rw [htab] at hcell
    exact tz_core x _ _ w (by simp; omega) (tz64_key x _ hx hx0 hlow) hi hk hcell

/-- How many bits are set at the beginning. -/
def ones (b : Int) : Nat := Lib.ctz 64 (18446744073709551615 - b).toNat

theorem ones_spec (b : Nat) (hb : b < 18446744073709551616) : ones b ≤ 64 ∧ (∀ j, j < ones b → b / 2 ^ j % 2 = 1) ∧ b / 2 ^ ones b % 2 = 0 := by
  unfold ones
  have e : (18446744073709551615 - (b : Int)).toNat = 18446744073709551615 - b := by omega
  rw [e]
  by_cases h0 : 18446744073709551615 - b = 0
  · have hb' : b = 18446744073709551615 := by omega
    subst hb'
    have h1 : Lib.ctz 64 (18446744073709551615 - 18446744073709551615) = 64 := by rw [h0]; rfl
    rw [h1]
    refine ⟨Nat.le_refl _, ?_, by decide⟩
    decide
  · obtain ⟨m, hm, hk⟩ := Lib.ctzFrom_spec 64 (18446744073709551615 - b) (by omega) (by omega)
    have e2 : Lib.ctz 64 (18446744073709551615 - b) = Lib.ctzFrom 64 (18446744073709551615 - b) := by simp [Lib.ctz, h0]
    rw [e2]
    generalize Lib.ctzFrom 64 (18446744073709551615 - b) = k at hm hk
    have hp : 2 ^ 64 = 2 ^ (64 - k) * 2 ^ k := by rw [← Nat.pow_add]; congr 1; omega
    have hlt : 2 * m + 1 < 2 ^ (64 - k) := by
      have h1 : 2 ^ k * (2 * m + 1) < 2 ^ k * 2 ^ (64 - k) := by rw [Nat.mul_comm (2 ^ k) (2 ^ (64 - k)), ← hp]; omega
      exact Nat.lt_of_mul_lt_mul_left h1
    have hk0 : 0 < 2 ^ k := Nat.two_pow_pos k
    -- b = 2^k - 1 + 2^k * c, c even
    obtain ⟨c, hc⟩ : ∃ c, 2 ^ (64 - k) = 2 * m + 2 + 2 * c := by
      have h64 : 64 - k = (63 - k) + 1 := by omega
      rw [h64, Nat.pow_succ] at hlt ⊢
      exact ⟨2 ^ (63 - k) - m - 1, by omega⟩
    have hb2 : b = 2 ^ k * (2 * c) + (2 ^ k - 1) := by
      rw [hc] at hp
      have h3 : (2 * m + 2 + 2 * c) * 2 ^ k = 2 ^ k * (2 * m + 1) + 2 ^ k + 2 ^ k * (2 * c) := by
        rw [Nat.mul_comm, show 2 * m + 2 + 2 * c = (2 * m + 1) + 1 + 2 * c from by omega, Nat.mul_add, Nat.mul_add, Nat.mul_one]
      rw [h3] at hp
      omega
    refine ⟨by omega, fun j hj => ?_, ?_⟩
    · obtain ⟨d, rfl⟩ : ∃ d, k = j + (d + 1) := ⟨k - j - 1, by omega⟩
      have h4 : b = 2 ^ j * (2 * (2 ^ d * (2 * c) + (2 ^ d - 1)) + 1) + (2 ^ j - 1) := by
        have hd0 : 0 < 2 ^ d := Nat.two_pow_pos d
        have hj0 : 0 < 2 ^ j := Nat.two_pow_pos j
        have e5 : 2 ^ (j + (d + 1)) = 2 ^ j * (2 ^ d * 2) := by rw [Nat.pow_add, Nat.pow_succ]
        rw [e5] at hb2
        have e6 : 2 * (2 ^ d * (2 * c) + (2 ^ d - 1)) + 1 = 2 ^ d * 2 * (2 * c) + (2 ^ d * 2 - 1) := by
          have : 2 ^ d * 2 * (2 * c) = 2 * (2 ^ d * (2 * c)) := by rw [Nat.mul_comm (2 ^ d) 2, Nat.mul_assoc]
          omega
        rw [e6, Nat.mul_add, ← Nat.mul_assoc, hb2]
        have e7 : 2 ^ j * (2 ^ d * 2 - 1) = 2 ^ j * (2 ^ d * 2) - 2 ^ j := by rw [Nat.mul_sub, Nat.mul_one]
        have e8 : 2 ^ j ≤ 2 ^ j * (2 ^ d * 2) := Nat.le_mul_of_pos_right _ (by omega)
        rw [e7]
        omega
      have h5 : b / 2 ^ j = 2 * (2 ^ d * (2 * c) + (2 ^ d - 1)) + 1 := by
        rw [h4, Nat.mul_add_div (Nat.two_pow_pos j), Nat.div_eq_of_lt (by have := Nat.two_pow_pos j; omega), Nat.add_zero]
      rw [h5]
      omega
    · have h5 : b / 2 ^ k = 2 * c := by
        rw [hb2, Nat.mul_add_div hk0, Nat.div_eq_of_lt (by omega)]
        omega
      rw [h5]
      omega

/-- A shift by any count. -/
def shr (b n : Int) : Int := b / 2 ^ min n.toNat 64

set_option maxHeartbeats 1000000 in
theorem pmov (base b n : Int) (w : World) (ha : 0 ≤ base) (hb : base < 65536) (hn : 0 ≤ n) (hn2 : n ≤ 40000) (h0 : 0 ≤ b) (h1 : b < 18446744073709551616) :
    Calls Tryd.prog 25 #[.agg #[.int .i64 base, .int .u64 b], .int .i64 n] w fun e w' => e = .returned (.agg #[.int .i64 ((base + n) % 65536), .int .u64 (shr b n)]) ∧ Chg [] w w' := by
  unfold shr
  go_enter Tryd.func25, Tryd.ntmps25
  go_wp2_with fail
  go_region
  all_goals
    go_wp2_with fail
    refine bodyPost_ret (v := .agg #[.int .i64 ((base + n) % 65536), .int .u64 (b / 2 ^ min n.toNat 64)]) (by simp [results, Tryd.results25, go_sem]) rfl ⟨rfl, ?_⟩
    repeat (first | (with_reducible exact Chg.refl _ _) | (with_reducible refine Chg.alloc ?_ _) | (with_reducible refine Chg.drew ?_) | ((with_reducible refine Chg.setCell ?_ ?hp _); case hp => simp))

theorem not_u64 (b : Int) (h0 : 0 ≤ b) (h1 : b < 18446744073709551616) : bits BinOp.xor IntKind.u64 IntKind.u64.max b = 18446744073709551615 - b := by
  obtain ⟨n, rfl⟩ := Int.eq_ofNat_of_zero_le h0
  have hm : IntKind.u64.max = ((18446744073709551615 : Nat) : Int) := by decide
  rw [hm, bits_xor_u64_nat _ _ (by omega) (by omega)]
  have h2 : 18446744073709551615 ^^^ n = 18446744073709551615 - n := by
    apply Nat.eq_of_testBit_eq
    intro i
    have e1 : 18446744073709551615 = 2 ^ 64 - 1 := by decide
    have e2 : 18446744073709551615 - n = 2 ^ 64 - (n + 1) := by omega
    rw [e2, Nat.testBit_two_pow_sub_succ (by omega), Nat.testBit_xor, e1, Nat.testBit_two_pow_sub_one]
    by_cases hi : i < 64
    · simp [hi]
    · have : n.testBit i = false := Nat.testBit_lt_two_pow (Nat.lt_of_lt_of_le (show n < 2 ^ 64 by omega) (Nat.pow_le_pow_right (by decide) (by omega)))
      simp [hi, this]
  rw [h2]
  omega

/-- What Advance gives. -/
def advM (base b : Int) : Int := if 0 ≤ base ∧ base < 65536 then (base + ones b) % 65536 else 0
def advB (base b : Int) : Int := if 0 ≤ base ∧ base < 65536 then b / 2 ^ ones b else 0
def advN (base b : Int) : Int := if 0 ≤ base ∧ base < 65536 then ones b else 0

set_option maxHeartbeats 1000000 in
theorem padv (base b : Int) (w : World) (hT : Tb w) (h0 : 0 ≤ b) (h1 : b < 18446744073709551616) :
    Calls Tryd.prog 15 #[.agg #[.int .i64 base, .int .u64 b]] w fun e w' => e = .returned (.tuple #[.agg #[.int .i64 (advM base b), .int .u64 (advB base b)], .int .i64 (advN base b)]) ∧ Chg [] w w' := by
  by_cases h : 0 ≤ base ∧ base < 65536
  · rw [show advM base b = (base + ones b) % 65536 from if_pos h, show advB base b = b / 2 ^ ones b from if_pos h, show advN base b = ones b from if_pos h]
    have HV := Lib.hid (fun W => pval base b W)
    rw [show seqB base = true from decide_eq_true h] at HV
    have HT := Lib.hid (fun W (hW : Chg [] w W) => tz (18446744073709551615 - b).toNat (by omega) W (hT.chg hW))
    have ho : ones b ≤ 64 := by
      have := (ones_spec b.toNat (by omega)).1
      rwa [show ((b.toNat : Nat) : Int) = b from by omega] at this
    change Hid (∀ W (hW : Chg [] w W), Calls _ _ _ W fun e w' => e = .returned (.int .i64 (ones b : Nat)) ∧ W = w') at HT
    rw [show (((18446744073709551615 - b).toNat : Nat) : Int) = 18446744073709551615 - b from by omega, ← not_u64 b h0 h1] at HT
    generalize ones b = n at HT ho ⊢
    obtain ⟨ha, hb⟩ := h
    go_enter Tryd.func15, Tryd.ntmps15
    go_wp2_with fail
    refine (HV.out _).mono ?_
    rintro e w1 ⟨rfl, hc1⟩
    have k1 : Chg [] w w1 := ((((Chg.refl [] w).alloc (.cells #[.int .i64 base, .int .u64 b] 29))).alloc (.cells #[.int .i64 0, .int .u64 0] 29)).trans hc1 (by simp)
    have hm := ((Blk.new w 29 #[.int .i64 base, .int .u64 b]).alloc (.cells #[.int .i64 0, .int .u64 0] 29)).chg hc1 (by simp)
    have hr := (Blk.new (w.alloc (.cells #[.int .i64 base, .int .u64 b] 29)) 29 #[.int .i64 0, .int .u64 0]).chg hc1 (by simp)
    have m0 := (hm.cell 0).trans rfl
    have m1 := (hm.cell 1).trans rfl
    have r0 := (hr.cell 0).trans rfl
    have r1 := (hr.cell 1).trans rfl
    have f0 := hr.frozen 0
    have f1 := hr.frozen 1
    have hml := hm.lt
    have hrl := hr.lt
    simp only [World.size_alloc] at r0 r1 f0 f1 hrl
    go_wp2_with fail
    refine (HT.out _ k1).mono ?_
    rintro e w2 ⟨rfl, rfl⟩
    go_wp2_with fail
    refine (pmov base b n _ ha hb (by omega) (by omega) h0 h1).mono ?_
    rintro e w3 ⟨rfl, hc3⟩
    have k3 := k1.trans hc3 (by simp)
    have hr3 := hr.chg hc3 (by simp)
    have s0 := (hr3.cell 0).trans rfl
    have s1 := (hr3.cell 1).trans rfl
    have e0 := hr3.frozen 0
    have e1 := hr3.frozen 1
    have hrl3 := hr3.lt
    simp only [World.size_alloc] at s0 s1 e0 e1 hrl3
    rw [show shr b (n : Int) = b / 2 ^ n from by unfold shr; rw [show min ((n : Int)).toNat 64 = n from by omega]]
    clear m0 m1 r0 r1 f0 f1 hml hrl hm hr hr3 hc1 hc3 k1
    go_wp2_with fail
    try go_region
    all_goals
      go_wp2_with fail
      refine bodyPost_ret (v := .tuple #[.agg #[.int .i64 ((base + n) % 65536), .int .u64 (b / 2 ^ n)], .int .i64 n]) (by simp [results, Tryd.results15, go_sem, *]) rfl ⟨rfl, ?_⟩
      repeat (first | (with_reducible exact k3) | (with_reducible refine Chg.alloc ?_ _) | (with_reducible refine Chg.drew ?_) | ((with_reducible refine Chg.setCell ?_ ?hp _); case hp => (right; simp)))
  · rw [show advM base b = 0 from if_neg h, show advB base b = 0 from if_neg h, show advN base b = 0 from if_neg h]
    have HV := Lib.hid (fun W => pval base b W)
    rw [show seqB base = false from decide_eq_false h] at HV
    clear h
    go_enter Tryd.func15, Tryd.ntmps15
    go_wp2_with fail
    refine (HV.out _).mono ?_
    rintro e w1 ⟨rfl, hc1⟩
    have k1 : Chg [] w w1 := ((((Chg.refl [] w).alloc (.cells #[.int .i64 base, .int .u64 b] 29))).alloc (.cells #[.int .i64 0, .int .u64 0] 29)).trans hc1 (by simp)
    have hr := (Blk.new (w.alloc (.cells #[.int .i64 base, .int .u64 b] 29)) 29 #[.int .i64 0, .int .u64 0]).chg hc1 (by simp)
    have r0 := (hr.cell 0).trans rfl
    have r1 := (hr.cell 1).trans rfl
    have f0 := hr.frozen 0
    have f1 := hr.frozen 1
    have hrl := hr.lt
    simp only [World.size_alloc] at r0 r1 f0 f1 hrl
    go_wp2_with fail
    try go_region
    all_goals
      go_wp2_with fail
      refine bodyPost_ret (v := .tuple #[.agg #[.int .i64 0, .int .u64 0], .int .i64 0]) (by simp [results, Tryd.results15, go_sem, *]) rfl ⟨rfl, ?_⟩
      repeat (first | (with_reducible exact k1) | (with_reducible refine Chg.alloc ?_ _) | (with_reducible refine Chg.drew ?_) | ((with_reducible refine Chg.setCell ?_ ?hp _); case hp => (right; simp)))

theorem bm_guard : Tryd.prog.eqGuardType Tryd.prog.depth 29 = false := by kernel_rfl
theorem bm_eql (a b a' b' : Int) (w : World) : (binOp .eql 29 (.agg #[.int .i64 a, .int .u64 b]) (.agg #[.int .i64 a', .int .u64 b'])).run Tryd.prog w = .ok (.bool (a == a' && b == b')) w := by
  have u3 := Tryd.underlying3
  have a3 := Tryd.isAgg3
  have z3 := Tryd.sizeOf3
  have u4 := Tryd.underlying23
  have a4 := Tryd.isAgg23
  have z4 := Tryd.sizeOf23
  have hS : Tryd.prog.underlying 29 = some (.struct (Tryd.prog.fieldsOf 29)) := by kernel_rfl
  have hp : Tryd.prog.stoodInHeld 29 = false := by kernel_rfl
  rw [run_eql_struct, show (10000 : Nat) = 9999 + 1 from rfl, run_equalIn_agg w 9999 29 _ _ hS hp]
  simp only [Program.fieldsOf, Tryd.underlying29]
  go_simp
  by_cases h1 : a = a' <;> by_cases h2 : b = b' <;> simp [h1, h2]
theorem bm_neq (a b a' b' : Int) (w : World) : (binOp .neq 29 (.agg #[.int .i64 a, .int .u64 b]) (.agg #[.int .i64 a', .int .u64 b'])).run Tryd.prog w = .ok (.bool (!(a == a' && b == b'))) w := by
  have h := bm_eql a b a' b' w
  rw [run_eql_struct] at h
  rw [run_neq_struct]
  revert h
  cases (Op.equalIn 10000 29 (.agg #[.int .i64 a, .int .u64 b]) (.agg #[.int .i64 a', .int .u64 b'])).run Tryd.prog w with
  | ok b w' => intro h; simp at h ⊢; obtain ⟨h1, h2⟩ := h; simp [h1, h2]
  | _ => intro h; simp at h

set_option maxHeartbeats 1000000 in
theorem bawake_c (w : World) (hT : Tb w) : Calls Tryd.prog 12 #[] w fun e w' => e = .returned (.bool true) ∧ Chg [] w w' := by
  have HD := Lib.hid (pdist 65530 4)
  rw [show distV 65530 4 = 10 from by decide, show distE 65530 4 = 0 from by decide] at HD
  have HA := Lib.hid (fun W (hW : Chg [] w W) => padv 65534 23 W (hT.chg hW) (by omega) (by omega))
  rw [show advM 65534 23 = 1 from by decide +kernel, show advB 65534 23 = 2 from by decide +kernel, show advN 65534 23 = 3 from by decide +kernel] at HA
  have hgd := bm_guard
  have hel := bm_eql 1 2 1 2
  go_enter Tryd.func12, Tryd.ntmps12
  go_wp2_with fail
  refine (HD.out _).mono ?_
  rintro e w1 ⟨rfl, rfl⟩
  go_wp2_with fail
  refine (HA.out _ (Chg.refl _ _)).mono ?_
  rintro e w2 ⟨rfl, hc2⟩
  go_wp2_with fail
  try go_quiet (fail)
  try go_wp2_with fail
  go_ret
  exact ⟨rfl, by repeat (first | (with_reducible exact hc2) | (with_reducible refine Chg.drewN ?_ _) | (with_reducible refine Chg.alloc ?_ _))⟩

end Go.Proofs.YtpohbbmldedmdaaDoor
