/- Advance and Move of the reference; the law's comparison (moves). -/
import Derived.Test.YtpohbbmldedmdaaDoorBk
namespace Go.Proofs.YtpohbbmldedmdaaDoor
open Go.RowKit
set_option linter.unusedVariables false
set_option linter.unusedSimpArgs false

theorem half_pow (b : Int) (j : Nat) (h0 : 0 ≤ b) : b / 2 ^ j / 2 = b / 2 ^ (j + 1) := by
  have := ediv_pow b j 1 h0
  simpa using this
theorem shr_eq (b d : Int) (h0 : 0 ≤ b) (h1 : b < 18446744073709551616) : shr b d = b / 2 ^ d.toNat := by
  unfold shr
  by_cases hd : d.toNat ≤ 64
  · rw [show min d.toNat 64 = d.toNat from by omega]
  · rw [ediv_big b _ h0 h1 (by omega), ediv_big b _ h0 h1 (by omega)]
theorem pow_zero_up (b : Int) (k n : Nat) (h0 : 0 ≤ b) (hk : k ≤ n) (hz : b / 2 ^ k = 0) : b / 2 ^ n = 0 := by
  have := ediv_pow b k (n - k) h0
  rw [hz, show k + (n - k) = n from by omega] at this
  rw [← this]
  simp
theorem pow_bd (b : Int) (k : Nat) (h0 : 0 ≤ b) (h1 : b < 18446744073709551616) : 0 ≤ b / 2 ^ k ∧ b / 2 ^ k < 18446744073709551616 :=
  ⟨Int.ediv_nonneg h0 (Int.le_of_lt (Int.pow_pos (by decide))), Int.lt_of_le_of_lt (Int.ediv_le_self _ h0) h1⟩

set_option maxHeartbeats 2000000 in
theorem radv (base b : Int) (w : World) (h0 : 0 ≤ b) (h1 : b < 18446744073709551616) :
    Calls Tryd.prog 22 #[.agg #[.int .i64 base, .int .u64 b]] w fun e w' => e = .returned (.tuple #[.agg #[.int .i64 (advM base b), .int .u64 (advB base b)], .int .i64 (advN base b)]) ∧ Chg [] w w' := by
  by_cases h : 0 ≤ base ∧ base < 65536
  · rw [show advM base b = (base + ones b) % 65536 from if_pos h, show advB base b = b / 2 ^ ones b from if_pos h, show advN base b = ones b from if_pos h]
    have HV := Lib.hid (fun W => rval base b W)
    rw [show seqB base = true from decide_eq_true h] at HV
    have hsp : ones b ≤ 64 ∧ (∀ j, j < ones b → b / 2 ^ j % 2 = 1) ∧ b / 2 ^ ones b % 2 = 0 := by
      obtain ⟨n, rfl⟩ := Int.eq_ofNat_of_zero_le h0
      obtain ⟨x1, x2, x3⟩ := ones_spec n (by omega)
      exact ⟨x1, fun j hj => by exact_mod_cast x2 j hj, by exact_mod_cast x3⟩
    generalize ones b = n at hsp ⊢
    obtain ⟨hn, hodd, hev⟩ := hsp
    have HO := Lib.hid hodd
    have HE := Lib.hid hev
    clear hodd hev
    obtain ⟨ha, hb⟩ := h
    go_enter Tryd.func22, Tryd.ntmps22
    go_wp2_with fail
    refine (HV.out _).mono ?_
    rintro e w1 ⟨rfl, hc1⟩
    have k1 : Chg [] w w1 := ((((Chg.refl [] w).alloc (.cells #[.int .i64 base, .int .u64 b] 29))).alloc (.cells #[.int .i64 0, .int .u64 0] 29)).trans hc1 (by simp)
    have hm := ((Blk.new w 29 #[.int .i64 base, .int .u64 b]).alloc (.cells #[.int .i64 0, .int .u64 0] 29)).chg hc1 (by simp)
    have hr := (Blk.new (w.alloc (.cells #[.int .i64 base, .int .u64 b] 29)) 29 #[.int .i64 0, .int .u64 0]).chg hc1 (by simp)
    simp only [World.size_alloc] at hr
    go_wp2_with fail
    go_loopw [4] (fun vn wr => ∃ j : Nat, j ≤ n ∧ vn = .int .i64 j ∧ Chg [] w wr ∧ Blk wr w.heap.size 29 #[.int .i64 ((base + j) % 65536), .int .u64 (b / 2 ^ j)] ∧ Blk wr (w.heap.size + 1) 29 #[.int .i64 0, .int .u64 0]) (fun vn _ => n - (intOf vn).toNat)
    case atStart => exact ⟨0, by omega, rfl, k1, by rw [show (base + ((0 : Nat) : Int)) % 65536 = base from by omega]; simpa using hm, hr⟩
    case round =>
      clear k1 hm hr
      obtain ⟨j, hj, rfl, kr, hm, hr⟩ := hrel
      have m0 := (hm.cell 0).trans rfl
      have m1 := (hm.cell 1).trans rfl
      have f0 := hm.frozen 0
      have f1 := hm.frozen 1
      have hml := hm.lt
      have hbd := pow_bd b j h0 h1
      have hbb : 0 ≤ (base + (j : Int)) % 65536 ∧ (base + (j : Int)) % 65536 < 65536 := by omega
      by_cases hlt : j < n
      · have ho : (b / 2 ^ j % 2 == 1) = true := by rw [beq_iff_eq]; exact HO.out j hlt
        have HP := Lib.hid (half_pow b j h0)
        have HB := Lib.hid (show ((base + (j : Int)) % 65536 + 1) % 65536 = (base + ((j + 1 : Nat) : Int)) % 65536 from by omega)
        generalize b / 2 ^ j = q at m1 ho hbd HP hm
        generalize (base + (j : Int)) % 65536 = p at m0 hbb HB hm
        have HM := Lib.hid hm
        have HR := Lib.hid hr
        clear hm hr
        go_wp2_with fail
        go_roundw
        case rel =>
          have b8 := (HM.out.set_ 1 (.int .u64 (q / 2))).set_ 0 (.int .i64 ((p + 1) % 65536))
          simp only [List.setIfInBounds_toArray, List.set_cons_succ, List.set_cons_zero] at b8
          rw [HP.out, HB.out] at b8
          refine ⟨j + 1, by omega, by go_num, (kr.setCell (p := ⟨w.heap.size, 1, none⟩) (.inr (Nat.le_refl _)) _).setCell (p := ⟨w.heap.size, 0, none⟩) (.inr (Nat.le_refl _)) _, ?_, (HR.out.far (p := ⟨w.heap.size, 1, none⟩) (by simp) _).far (p := ⟨w.heap.size, 0, none⟩) (by simp) _⟩
          rw [HP.out, HB.out]
          exact b8
        case measure => simp [intOf]; omega
      · obtain rfl : j = n := by omega
        have ho : (b / 2 ^ j % 2 == 1) = false := by rw [beq_eq_false_iff_ne]; have := HE.out; omega
        generalize hq : b / 2 ^ j = q at m1 ho hbd hm
        generalize hp : (base + (j : Int)) % 65536 = p at m0 hbb hm
        have HQ := Lib.hid hq
        have HPP := Lib.hid hp
        clear hq hp
        have r0 := (hr.cell 0).trans rfl
        have r1 := (hr.cell 1).trans rfl
        have e0 := hr.frozen 0
        have e1 := hr.frozen 1
        have hrl := hr.lt
        go_wp2_with fail
        refine bodyPost_ret (v := .tuple #[.agg #[.int .i64 p, .int .u64 q], .int .i64 j]) (by simp [results, Tryd.results22, go_sem, *]) rfl ⟨by rw [HQ.out, HPP.out], ?_⟩
        repeat (first | (with_reducible exact kr) | (with_reducible refine Chg.alloc ?_ _) | (with_reducible refine Chg.drew ?_) | ((with_reducible refine Chg.setCell ?_ ?hp _); case hp => (right; simp)))
  · rw [show advM base b = 0 from if_neg h, show advB base b = 0 from if_neg h, show advN base b = 0 from if_neg h]
    have HV := Lib.hid (fun W => rval base b W)
    rw [show seqB base = false from decide_eq_false h] at HV
    clear h
    go_enter Tryd.func22, Tryd.ntmps22
    go_wp2_with fail
    refine (HV.out _).mono ?_
    rintro e w1 ⟨rfl, hc1⟩
    have k1 : Chg [] w w1 := ((((Chg.refl [] w).alloc (.cells #[.int .i64 base, .int .u64 b] 29))).alloc (.cells #[.int .i64 0, .int .u64 0] 29)).trans hc1 (by simp)
    have hr := (Blk.new (w.alloc (.cells #[.int .i64 base, .int .u64 b] 29)) 29 #[.int .i64 0, .int .u64 0]).chg hc1 (by simp)
    have r0 := (hr.cell 0).trans rfl
    have r1 := (hr.cell 1).trans rfl
    have f0 := hr.frozen 0
    have f1 := hr.frozen 1
    have hrl := hr.lt
    simp only [World.size_alloc] at r0 r1 f0 f1 hrl
    go_wp2_with fail
    refine bodyPost_ret (v := .tuple #[.agg #[.int .i64 0, .int .u64 0], .int .i64 0]) (by simp [results, Tryd.results22, go_sem, *]) rfl ⟨rfl, ?_⟩
    repeat (first | (with_reducible exact k1) | (with_reducible refine Chg.alloc ?_ _) | (with_reducible refine Chg.drew ?_) | ((with_reducible refine Chg.setCell ?_ ?hp _); case hp => (right; simp)))

end Go.Proofs.YtpohbbmldedmdaaDoor
