/- Move of package bitmap; the walk of the statement BitmapKeeps. -/
import Derived.Test.YtpohbbmldedmdaaDoorBt
import Derived.Deep.RegionHeld3
namespace Go.Proofs.YtpohbbmldedmdaaDoor
open Go.RowKit
set_option linter.unusedVariables false
set_option linter.unusedSimpArgs false

def movOk (base to : Int) : Prop := (0 ≤ base ∧ base < 65536 ∧ 0 ≤ to ∧ to < 65536) ∧ dst base to < 32768
instance (base to : Int) : Decidable (movOk base to) := by unfold movOk; infer_instance
def movM (base to : Int) : Int := if movOk base to then to else 0
def movB (base b to : Int) : Int := if movOk base to then shr b (dst base to) else 0
def movE (base to : Int) : Int := if movOk base to then 0 else 1
theorem dst_add {a b : Int} (h : 0 ≤ a ∧ a < 65536 ∧ 0 ≤ b ∧ b < 65536) : (a + dst a b) % 65536 = b := by unfold dst; omega

set_option maxHeartbeats 1000000 in
theorem pmove (base b to : Int) (w : World) (h0 : 0 ≤ b) (h1 : b < 18446744073709551616) :
    Calls Tryd.prog 13 #[.agg #[.int .i64 base, .int .u64 b], .int .i64 to] w fun e w' => e = .returned (.tuple #[.agg #[.int .i64 (movM base to), .int .u64 (movB base b to)], .int .i64 (movE base to)]) ∧ Chg [] w w' := by
  by_cases h : 0 ≤ base ∧ base < 65536 ∧ 0 ≤ to ∧ to < 65536
  · have hd := dst_bd base to
    have HD := Lib.hid (pdist base to)
    rw [show distV base to = dst base to from if_pos h, show distE base to = 0 from if_pos h] at HD
    by_cases h2 : dst base to < 32768
    · have ho : movOk base to := ⟨h, h2⟩
      rw [show movM base to = to from if_pos ho, show movB base b to = shr b (dst base to) from if_pos ho, show movE base to = 0 from if_pos ho]
      have HM := Lib.hid (fun W => pmov base b (dst base to) W h.1 h.2.1 hd.1 (by omega) h0 h1)
      rw [dst_add h] at HM
      generalize shr b (dst base to) = b' at HM ⊢
      clear h ho
      generalize dst base to = d at hd HD h2 HM ⊢
      go_enter Tryd.func13, Tryd.ntmps13
      go_wp2_with fail
      refine (HD.out _).mono ?_
      rintro e w1 ⟨rfl, rfl⟩
      go_wp2_with fail
      refine (HM.out _).mono ?_
      rintro e w2 ⟨rfl, hc2⟩
      have hr := (Blk.new (w.alloc (.cells #[.int .i64 base, .int .u64 b] 29)) 29 #[.int .i64 0, .int .u64 0]).chg hc2 (by simp)
      have k2 := (((Chg.refl [] w).alloc (.cells #[.int .i64 base, .int .u64 b] 29)).alloc (.cells #[.int .i64 0, .int .u64 0] 29)).trans hc2 (by simp)
      have r0 := (hr.cell 0).trans rfl
      have r1 := (hr.cell 1).trans rfl
      have f0 := hr.frozen 0
      have f1 := hr.frozen 1
      have hrl := hr.lt
      simp only [World.size_alloc] at r0 r1 f0 f1 hrl
      go_wp2_with fail
      try go_region
      all_goals
        go_wp2_with fail
        refine bodyPost_ret (v := .tuple #[.agg #[.int .i64 to, .int .u64 b'], .int .i64 0]) (by simp [results, Tryd.results13, go_sem, *]) rfl ⟨rfl, ?_⟩
        repeat (first | (with_reducible exact k2) | (with_reducible refine Chg.alloc ?_ _) | (with_reducible refine Chg.drew ?_) | ((with_reducible refine Chg.setCell ?_ ?hp _); case hp => (right; simp)))
    · have ho : ¬ movOk base to := fun hh => h2 hh.2
      rw [show movM base to = 0 from if_neg ho, show movB base b to = 0 from if_neg ho, show movE base to = 1 from if_neg ho]
      clear h ho
      generalize dst base to = d at hd HD h2 ⊢
      go_enter Tryd.func13, Tryd.ntmps13
      go_wp2_with fail
      refine (HD.out _).mono ?_
      rintro e w1 ⟨rfl, rfl⟩
      go_wp2_with fail
      refine bodyPost_ret (v := .tuple #[.agg #[.int .i64 0, .int .u64 0], .int .i64 1]) (by simp [results, Tryd.results13, go_sem, *]) rfl ⟨rfl, ?_⟩
      repeat (first | (with_reducible exact Chg.refl _ _) | (with_reducible refine Chg.alloc ?_ _) | (with_reducible refine Chg.drew ?_) | ((with_reducible refine Chg.setCell ?_ ?hp _); case hp => simp))
  · have ho : ¬ movOk base to := fun hh => h hh.1
    have HD := Lib.hid (pdist base to)
    rw [show distV base to = 0 from if_neg h, show distE base to = 1 from if_neg h] at HD
    rw [show movM base to = 0 from if_neg ho, show movB base b to = 0 from if_neg ho, show movE base to = 1 from if_neg ho]
    clear h ho
    go_enter Tryd.func13, Tryd.ntmps13
    go_wp2_with fail
    refine (HD.out _).mono ?_
    rintro e w1 ⟨rfl, rfl⟩
    go_wp2_with fail
    refine bodyPost_ret (v := .tuple #[.agg #[.int .i64 0, .int .u64 0], .int .i64 1]) (by simp [results, Tryd.results13, go_sem, *]) rfl ⟨rfl, ?_⟩
    repeat (first | (with_reducible exact Chg.refl _ _) | (with_reducible refine Chg.alloc ?_ _) | (with_reducible refine Chg.drew ?_) | ((with_reducible refine Chg.setCell ?_ ?hp _); case hp => simp))

theorem ediv_pow (b : Int) (m n : Nat) (h0 : 0 ≤ b) : b / 2 ^ m / 2 ^ n = b / 2 ^ (m + n) := by
  obtain ⟨x, rfl⟩ := Int.eq_ofNat_of_zero_le h0
  have h : x / 2 ^ m / 2 ^ n = x / 2 ^ (m + n) := by rw [Nat.div_div_eq_div_mul, Nat.pow_add]
  exact_mod_cast h
theorem ediv_big (b : Int) (m : Nat) (h0 : 0 ≤ b) (h1 : b < 18446744073709551616) (hm : 64 ≤ m) : b / 2 ^ m = 0 := by
  obtain ⟨x, rfl⟩ := Int.eq_ofNat_of_zero_le h0
  have h : x / 2 ^ m = 0 := Nat.div_eq_of_lt (Nat.lt_of_lt_of_le (show x < 2 ^ 64 by omega) (Nat.pow_le_pow_right (by decide) hm))
  exact_mod_cast h
theorem shr_div (b : Int) (d k : Nat) (h0 : 0 ≤ b) (h1 : b < 18446744073709551616) : shr b d / 2 ^ k = b / 2 ^ (d + k) := by
  unfold shr
  rw [ediv_pow _ _ _ h0, show ((d : Int)).toNat = d from by omega]
  by_cases hd : d ≤ 64
  · rw [show min d 64 = d from by omega]
  · rw [ediv_big b _ h0 h1 (by omega), ediv_big b _ h0 h1 (by omega)]

theorem keeps (base b : Int) (d k : Nat) (hb : 0 ≤ base ∧ base < 65536) (h0 : 0 ≤ b) (h1 : b < 18446744073709551616) (hd : d < 70) (hk : k < 64) :
    hasB ((base + d) % 65536) (shr b d) (((base + d) % 65536 + k) % 65536) = hasB base b (((base + d) % 65536 + k) % 65536) := by
  have e1 : dst ((base + d) % 65536) (((base + d) % 65536 + k) % 65536) = k := by unfold dst; omega
  have e2 : dst base (((base + d) % 65536 + k) % 65536) = ((d + k : Nat) : Int) := by unfold dst; omega
  unfold hasB
  rw [e1, e2, show ((k : Int)).toNat = k from by omega, show (((d + k : Nat) : Int)).toNat = d + k from by omega, shr_div b d k h0 h1]
  by_cases h : d + k < 64
  · exact decide_eq_decide.2 (by omega)
  · rw [ediv_big b (d + k) h0 h1 (by omega)]
    exact decide_eq_decide.2 (by omega)
theorem adv_has (base b : Int) (hb : 0 ≤ base ∧ base < 65536) (h0 : 0 ≤ b) (h1 : b < 18446744073709551616) : hasB (advM base b) (advB base b) (advM base b) = false := by
  rw [show advM base b = (base + ones b) % 65536 from if_pos hb, show advB base b = b / 2 ^ ones b from if_pos hb]
  have e1 : dst ((base + ones b) % 65536) ((base + ones b) % 65536) = 0 := by unfold dst; omega
  obtain ⟨n, rfl⟩ := Int.eq_ofNat_of_zero_le h0
  have h := (ones_spec n (by omega)).2.2
  have h2 : ((n : Int) / 2 ^ ones n) % 2 = 0 := by exact_mod_cast h
  unfold hasB
  rw [e1]
  refine decide_eq_false (fun hh => ?_)
  have h3 := hh.2.2.2.2.2
  simp at h3
  omega
theorem adv_zero (base b : Int) (hb : 0 ≤ base ∧ base < 65536) (h0 : 0 ≤ b) (h1 : b < 18446744073709551616) : (advN base b == 0) = !hasB base b base := by
  rw [show advN base b = ones b from if_pos hb]
  have e1 : dst base base = 0 := by unfold dst; omega
  obtain ⟨n, rfl⟩ := Int.eq_ofNat_of_zero_le h0
  obtain ⟨h2, h3, h4⟩ := ones_spec n (by omega)
  unfold hasB
  rw [e1]
  by_cases ho : ones (n : Int) = 0
  · rw [ho] at h4 ⊢
    have : (n : Int) % 2 = 0 := by simp at h4; omega
    simp [hb, this]
  · have h5 := h3 0 (by omega)
    have : (n : Int) % 2 = 1 := by simp at h5; omega
    simp [hb, this, ho]
theorem adv_bd (base b : Int) (h0 : 0 ≤ b) (h1 : b < 18446744073709551616) : 0 ≤ advB base b ∧ advB base b < 18446744073709551616 := by
  unfold advB
  split
  · exact ⟨Int.ediv_nonneg h0 (Int.le_of_lt (Int.pow_pos (by decide))), Int.lt_of_le_of_lt (Int.ediv_le_self _ h0) h1⟩
  · omega
theorem shr_bd (b d : Int) (h0 : 0 ≤ b) (h1 : b < 18446744073709551616) : 0 ≤ shr b d ∧ shr b d < 18446744073709551616 :=
  ⟨Int.ediv_nonneg h0 (Int.le_of_lt (Int.pow_pos (by decide))), Int.lt_of_le_of_lt (Int.ediv_le_self _ h0) h1⟩

set_option maxRecDepth 100000 in
set_option maxHeartbeats 4000000 in
theorem bitmapKeeps_walk {w : World} (b base by_ : Int) (hb0 : 0 ≤ b) (hb1 : b < 18446744073709551616) (hc0 : 0 ≤ base) (hc1 : base < 65536) (hd0 : 0 ≤ by_) (hd1 : by_ < 65536) (hT : Tb w) :
    Calls Tryd.prog 4 #[.int .u64 b, .int .u16 base, .int .u16 by_] w fun e w' => e = .returned (.bool true) ∧ Below w.heap.size w w' := by
  have HT := Lib.hid hT
  clear hT
  have e0 : 0 ≤ by_ % 70 := by omega
  have e1 : by_ % 70 < 70 := by omega
  go_enter Tryd.func4, Tryd.ntmps4
  go_wp2_with fail
  generalize by_ % 70 = dd at e0 e1 ⊢
  obtain ⟨d, rfl⟩ := Int.eq_ofNat_of_zero_le e0
  have hmo : movOk base ((base + d) % 65536) := ⟨by omega, by unfold dst; omega⟩
  have HM := Lib.hid (fun W => pmove base b ((base + d) % 65536) W hb0 hb1)
  rw [show movM base ((base + d) % 65536) = (base + d) % 65536 from if_pos hmo, show movB base b ((base + d) % 65536) = shr b d from (if_pos hmo).trans (by rw [show dst base ((base + d) % 65536) = d from by unfold dst; omega]), show movE base ((base + d) % 65536) = 0 from if_pos hmo] at HM
  have HK := Lib.hid (fun k hk => keeps base b d k ⟨hc0, hc1⟩ hb0 hb1 (by omega) hk)
  have hsb := shr_bd b d hb0 hb1
  have HH := Lib.hid (fun (seq : Int) W => has_raw ((base + d) % 65536) (shr b d) seq W hsb.1 hsb.2)
  have HG := Lib.hid (fun (seq : Int) W => has_raw base b seq W hb0 hb1)
  have t0 : 0 ≤ (base + (d : Int)) % 65536 := by omega
  have t1 : (base + (d : Int)) % 65536 < 65536 := by omega
  clear hmo
  generalize (base + (d : Int)) % 65536 = to at HM HK HH t0 t1 ⊢
  generalize shr b (d : Int) = b' at HM HK HH
  clear hsb
  refine (HM.out _).mono ?_
  rintro e w1 ⟨rfl, hm1⟩
  have k1 := ((Chg.refl [] w).alloc (.cells #[.int .i64 base, .int .u64 b] 29)).trans hm1 (by simp)
  have hmb := ((Blk.new w 29 #[.int .i64 base, .int .u64 b]).chg hm1 (by simp)).alloc (.cells #[.int .i64 to, .int .u64 b'] 29)
  have hxb := Blk.new w1 29 #[.int .i64 to, .int .u64 b']
  have k2 := k1.alloc (.cells #[.int .i64 to, .int .u64 b'] 29)
  have hww := k1.size
  clear hm1 k1 HM
  go_wp2_with fail
  go_loopw [11] (fun vk wr => ∃ k : Nat, k ≤ 64 ∧ vk = .int .i64 k ∧ Chg [] w wr ∧ Blk wr w.heap.size 29 #[.int .i64 base, .int .u64 b] ∧ Blk wr w1.heap.size 29 #[.int .i64 to, .int .u64 b']) (fun vk _ => 64 - (intOf vk).toNat)
  case atStart => exact ⟨0, by omega, rfl, k2, hmb, hxb⟩
  case round =>
    clear k2 hmb hxb
    obtain ⟨k, hk, rfl, kr, hm, hx⟩ := hrel
    by_cases hlt : k < 64
    · have hlt' : (k : Int) < 64 := by omega
      have HKk := Lib.hid (HK.out k hlt)
      clear HK
      have fac : ∀ W', Chg [] wr.drew W' → W'.cell? ⟨w.heap.size, 0, none⟩ = some (.int .i64 base) ∧ W'.cell? ⟨w.heap.size, 1, none⟩ = some (.int .u64 b) ∧ W'.cell? ⟨w1.heap.size, 0, none⟩ = some (.int .i64 to) ∧ W'.cell? ⟨w1.heap.size, 1, none⟩ = some (.int .u64 b') := fun W' h =>
        ⟨((hm.drew.chg h (by simp)).cell 0).trans rfl, ((hm.drew.chg h (by simp)).cell 1).trans rfl, ((hx.drew.chg h (by simp)).cell 0).trans rfl, ((hx.drew.chg h (by simp)).cell 1).trans rfl⟩
      have FAC := Lib.hid fac
      have hS0 := fac _ (Chg.refl _ _)
      clear fac
      generalize hsq : (to + (k : Int)) % 65536 = sq at HKk
      have HSQ := Lib.hid hsq
      clear hsq
      generalize hv : hasB base b sq = v at HKk
      have HV := Lib.hid hv
      clear hv
      go_wp2_with fail
      rw [HSQ.out]
      go_region_held3 (fun w' => w'.cell? ⟨w.heap.size, 0, none⟩ = some (.int .i64 base) ∧ w'.cell? ⟨w.heap.size, 1, none⟩ = some (.int .u64 b) ∧ w'.cell? ⟨w1.heap.size, 0, none⟩ = some (.int .i64 to) ∧ w'.cell? ⟨w1.heap.size, 1, none⟩ = some (.int .u64 b')) (first | exact hS2 | exact hS1 | exact hS0 | go_keep)
        (first
          | (go_at_call 14; have hZ := hca; clear hZ; refine (HG.out sq _).mono ?_; rintro e wb ⟨rfl, hcb⟩; rw [HV.out]; have hcb := hca.trans hcb (by simp); have hS2 := FAC.out _ hcb)
          | (go_at_call 14; refine (HH.out sq _).mono ?_; rintro e wa ⟨rfl, hca⟩; rw [HKk.out]; have hS1 := FAC.out _ hca))
      have kE := (Chg.refl [] wr).drew.trans hcb (by simp)
      go_wp2_with fail
      go_roundw
      case rel => exact ⟨k + 1, by omega, by go_num, kr.trans kE (by simp), hm.chg kE (by simp), hx.chg kE (by simp)⟩
      case measure => simp [intOf]; omega
    · have hge : (64 : Int) ≤ (k : Int) := by omega
      have hz := adv_zero base b ⟨hc0, hc1⟩ hb0 hb1
      have hh := adv_has base b ⟨hc0, hc1⟩ hb0 hb1
      have hab := adv_bd base b hb0 hb1
      have HA := Lib.hid (fun W (hW : Chg [] w W) => padv base b W (HT.out.chg hW) hb0 hb1)
      have HY := Lib.hid (fun W => has_raw (advM base b) (advB base b) (advM base b) W hab.1 hab.2)
      rw [hh] at HY
      have HZ := Lib.hid (fun W => has_raw base b base W hb0 hb1)
      have m0 := (hm.cell 0).trans rfl
      have m1 := (hm.cell 1).trans rfl
      have hml := hm.lt
      clear hh HK HH HG hx
      generalize advM base b = v1 at HA HY
      generalize advB base b = v2 at HA HY hab
      generalize advN base b = v3 at HA hz
      generalize hasB base b base = v4 at HZ hz
      go_wp2_with fail
      refine (HA.out _ kr).mono ?_
      rintro e wa ⟨rfl, hca⟩
      have ka := kr.trans hca (by simp)
      have hma := (hm.chg hca (by simp)).alloc (.cells #[.int .i64 v1, .int .u64 v2] 29)
      clear m0 m1 hml
      go_wp2_with fail
      refine (HY.out _).mono ?_
      rintro e wb ⟨rfl, hcb⟩
      have kb := (ka.alloc (.cells #[.int .i64 v1, .int .u64 v2] 29)).trans hcb (by simp)
      have hmb := hma.chg hcb (by simp)
      have m0 := (hmb.cell 0).trans rfl
      have m1 := (hmb.cell 1).trans rfl
      have hml := hmb.lt
      go_wp2_with fail
      refine (HZ.out _).mono ?_
      rintro e wc ⟨rfl, hcc⟩
      have kc := kb.trans hcc (by simp)
      go_wp2_with fail
      refine (bawake_c _ (HT.out.chg kc)).mono ?_
      rintro e wd ⟨rfl, hcd⟩
      go_wp2_with fail
      go_ret
      exact ⟨rfl, (kc.trans hcd (by simp)).below (Nat.le_refl _) (by simp)⟩

end Go.Proofs.YtpohbbmldedmdaaDoor
