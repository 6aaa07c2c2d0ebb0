/- What Pack gives is what Unpack reads; the walk of the statement BitmapPack. -/
import Derived.Test.YtpohbbmldedmdaaDoorBq
import Derived.Test.YtpohbbmldedmdaaDoorBc
import Derived.Deep.RegionHeld3
namespace Go.Proofs.YtpohbbmldedmdaaDoor
open Go.RowKit
set_option linter.unusedVariables false
set_option linter.unusedSimpArgs false

theorem acc_step (N n : Nat) (hn : n < 8) : bits .or .u64 ((N % 2 ^ (8 * n) : Nat) : Int) (IntKind.u64.wrap (((N / 2 ^ (8 * n) % 256 : Nat) : Int) * 2 ^ (8 * n))) = ((N % 2 ^ (8 * (n + 1)) : Nat) : Int) := by
  have hp : 2 ^ (8 * n) ≤ 72057594037927936 := by
    have : 2 ^ (8 * n) ≤ 2 ^ 56 := Nat.pow_le_pow_right (by omega) (by omega)
    rwa [show (2 : Nat) ^ 56 = 72057594037927936 from by decide] at this
  have hp0 : 0 < 2 ^ (8 * n) := Nat.two_pow_pos _
  have hs : 2 ^ (8 * (n + 1)) = 2 ^ (8 * n) * 256 := by
    rw [show 8 * (n + 1) = 8 * n + 8 from by omega, Nat.pow_add]
  have hsh := Nat.shiftLeft_add_eq_or_of_lt (b := N % 2 ^ (8 * n)) (i := 8 * n) (Nat.mod_lt _ hp0) (N / 2 ^ (8 * n) % 256)
  rw [Nat.shiftLeft_eq] at hsh
  rw [show (2 : Int) ^ (8 * n) = ((2 ^ (8 * n) : Nat) : Int) from by push_cast; rfl, hs]
  generalize 2 ^ (8 * n) = P at hp hp0 hsh
  have hX : N / P % 256 ≤ 255 := by omega
  have hm := Nat.mul_le_mul hX hp
  have hr : N % P < P := Nat.mod_lt _ hp0
  rw [Nat.mod_mul, Nat.mul_comm P]
  rw [← Int.natCast_mul]
  generalize N / P % 256 * P = Z at hsh hm
  rw [IntKind.wrap_u64, Int.emod_eq_of_lt (by omega) (by omega), bits_or_u64_nat _ _ (by omega) (by omega), Nat.or_comm, ← hsh, Nat.add_comm]

theorem bt_str (xs : List Int) (i : Nat) (h : i < xs.length) (h0 : 0 ≤ xs[i]) (h1 : xs[i] < 256) : bt (strOfNums xs) i = xs[i] := by
  unfold bt
  rw [dif_pos (by rw [strOfNums_size]; exact h)]
  have : (strOfNums xs)[i]'(by rw [strOfNums_size]; exact h) = UInt8.ofNat (xs[i]).toNat := by
    show (strOfNums xs).data[i]'_ = _
    simp [strOfNums]
  rw [this, UInt8.toNat_ofNat']
  omega

theorem pk_get (base b : Int) (i : Nat) (hi : i < 8) (h : 2 + i < (pk base b 8).length) : (pk base b 8)[2 + i] = b / 2 ^ (8 * i) % 256 := by
  have : (pk base b 8)[2 + i]? = some (b / 2 ^ (8 * i) % 256) := by
    unfold pk
    rw [List.getElem?_append_right (by simp)]
    simp [hi]
  exact (List.getElem_eq_iff h).2 this
theorem acc_pk (base b : Int) (h0 : 0 ≤ b) (n : Nat) (hn : n ≤ 8) : acc (strOfNums (pk base b 8)) n = b % 2 ^ (8 * n) := by
  obtain ⟨N, rfl⟩ := Int.eq_ofNat_of_zero_le h0
  induction n with
  | zero => simp [acc]
  | succ n ih =>
    have hl : 2 + n < (pk base (N : Int) 8).length := by simp [pk]; omega
    have hg := pk_get base N n (by omega) hl
    rw [acc, ih (by omega), bt_str _ _ hl (by rw [hg]; omega) (by rw [hg]; omega), hg]
    have hst := acc_step N n (by omega)
    generalize 8 * n = e at hst ⊢
    generalize 8 * (n + 1) = e' at hst ⊢
    rw [Int.natCast_emod, Int.natCast_emod, Int.natCast_emod, Int.natCast_ediv, Int.natCast_pow, Int.natCast_pow] at hst
    exact hst

theorem up_pk (base b : Int) (hb : 0 ≤ base ∧ base < 65536) (h0 : 0 ≤ b) (h1 : b < 18446744073709551616) : upM (strOfNums (pk base b 8)) = base ∧ upB (strOfNums (pk base b 8)) = b ∧ upE (strOfNums (pk base b 8)) = 0 := by
  have hs : (strOfNums (pk base b 8)).size = 10 := by rw [strOfNums_size]; simp [pk]
  have e0 : bt (strOfNums (pk base b 8)) 0 = base / 256 := bt_str (pk base b 8) 0 (by simp [pk]) (by show 0 ≤ base / 256; omega) (by show base / 256 < 256; omega)
  have e1 : bt (strOfNums (pk base b 8)) 1 = base % 256 := bt_str (pk base b 8) 1 (by simp [pk]) (by show 0 ≤ base % 256; omega) (by show base % 256 < 256; omega)
  refine ⟨?_, ?_, ?_⟩
  · unfold upM; rw [if_pos hs, e0, e1]; omega
  · unfold upB; rw [if_pos hs, acc_pk base b h0 8 (by omega)]
    exact Int.emod_eq_of_lt h0 h1
  · unfold upE; rw [hs]; rfl

set_option maxRecDepth 100000 in
set_option maxHeartbeats 4000000 in
theorem bitmapPack_walk {w : World} (base b : Int) (s : ByteArray) (h0 : 0 ≤ b) (h1 : b < 18446744073709551616) (hT : Tb w) :
    Calls Tryd.prog 7 #[.int .i64 base, .int .u64 b, .string s] w fun e w' => e = .returned (.bool true) ∧ Below w.heap.size w w' := by
  have HP := Lib.hid (fun W => ppack base b W h0 h1)
  have HR := Lib.hid (fun W => rpack base b W h0 h1)
  have HU := Lib.hid (fun W => punpack s W)
  have HV := Lib.hid (fun W => runpack s W)
  have HT := Lib.hid hT
  clear hT
  generalize upM s = m1 at HU HV
  generalize upB s = m2 at HU HV
  generalize upE s = m3 at HU HV
  have hel := bm_eql m1 m2 m1 m2
  by_cases h : 0 ≤ base ∧ base < 65536
  · rw [show pkS base b = strOfNums (pk base b 8) from if_pos h, show pkE base = 0 from if_pos h] at HP HR
    have HZ := Lib.hid (fun W => punpack (strOfNums (pk base b 8)) W)
    obtain ⟨q1, q2, q3⟩ := up_pk base b h h0 h1
    rw [q1, q2, q3] at HZ
    have hne := bm_neq base b base b
    clear q1 q2 q3 h
    generalize strOfNums (pk base b 8) = t at HP HR HZ
    go_enter Tryd.func7, Tryd.ntmps7
    go_wp2_with fail
    refine (HP.out _).mono ?_
    rintro e w1 ⟨rfl, hc1⟩
    have k1 := ((Chg.refl [] w).alloc (.cells #[.int .i64 base, .int .u64 b] 29)).trans hc1 (by simp)
    have hm1 := (Blk.new w 29 #[.int .i64 base, .int .u64 b]).chg hc1 (by simp)
    have a0 := (hm1.cell 0).trans rfl
    have a1 := (hm1.cell 1).trans rfl
    have al := hm1.lt
    clear hc1
    go_wp2_with fail
    refine (HR.out _).mono ?_
    rintro e w2 ⟨rfl, hc2⟩
    have k2 := k1.trans hc2 (by simp)
    have hm2 := hm1.chg hc2 (by simp)
    clear a0 a1 al hm1 k1 hc2
    have a0 := (hm2.cell 0).trans rfl
    have a1 := (hm2.cell 1).trans rfl
    have al := hm2.lt
    go_wp2_with fail
    refine (HZ.out _).mono ?_
    rintro e w3 ⟨rfl, hc3⟩
    have k3 := k2.trans hc3 (by simp)
    have hm3 := (hm2.chg hc3 (by simp)).alloc (.cells #[.int .i64 base, .int .u64 b] 29)
    clear a0 a1 al hm2 k2
    have a0 := (hm3.cell 0).trans rfl
    have a1 := (hm3.cell 1).trans rfl
    have al := hm3.lt
    go_wp2_with fail
    refine (HU.out _).mono ?_
    rintro e w4 ⟨rfl, hc4⟩
    have k4 := (k3.alloc (.cells #[.int .i64 base, .int .u64 b] 29)).trans hc4 (by simp)
    clear a0 a1 al hm3 k3 hc3
    go_wp2_with fail
    refine (HV.out _).mono ?_
    rintro e w5 ⟨rfl, hc5⟩
    have k5 := (k4.alloc (.cells #[.int .i64 m1, .int .u64 m2] 29)).trans hc5 (by simp)
    have hu5 := (Blk.new w4 29 #[.int .i64 m1, .int .u64 m2]).chg hc5 (by simp)
    clear k4 hc4 hc5
    have a0 := (hu5.cell 0).trans rfl
    have a1 := (hu5.cell 1).trans rfl
    have al := hu5.lt
    go_wp2_with fail
    refine (bawake_c _ (HT.out.chg (k5.alloc (.cells #[.int .i64 m1, .int .u64 m2] 29)))).mono ?_
    rintro e w6 ⟨rfl, hc6⟩
    go_wp2_with fail
    go_ret
    exact ⟨rfl, ((k5.alloc (.cells #[.int .i64 m1, .int .u64 m2] 29)).trans hc6 (by simp)).below (Nat.le_refl _) (by simp)⟩
  · rw [show pkS base b = ⟨#[]⟩ from if_neg h, show pkE base = 1 from if_neg h] at HP HR
    clear h
    go_enter Tryd.func7, Tryd.ntmps7
    go_wp2_with fail
    refine (HP.out _).mono ?_
    rintro e w1 ⟨rfl, hc1⟩
    have k1 := ((Chg.refl [] w).alloc (.cells #[.int .i64 base, .int .u64 b] 29)).trans hc1 (by simp)
    have hm1 := (Blk.new w 29 #[.int .i64 base, .int .u64 b]).chg hc1 (by simp)
    have a0 := (hm1.cell 0).trans rfl
    have a1 := (hm1.cell 1).trans rfl
    have al := hm1.lt
    clear hc1
    go_wp2_with fail
    refine (HR.out _).mono ?_
    rintro e w2 ⟨rfl, hc2⟩
    have k3 := k1.trans hc2 (by simp)
    clear a0 a1 al hm1 k1 hc2
    go_wp2_with fail
    refine (HU.out _).mono ?_
    rintro e w4 ⟨rfl, hc4⟩
    have k4 := k3.trans hc4 (by simp)
    clear k3
    go_wp2_with fail
    refine (HV.out _).mono ?_
    rintro e w5 ⟨rfl, hc5⟩
    have k5 := (k4.alloc (.cells #[.int .i64 m1, .int .u64 m2] 29)).trans hc5 (by simp)
    have hu5 := (Blk.new w4 29 #[.int .i64 m1, .int .u64 m2]).chg hc5 (by simp)
    clear k4 hc4 hc5
    have a0 := (hu5.cell 0).trans rfl
    have a1 := (hu5.cell 1).trans rfl
    have al := hu5.lt
    go_wp2_with fail
    refine (bawake_c _ (HT.out.chg (k5.alloc (.cells #[.int .i64 m1, .int .u64 m2] 29)))).mono ?_
    rintro e w6 ⟨rfl, hc6⟩
    go_wp2_with fail
    go_ret
    exact ⟨rfl, ((k5.alloc (.cells #[.int .i64 m1, .int .u64 m2] 29)).trans hc6 (by simp)).below (Nat.le_refl _) (by simp)⟩

end Go.Proofs.YtpohbbmldedmdaaDoor
