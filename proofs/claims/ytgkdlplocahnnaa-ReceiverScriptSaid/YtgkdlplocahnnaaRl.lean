/- The receiver: Acks. -/
import Derived.Test.YtgkdlplocahnnaaRk
import Derived.Laws.BitsAllLaws
import Derived.Maps.RangeWalk
namespace Go.Proofs.Ytgkdlplocahnnaa
open Go.RowKit Go.Maps
set_option linter.unusedVariables false
set_option linter.unusedSimpArgs false

theorem nat_bit (n j : Nat) : n / 2 ^ j % 2 = 1 ↔ n.testBit j = true := by
  rw [Nat.testBit_eq_decide_div_mod_eq]; simp
theorem int_bit (n j : Nat) : (n : Int) / 2 ^ j % 2 = 1 ↔ n.testBit j = true := by
  rw [← nat_bit]
  have : ((n : Int) / 2 ^ j % 2) = ((n / 2 ^ j % 2 : Nat) : Int) := by push_cast; rfl
  rw [this]; omega
theorem or_bit (b : Int) (d : Nat) (h0 : 0 ≤ b) (h1 : b < 18446744073709551616) (hd : d < 64) :
    0 ≤ bits .or .u64 b (IntKind.u64.wrap (2 ^ d)) ∧ bits .or .u64 b (IntKind.u64.wrap (2 ^ d)) < 18446744073709551616 ∧ ∀ j : Nat, (bits .or .u64 b (IntKind.u64.wrap (2 ^ d)) / 2 ^ j % 2 = 1 ↔ b / 2 ^ j % 2 = 1 ∨ j = d) := by
  obtain ⟨n, rfl⟩ := Int.eq_ofNat_of_zero_le h0
  have hp : 2 ^ d < 2 ^ 64 := Nat.pow_lt_pow_right (by omega) hd
  have hp' : (2 : Nat) ^ d < 18446744073709551616 := by rw [show (18446744073709551616 : Nat) = 2 ^ 64 from rfl]; exact hp
  have hw : IntKind.u64.wrap (2 ^ d) = ((2 ^ d : Nat) : Int) := by
    rw [IntKind.wrap_u64, show (2 : Int) ^ d = ((2 ^ d : Nat) : Int) from by push_cast; rfl]
    exact Int.emod_eq_of_lt (Int.natCast_nonneg _) (Int.ofNat_lt.2 hp')
  have hn : n < 18446744073709551616 := by omega
  rw [hw, u64_or_nat n (2 ^ d) hn hp']
  have hlt : n ||| 2 ^ d < 2 ^ 64 := Nat.or_lt_two_pow hn hp
  refine ⟨by omega, by rw [show (2 : Nat) ^ 64 = 18446744073709551616 from rfl] at hlt; omega, fun j => ?_⟩
  rw [int_bit, int_bit, Nat.testBit_or, Nat.testBit_two_pow]
  simp
  constructor
  · rintro (h | h)
    · exact .inl h
    · exact .inr h.symm
  · rintro (h | h)
    · exact .inl h
    · exact .inr h.symm

/-- The word's bits are as P tells. -/
def BitsP (b : Int) (P : Nat → Prop) : Prop := 0 ≤ b ∧ b < 18446744073709551616 ∧ ∀ j : Nat, j < 64 → (b / 2 ^ j % 2 = 1 ↔ P j)
theorem BitsP.iff {b : Int} {P Q : Nat → Prop} (h : BitsP b P) (hh : ∀ j, j < 64 → (P j ↔ Q j)) : BitsP b Q := ⟨h.1, h.2.1, fun j hj => (h.2.2 j hj).trans (hh j hj)⟩
theorem BitsP.zero {P : Nat → Prop} (h : ∀ j, j < 64 → ¬ P j) : BitsP 0 P := ⟨by omega, by omega, fun j hj => ⟨fun h' => by simp at h', fun h' => absurd h' (h j hj)⟩⟩
theorem BitsP.set {b : Int} {P : Nat → Prop} (h : BitsP b P) {d : Nat} (hd : d < 64) : BitsP (bits .or .u64 b (IntKind.u64.wrap (2 ^ d))) (fun j => P j ∨ j = d) := by
  obtain ⟨h1, h2, h3⟩ := or_bit b d h.1 h.2.1 hd
  exact ⟨h1, h2, fun j hj => (h3 j).trans (or_congr (h.2.2 j hj) Iff.rfl)⟩
theorem BitsP.uniq {b c : Int} {P : Nat → Prop} (h : BitsP b P) (h' : BitsP c P) : b = c := by
  obtain ⟨a1, a2, a3⟩ := h
  obtain ⟨b1, b2, b3⟩ := h'
  obtain ⟨n, rfl⟩ := Int.eq_ofNat_of_zero_le a1
  obtain ⟨m, rfl⟩ := Int.eq_ofNat_of_zero_le b1
  congr 1
  apply Nat.eq_of_testBit_eq
  intro j
  by_cases hj : j < 64
  · rw [Bool.eq_iff_iff, ← int_bit, ← int_bit]
    exact (a3 j hj).trans (b3 j hj).symm
  · have big : ∀ k : Nat, (k : Int) < 18446744073709551616 → k.testBit j = false := fun k hk => by
      refine Nat.testBit_lt_two_pow (Nat.lt_of_lt_of_le (show k < 2 ^ 64 from ?_) (Nat.pow_le_pow_right (by omega) (by omega)))
      rw [show (2 : Nat) ^ 64 = 18446744073709551616 from rfl]
      omega
    rw [big n a2, big m b2]

theorem grown_of0 {w w' : World} (h : Chg [] w w') : w.grownBy w' none := ⟨h.os, h.tape, h.output, h.size, fun i hi _ => h.block i hi (by simp)⟩
theorem grown_of1 {w w' : World} {j : Nat} (h : Chg [j] w w') : w.grownBy w' (some j) := ⟨h.os, h.tape, h.output, h.size, fun i hi hn => h.block i hi (by simp; intro e; subst e; exact hn rfl)⟩

def orB (b : Int) (d : Nat) : Int := bits .or .u64 b (IntKind.u64.wrap (2 ^ d))
theorem set_c (base b seq : Int) (w : World) (h0 : 0 ≤ b) (h1 : b < 18446744073709551616) (h2 : 0 ≤ base) (h3 : base < 65536) (h4 : 0 ≤ seq) (h5 : seq < 65536) (h6 : dst base seq < 64) :
    Calls Try.prog 30 #[.agg #[.int .i64 base, .int .u64 b], .int .i64 seq] w fun e w' => e = .returned (.tuple #[.agg #[.int .i64 base, .int .u64 (orB b (dst base seq).toNat)], .int .i64 0]) ∧ Chg [] w w' := set_ok base b seq w h0 h1 h2 h3 h4 h5 h6

/-- The bits of what is held. -/
def hldP (x : Int) (H : Int → Option Int) (j : Nat) : Prop := ∃ k, wfI k ∧ H k ≠ none ∧ dst x k = j
def AcksPost (w : World) (x : Int) (H : Int → Option Int) (e : Ending) (w' : World) : Prop := ∃ b : Int, e = .returned (.agg #[.int .i64 x, .int .u64 b]) ∧ BitsP b (hldP x H) ∧ Chg [] w w'

theorem acks_iff {x y : Int} {H : Int → Option Int} {left : Lit → Bool} {j : Nat} (hy : wfI y) (hH : H y ≠ none) (h0 : 0 ≤ dst x y) :
    ((∃ k, wfI k ∧ H k ≠ none ∧ left (.int .i64 k) = false ∧ dst x k = j) ∨ j = (dst x y).toNat) ↔ ∃ k, wfI k ∧ H k ≠ none ∧ (left (.int .i64 k) && !(Lit.int .i64 k).sameKey (.int .i64 y)) = false ∧ dst x k = j := by
  constructor
  · rintro (⟨k, a, b, c, d⟩ | rfl)
    · exact ⟨k, a, b, by simp [c], d⟩
    · exact ⟨y, hy, hH, by simp [Lit.sameKey], by omega⟩
  · rintro ⟨k, a, b, c, d⟩
    by_cases e : k = y
    · subst e
      exact .inr (by omega)
    · refine .inl ⟨k, a, b, ?_, d⟩
      rw [sameKey_ne (key_ne e)] at c
      simpa using c

/-- What stands at the head of the loop of Acks. -/
def AkRel (w wr : World) (x : Int) (n m : Nat) (D : DataW Unit) (H : Int → Option Int) : Prop :=
  ∃ (left : Lit → Bool) (ct : Nat) (b : Int), wr.ranges Try.prog 3 (plainElem Try.prog 3) m (w.heap.size + 1 + 1) n D left ct ∧ BitsP b (fun j => ∃ k, wfI k ∧ H k ≠ none ∧ left (.int .i64 k) = false ∧ dst x k = j) ∧ Chg [] w wr ∧
    Blk wr w.heap.size 39 #[.int .i64 0, .int .u64 0] ∧ Blk wr (w.heap.size + 1) 39 #[.int .i64 x, .int .u64 b]

set_option maxHeartbeats 4000000 in
theorem acks_c {w : World} {B r m n : Nat} {wd x : Int} {H : Int → Option Int} (h : RV w B r m n wd x H) (hk : ∀ k, H k ≠ none → 0 ≤ k ∧ k < 65536 ∧ dst x k < 64) :
    Calls Try.prog 15 #[.pointer (some ⟨r, 0, none⟩)] w (AcksPost w x H) := by
  have e1 := (h.hr.cell 1).trans rfl
  have e2 := (h.hr.cell 2).trans rfl
  have hx := h.hx
  have HK := Lib.hid hk
  have hml := h.mlt
  have hrl := h.hr.lt
  have k2 : Chg [] w ((w.alloc (.cells #[.int .i64 0, .int .u64 0] 39)).alloc (.cells #[.int .i64 x, .int .u64 0] 39)) := ((Chg.refl [] w).alloc _).alloc _
  have bR : Blk ((w.alloc (.cells #[.int .i64 0, .int .u64 0] 39)).alloc (.cells #[.int .i64 x, .int .u64 0] 39)) w.heap.size 39 #[.int .i64 0, .int .u64 0] := (Blk.new _ _ _).alloc _
  have bM : Blk ((w.alloc (.cells #[.int .i64 0, .int .u64 0] 39)).alloc (.cells #[.int .i64 x, .int .u64 0] 39)) (w.heap.size + 1) 39 #[.int .i64 x, .int .u64 0] := by simpa using Blk.new (w.alloc (.cells #[.int .i64 0, .int .u64 0] 39)) 39 #[.int .i64 x, .int .u64 0]
  have hWs : ((w.alloc (.cells #[.int .i64 0, .int .u64 0] 39)).alloc (.cells #[.int .i64 x, .int .u64 0] 39)).heap.size = w.heap.size + 1 + 1 := by simp
  obtain ⟨D, hown, hD⟩ := h.hm.chg k2 (by simp)
  have HD := Lib.hid hD
  have K2 := Lib.hid k2
  have BR := Lib.hid bR
  have BM := Lib.hid bM
  clear h hD hk k2 bR bM
  go_enter Try.func15, Try.ntmps15
  go_wp2_with (at_range; refine wpList_range_own _ rfl _ 56 rfl 3 3 mlaw Try.underlying56 _ m n D rfl hown ?_; intro w0 hrg0 hg0 hs0; rw [hWs] at hrg0 ⊢)
  go_frame
  have kA := (K2.out.grown hg0 (by simp))
  have bRA := BR.out.chg ((Chg.refl [] _).grown hg0 (by simp)) (by simp)
  have bMA := BM.out.chg ((Chg.refl [] _).grown hg0 (by simp)) (by simp)
  have HS := Lib.hid (show AkRel w w0 x n m D H from ⟨_, _, 0, hrg0, .zero (fun j hj ⟨k, hk, h1, h2, h3⟩ => by have := (HD.out k hk).1; rw [h2] at this; cases hh : H k with | none => exact h1 hh | some v => rw [hh] at this; cases this), kA, bRA, bMA⟩)
  clear hWs hrg0 kA bRA bMA hg0 hs0 K2 BR BM hown
  go_loopw [15] (fun _ wr => AkRel w wr x n m D H) (fun _ wr => wr.rangeLeft m (w.heap.size + 1 + 1))
  case atStart => exact HS.out
  case round =>
    clear HS
    obtain ⟨left, ct, b, hrg, hB, hc, hbR, hbM⟩ := hrel
    have HB := Lib.hid hB
    have HC := Lib.hid hc
    have HbR := Lib.hid hbR
    have hbM := Lib.hid hbM
    clear hB hc hbR
    go_wp2_with (at_next; refine wpList_next_ranges_ii _ rfl _ rfl 3 3 .i64 .i64 mlaw Try.underlying3 Try.underlying3 m (w.heap.size + 1 + 1) n _ _ _ rfl hrg ?_ ?_)
    · intro _ hl0
      have HL := Lib.hid hl0
      have z0 := (hbM.out.cell 0).trans rfl
      have z1 := (hbM.out.cell 1).trans rfl
      have y0 := (HbR.out.cell 0).trans rfl
      have y1 := (HbR.out.cell 1).trans rfl
      have yf0 := HbR.out.frozen 0
      have yf1 := HbR.out.frozen 1
      have hmz := hbM.out.lt
      clear hl0
      go_wp2_with fail
      refine bodyPost_ret (v := .agg #[.int .i64 x, .int .u64 b]) (by simp [results, Try.results15, go_sem, *]) rfl ⟨b, rfl, HB.out.iff (fun j hj => ?_), ?_⟩
      · exact ⟨fun ⟨k, h1, h2, _, h3⟩ => ⟨k, h1, h2, h3⟩, fun ⟨k, h1, h2, h3⟩ => ⟨k, h1, h2, HL.out _, h3⟩⟩
      · repeat (first | (with_reducible exact HC.out) | ((with_reducible refine Chg.setCell ?_ ?hp _); case hp => simp))
    · intro y c w1 ct1 hwx hwc hlx hat hrg1 hlt hg1 hs1 hen
      have HV := Lib.hid (mf_val HD.out hwx hat)
      have HWX := Lib.hid (show wfI y from hwx)
      have kp1 := (Chg.refl [w.heap.size + 1 + 1] wr).grown hg1 (by simp)
      have HC1 := Lib.hid (HC.out.grown hg1 (fun j hj => by injection hj with hj; subst hj; exact .inr (by omega)))
      have hbM1 := hbM.out.chg kp1 (by simp)
      have HbR1 := Lib.hid (HbR.out.chg kp1 (by simp; omega))
      have z0 := (hbM1.cell 0).trans rfl
      have z1 := (hbM1.cell 1).trans rfl
      have HbM1 := Lib.hid hbM1
      have zf0 := hbM1.frozen 0
      have zf1 := hbM1.frozen 1
      have HLT := Lib.hid hlt
      have HS1 := Lib.hid (hrg1.left_eq)
      have HS0 := Lib.hid (hrg.left_eq)
      have HRG := Lib.hid hrg1
      have hkb := HK.out y (by rw [HV.out]; simp)
      clear hat hlx hwx hwc hlt hrg1 hrg hg1 kp1 hbM1
      go_wp2_with fail
      refine (set_c x b y _ HB.out.1 HB.out.2.1 hx.1 hx.2 hkb.1 hkb.2.1 hkb.2.2).mono ?_
      rintro e w2 ⟨rfl, hcs⟩
      have hbM2 := HbM1.out.chg hcs (by simp)
      have y0 := (hbM2.cell 0).trans rfl
      have y1 := (hbM2.cell 1).trans rfl
      have yf0 := hbM2.frozen 0
      have yf1 := hbM2.frozen 1
      have HD0 := Lib.hid (dst_bd x y)
      have HB2 := Lib.hid (show BitsP (orB b (dst x y).toNat) _ from HB.out.set (by have := HD0.out; omega))
      have hst : Chg [w.heap.size + 1] w2 ((w2.setCell ⟨w.heap.size + 1, 0, none⟩ (.int .i64 x)).setCell ⟨w.heap.size + 1, 1, none⟩ (.int .u64 (orB b (dst x y).toNat))) := ((Chg.refl _ _).setCell (by simp) _).setCell (by simp) _
      have hbM3 := (hbM2.set_ 0 (.int .i64 x)).set_ 1 (.int .u64 (orB b (dst x y).toNat))
      simp only [List.setIfInBounds_toArray, List.set_cons_succ, List.set_cons_zero] at hbM3
      have hrg3 := (HRG.out.kept (grown_of0 hcs) (by simp) (by simp)).kept (grown_of1 hst) (by simp; omega) (by simp)
      have HS3 := Lib.hid hrg3.left_eq
      have HREL := Lib.hid (show AkRel w ((w2.setCell ⟨w.heap.size + 1, 0, none⟩ (.int .i64 x)).setCell ⟨w.heap.size + 1, 1, none⟩ (.int .u64 (orB b (dst x y).toNat))) x n m D H from ⟨_, ct1, _, hrg3, HB2.out.iff (fun j _ => acks_iff HWX.out (by rw [HV.out]; simp) HD0.out.1), (HC1.out.trans hcs (by simp)).trans hst (by simp), (HbR1.out.chg hcs (by simp)).chg hst (by simp), hbM3⟩)
      clear hrg3
      go_wp2_with fail
      exact ⟨HREL.out, by rw [HS3.out, HS0.out]; exact HLT.out⟩

end Go.Proofs.Ytgkdlplocahnnaa
