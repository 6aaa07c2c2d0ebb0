/- Unpack of package bitmap and of its reference. -/
import Derived.Test.YtpohbbmldedmdaaDoorBp
import Derived.Laws.Bits64b
import Derived.Deep.DeepCutAuto
namespace Go.Proofs.YtpohbbmldedmdaaDoor
open Go.RowKit
set_option linter.unusedVariables false
set_option linter.unusedSimpArgs false

def bt (s : ByteArray) (i : Nat) : Int := if h : i < s.size then ((s[i]'h).toNat : Int) else 0
theorem bt_bd (s : ByteArray) (i : Nat) : 0 ≤ bt s i ∧ bt s i < 256 := by
  unfold bt
  split
  · rename_i h
    have := (s[i]'h).toNat_lt
    omega
  · omega
def acc (s : ByteArray) : Nat → Int
  | 0 => 0
  | n + 1 => bits .or .u64 (acc s n) (IntKind.u64.wrap (bt s (2 + n) * 2 ^ (8 * n)))
def upM (s : ByteArray) : Int := if s.size = 10 then bt s 0 * 256 + bt s 1 else 0
def upB (s : ByteArray) : Int := if s.size = 10 then acc s 8 else 0
def upE (s : ByteArray) : Int := if s.size < 10 then 9 else if 10 < s.size then 11 else 0
theorem idx_run (s : ByteArray) (i : Nat) (h : i < s.size) (w : World) : (Instr.index 9 (.string s) (.int .i64 (i : Int))).run Tryd.prog w = .ok (.int .u8 (bt s i)) w := by
  rw [run_index_string w 9 s .i64 i Tryd.underlying9, dif_pos ⟨by omega, by omega⟩]
  unfold bt
  rw [dif_pos h]
  rfl
theorem or_nat8 (x y : Nat) (h : y < 256) : x * 256 ||| y = x * 256 + y := by
  have := Nat.shiftLeft_add_eq_or_of_lt (b := y) (i := 8) (by simpa using h) x
  rw [Nat.shiftLeft_eq] at this
  simpa using this.symm
theorem or_nat_i64 (a b : Nat) (ha : a < 4611686018427387904) (hb : b < 4611686018427387904) : bits .or .i64 (a : Int) (b : Int) = ((a ||| b : Nat) : Int) := by
  have hx : a ||| b < 2 ^ 62 := Nat.or_lt_two_pow (by omega) (by omega)
  have h1 : (BitVec.ofInt 64 (a : Int)).toNat = a := by
    rw [BitVec.ofInt_natCast, BitVec.toNat_ofNat]; exact Nat.mod_eq_of_lt (by omega)
  have h2 : (BitVec.ofInt 64 (b : Int)).toNat = b := by
    rw [BitVec.ofInt_natCast, BitVec.toNat_ofNat]; exact Nat.mod_eq_of_lt (by omega)
  show IntKind.i64.wrap ((BitVec.ofInt 64 (a : Int) ||| BitVec.ofInt 64 (b : Int)).toNat : Int) = _
  rw [BitVec.toNat_or, h1, h2, IntKind.wrap_i64]
  omega
theorem or_add (a b : Int) (h0 : 0 ≤ a) (h1 : a < 256) (h2 : 0 ≤ b) (h3 : b < 256) : bits .or .i64 (a * 256) b = a * 256 + b := by
  obtain ⟨x, rfl⟩ := Int.eq_ofNat_of_zero_le h0
  obtain ⟨y, rfl⟩ := Int.eq_ofNat_of_zero_le h2
  rw [show ((x : Int) * 256) = ((x * 256 : Nat) : Int) from by omega, or_nat_i64 _ _ (by omega) (by omega)]
  rw [or_nat8 x y (by omega)]
  omega

set_option maxHeartbeats 2000000 in
theorem punpack (s : ByteArray) (w : World) :
    Calls Tryd.prog 20 #[.string s] w fun e w' => e = .returned (.tuple #[.agg #[.int .i64 (upM s), .int .u64 (upB s)], .int .i64 (upE s)]) ∧ Chg [] w w' := by
  by_cases h : s.size = 10
  · rw [show upM s = bt s 0 * 256 + bt s 1 from if_pos h, show upB s = acc s 8 from if_pos h, show upE s = 0 from by unfold upE; rw [h]; rfl]
    have hi0 := idx_run s 0 (by omega)
    have hi1 := idx_run s 1 (by omega)
    simp only [Int.natCast_zero, Int.natCast_one] at hi0 hi1
    have HI := Lib.hid (fun (j : Nat) (hj : j < 8) W => idx_run s (2 + j) (by omega) W)
    obtain ⟨b0, b1⟩ := bt_bd s 0
    obtain ⟨b2, b3⟩ := bt_bd s 1
    have hor := or_add _ _ b0 b1 b2 b3
    have hsh : IntKind.i64.wrap (bt s 0 * 256) = bt s 0 * 256 := by rw [IntKind.wrap_i64]; omega
    generalize bt s 0 = x0 at hi0 b0 b1 hor hsh ⊢
    generalize bt s 1 = x1 at hi1 b2 b3 hor ⊢
    go_enter Tryd.func20, Tryd.ntmps20
    go_upto_region 5 with fail
    go_cut [4] (fun v4 wx => v4 = .pointer (some ⟨w.heap.size + 1, 0, none⟩) ∧ Chg [] w wx ∧ Blk wx w.heap.size 29 #[.int .i64 0, .int .u64 0] ∧ Blk wx (w.heap.size + 1) 29 #[.int .i64 (x0 * 256 + x1), .int .u64 0])
    case first =>
      go_region
      all_goals
        go_wp2_with fail
        go_meet
        refine ⟨rfl, ?ck, ?cr, ?cm⟩
        case ck => repeat (first | (with_reducible exact Chg.refl _ _) | (with_reducible refine Chg.alloc ?_ _) | (with_reducible refine Chg.drew ?_) | (refine Chg.setCell ?_ (.inr (by dsimp only; omega)) _))
        case cr => repeat (first | (exact Blk.new w 29 #[.int .i64 0, .int .u64 0]) | (with_reducible refine Blk.alloc ?_ _) | (with_reducible refine Blk.drew ?_) | (refine Blk.far ?_ (by dsimp only; omega) _))
        case cm =>
          have b9 := (Blk.new (w.alloc (.cells #[.int .i64 0, .int .u64 0] 29)) 29 #[.int .i64 (x0 * 256 + x1), .int .u64 0]).drew
          simp only [World.size_alloc] at b9
          exact b9
    case rest =>
      obtain ⟨rfl, k1, hr, hm⟩ := hcut
      go_wp2_with fail
      go_loopw [25] (fun v25 wr => ∃ (i : Nat), i ≤ 8 ∧ v25 = .int .i64 i ∧ Chg [] w wr ∧ Blk wr w.heap.size 29 #[.int .i64 0, .int .u64 0] ∧ Blk wr (w.heap.size + 1) 29 #[.int .i64 (x0 * 256 + x1), .int .u64 (acc s i)]) (fun v25 _ => 8 - (intOf v25).toNat)
      case atStart => exact ⟨0, by omega, rfl, k1, hr, hm⟩
      case round =>
        clear k1 hm hr
        obtain ⟨i, hi, rfl, kr, hr, hm⟩ := hrel
        have m0 := (hm.cell 0).trans rfl
        have m1 := (hm.cell 1).trans rfl
        have f0 := hm.frozen 0
        have f1 := hm.frozen 1
        have hml := hm.lt
        by_cases hi8 : i < 8
        · have hi8' : (i : Int) < 8 := by omega
          have hw3 : IntKind.i64.wrap (8 * (i : Int)) = 8 * (i : Int) := by rw [IntKind.wrap_i64]; omega
          have hw6 : IntKind.i64.wrap (2 + (i : Int)) = 2 + (i : Int) := by rw [IntKind.wrap_i64]; omega
          have hw4 : 0 ≤ 8 * (i : Int) := by omega
          have hix := HI.out i hi8
          rw [show ((2 + i : Nat) : Int) = 2 + (i : Int) from by omega] at hix
          have HS := Lib.hid (show acc s (i + 1) = bits .or .u64 (acc s i) (IntKind.u64.wrap (bt s (2 + i) * 2 ^ (8 * i))) from rfl)
          obtain ⟨b4, b5⟩ := bt_bd s (2 + i)
          generalize bt s (2 + i) = x2 at hix HS b4 b5
          generalize acc s i = q at m1 hm HS
          have HM := Lib.hid hm
          have HR := Lib.hid hr
          clear hm hr
          go_wp2_with fail
          go_region
          all_goals
            go_wp2_with fail
            go_roundw
            case rel =>
              have b9 := HM.out.drew.set_ 1 (.int .u64 (acc s (i + 1)))
              simp only [List.setIfInBounds_toArray, List.set_cons_succ, List.set_cons_zero] at b9
              rw [HS.out] at b9
              refine ⟨i + 1, by omega, by go_num, kr.drew.setCell (p := ⟨w.heap.size + 1, 1, none⟩) (.inr (by dsimp only; omega)) _, HR.out.drew.far (p := ⟨w.heap.size + 1, 1, none⟩) (by simp) _, ?_⟩
              rw [HS.out]
              exact b9
            case measure => simp [intOf]; omega
        · obtain rfl : i = 8 := by omega
          have r0 := (hr.cell 0).trans rfl
          have r1 := (hr.cell 1).trans rfl
          have e0 := hr.frozen 0
          have e1 := hr.frozen 1
          have hrl := hr.lt
          generalize hq : acc s 8 = q at m1 hm
          have HQ := Lib.hid hq
          clear hq
          clear hm hr
          go_wp2_with fail
          refine bodyPost_ret (v := .tuple #[.agg #[.int .i64 (x0 * 256 + x1), .int .u64 q], .int .i64 0]) (by simp [results, Tryd.results20, go_sem, *]) rfl ⟨by rw [HQ.out], ?_⟩
          repeat (first | (with_reducible exact kr) | (with_reducible refine Chg.alloc ?_ _) | (with_reducible refine Chg.drew ?_) | ((with_reducible refine Chg.setCell ?_ ?hp _); case hp => (right; simp)))
  · rw [show upM s = 0 from if_neg h, show upB s = 0 from if_neg h]
    by_cases h2 : s.size < 10
    · rw [show upE s = 9 from if_pos h2]
      have h2' : (s.size : Int) < 10 := by omega
      clear h h2
      go_enter Tryd.func20, Tryd.ntmps20
      go_wp2_with fail
      refine bodyPost_ret (v := .tuple #[.agg #[.int .i64 0, .int .u64 0], .int .i64 9]) (by simp [results, Tryd.results20, go_sem, *]) rfl ⟨rfl, ?_⟩
      repeat (first | (with_reducible exact Chg.refl _ _) | (with_reducible refine Chg.alloc ?_ _) | (with_reducible refine Chg.drew ?_) | ((with_reducible refine Chg.setCell ?_ ?hp _); case hp => (right; simp)))
    · rw [show upE s = 11 from by unfold upE; rw [if_neg h2, if_pos (by omega)]]
      have h3 : (10 : Int) < (s.size : Int) := by omega
      have h2' : (10 : Int) ≤ (s.size : Int) := by omega
      clear h h2
      go_enter Tryd.func20, Tryd.ntmps20
      go_wp2_with fail
      refine bodyPost_ret (v := .tuple #[.agg #[.int .i64 0, .int .u64 0], .int .i64 11]) (by simp [results, Tryd.results20, go_sem, *]) rfl ⟨rfl, ?_⟩
      repeat (first | (with_reducible exact Chg.refl _ _) | (with_reducible refine Chg.alloc ?_ _) | (with_reducible refine Chg.drew ?_) | ((with_reducible refine Chg.setCell ?_ ?hp _); case hp => (right; simp)))

set_option maxHeartbeats 2000000 in
theorem runpack (s : ByteArray) (w : World) :
    Calls Tryd.prog 21 #[.string s] w fun e w' => e = .returned (.tuple #[.agg #[.int .i64 (upM s), .int .u64 (upB s)], .int .i64 (upE s)]) ∧ Chg [] w w' := by
  by_cases h : s.size = 10
  · rw [show upM s = bt s 0 * 256 + bt s 1 from if_pos h, show upB s = acc s 8 from if_pos h, show upE s = 0 from by unfold upE; rw [h]; rfl]
    have hi0 := idx_run s 0 (by omega)
    have hi1 := idx_run s 1 (by omega)
    simp only [Int.natCast_zero, Int.natCast_one] at hi0 hi1
    have HI := Lib.hid (fun (j : Nat) (hj : j < 8) W => idx_run s (2 + j) (by omega) W)
    obtain ⟨b0, b1⟩ := bt_bd s 0
    obtain ⟨b2, b3⟩ := bt_bd s 1
    have hsh : IntKind.i64.wrap (256 * bt s 0) = bt s 0 * 256 := by rw [IntKind.wrap_i64]; omega
    have hsi : IntKind.i64.wrap (bt s 0 * 256 + bt s 1) = bt s 0 * 256 + bt s 1 := by rw [IntKind.wrap_i64]; omega
    generalize bt s 0 = x0 at hi0 b0 b1 hsi hsh ⊢
    generalize bt s 1 = x1 at hi1 b2 b3 hsi ⊢
    go_enter Tryd.func21, Tryd.ntmps21
    go_upto_region 5 with fail
    go_cut [4] (fun v4 wx => v4 = .pointer (some ⟨w.heap.size + 1, 0, none⟩) ∧ Chg [] w wx ∧ Blk wx w.heap.size 29 #[.int .i64 0, .int .u64 0] ∧ Blk wx (w.heap.size + 1) 29 #[.int .i64 (x0 * 256 + x1), .int .u64 0])
    case first =>
      go_region
      all_goals
        go_wp2_with fail
        go_meet
        refine ⟨rfl, ?ck, ?cr, ?cm⟩
        case ck => repeat (first | (with_reducible exact Chg.refl _ _) | (with_reducible refine Chg.alloc ?_ _) | (with_reducible refine Chg.drew ?_) | (refine Chg.setCell ?_ (.inr (by dsimp only; omega)) _))
        case cr => repeat (first | (exact Blk.new w 29 #[.int .i64 0, .int .u64 0]) | (with_reducible refine Blk.alloc ?_ _) | (with_reducible refine Blk.drew ?_) | (refine Blk.far ?_ (by dsimp only; omega) _))
        case cm =>
          have b9 := (Blk.new (w.alloc (.cells #[.int .i64 0, .int .u64 0] 29)) 29 #[.int .i64 (x0 * 256 + x1), .int .u64 0]).drew
          simp only [World.size_alloc] at b9
          exact b9
    case rest =>
      obtain ⟨rfl, k1, hr, hm⟩ := hcut
      go_wp2_with fail
      go_loopw [5] (fun v25 wr => ∃ (i : Nat), i ≤ 8 ∧ v25 = .int .i64 i ∧ Chg [] w wr ∧ Blk wr w.heap.size 29 #[.int .i64 0, .int .u64 0] ∧ Blk wr (w.heap.size + 1) 29 #[.int .i64 (x0 * 256 + x1), .int .u64 (acc s i)]) (fun v25 _ => 8 - (intOf v25).toNat)
      case atStart => exact ⟨0, by omega, rfl, k1, hr, hm⟩
      case round =>
        clear k1 hm hr
        obtain ⟨i, hi, rfl, kr, hr, hm⟩ := hrel
        have m0 := (hm.cell 0).trans rfl
        have m1 := (hm.cell 1).trans rfl
        have f0 := hm.frozen 0
        have f1 := hm.frozen 1
        have hml := hm.lt
        by_cases hi8 : i < 8
        · have hi8' : (i : Int) < 8 := by omega
          have hw3 : IntKind.i64.wrap (8 * (i : Int)) = 8 * (i : Int) := by rw [IntKind.wrap_i64]; omega
          have hw6 : IntKind.i64.wrap (2 + (i : Int)) = 2 + (i : Int) := by rw [IntKind.wrap_i64]; omega
          have hw4 : 0 ≤ 8 * (i : Int) := by omega
          have hw5 : IntKind.u64.wrap (8 * (i : Int)) = 8 * (i : Int) := by rw [IntKind.wrap_u64]; omega
          have hix := HI.out i hi8
          rw [show ((2 + i : Nat) : Int) = 2 + (i : Int) from by omega] at hix
          have HS := Lib.hid (show acc s (i + 1) = bits .or .u64 (acc s i) (IntKind.u64.wrap (bt s (2 + i) * 2 ^ (8 * i))) from rfl)
          obtain ⟨b4, b5⟩ := bt_bd s (2 + i)
          generalize bt s (2 + i) = x2 at hix HS b4 b5
          generalize acc s i = q at m1 hm HS
          have HM := Lib.hid hm
          have HR := Lib.hid hr
          clear hm hr
          go_wp2_with fail
          go_region
          all_goals
            go_wp2_with fail
            go_roundw
            case rel =>
              have b9 := HM.out.drew.set_ 1 (.int .u64 (acc s (i + 1)))
              simp only [List.setIfInBounds_toArray, List.set_cons_succ, List.set_cons_zero] at b9
              rw [HS.out] at b9
              refine ⟨i + 1, by omega, by go_num, kr.drew.setCell (p := ⟨w.heap.size + 1, 1, none⟩) (.inr (by dsimp only; omega)) _, HR.out.drew.far (p := ⟨w.heap.size + 1, 1, none⟩) (by simp) _, ?_⟩
              rw [HS.out]
              exact b9
            case measure => simp [intOf]; omega
        · obtain rfl : i = 8 := by omega
          have r0 := (hr.cell 0).trans rfl
          have r1 := (hr.cell 1).trans rfl
          have e0 := hr.frozen 0
          have e1 := hr.frozen 1
          have hrl := hr.lt
          generalize hq : acc s 8 = q at m1 hm
          have HQ := Lib.hid hq
          clear hq
          clear hm hr
          go_wp2_with fail
          refine bodyPost_ret (v := .tuple #[.agg #[.int .i64 (x0 * 256 + x1), .int .u64 q], .int .i64 0]) (by simp [results, Tryd.results21, go_sem, *]) rfl ⟨by rw [HQ.out], ?_⟩
          repeat (first | (with_reducible exact kr) | (with_reducible refine Chg.alloc ?_ _) | (with_reducible refine Chg.drew ?_) | ((with_reducible refine Chg.setCell ?_ ?hp _); case hp => (right; simp)))
  · rw [show upM s = 0 from if_neg h, show upB s = 0 from if_neg h]
    by_cases h2 : s.size < 10
    · rw [show upE s = 9 from if_pos h2]
      have h2' : (s.size : Int) < 10 := by omega
      clear h h2
      go_enter Tryd.func21, Tryd.ntmps21
      go_wp2_with fail
      refine bodyPost_ret (v := .tuple #[.agg #[.int .i64 0, .int .u64 0], .int .i64 9]) (by simp [results, Tryd.results21, go_sem, *]) rfl ⟨rfl, ?_⟩
      repeat (first | (with_reducible exact Chg.refl _ _) | (with_reducible refine Chg.alloc ?_ _) | (with_reducible refine Chg.drew ?_) | ((with_reducible refine Chg.setCell ?_ ?hp _); case hp => (right; simp)))
    · rw [show upE s = 11 from by unfold upE; rw [if_neg h2, if_pos (by omega)]]
      have h3 : (10 : Int) < (s.size : Int) := by omega
      have h2' : (10 : Int) ≤ (s.size : Int) := by omega
      clear h h2
      go_enter Tryd.func21, Tryd.ntmps21
      go_wp2_with fail
      refine bodyPost_ret (v := .tuple #[.agg #[.int .i64 0, .int .u64 0], .int .i64 11]) (by simp [results, Tryd.results21, go_sem, *]) rfl ⟨rfl, ?_⟩
      repeat (first | (with_reducible exact Chg.refl _ _) | (with_reducible refine Chg.alloc ?_ _) | (with_reducible refine Chg.drew ?_) | ((with_reducible refine Chg.setCell ?_ ?hp _); case hp => (right; simp)))

end Go.Proofs.YtpohbbmldedmdaaDoor
