/- The walk of the statement BitmapSequence. -/
import Derived.Test.YtpohbbmldedmdaaDoorBt
import Derived.Deep.RegionHeld3
namespace Go.Proofs.YtpohbbmldedmdaaDoor
open Go.RowKit
set_option linter.unusedVariables false
set_option linter.unusedSimpArgs false

set_option maxHeartbeats 2000000 in
theorem lseq (a b n : Int) (w : World) : Calls Tryd.prog 16 #[.int .i64 a, .int .i64 b, .int .i64 n] w fun e w' => e = .returned (.bool true) ∧ Chg [] w w' := by
  have H1 := Lib.hid (pnext a n)
  have H2 := Lib.hid (rnext a n)
  have H3 := Lib.hid (pdist a b)
  have H4 := Lib.hid (rdist a b)
  have H5 := Lib.hid (pbef a b)
  have H6 := Lib.hid (rbef a b)
  have H7 := Lib.hid (pins a n b)
  have H8 := Lib.hid (rins a n b)
  generalize nextV a n = v1 at H1 H2
  generalize nextE a n = v2 at H1 H2
  generalize distV a b = v3 at H3 H4
  generalize distE a b = v4 at H3 H4
  generalize befB a b = v5 at H5 H6
  generalize insB a n b = v6 at H7 H8
  go_enter Tryd.func16, Tryd.ntmps16
  go_wp2_with fail
  refine (H1.out _).mono ?_
  rintro e w1 ⟨rfl, rfl⟩
  go_wp2_with fail
  refine (H2.out _).mono ?_
  rintro e w1 ⟨rfl, rfl⟩
  go_wp2_with fail
  refine (H3.out _).mono ?_
  rintro e w1 ⟨rfl, rfl⟩
  go_wp2_with fail
  refine (H4.out _).mono ?_
  rintro e w1 ⟨rfl, rfl⟩
  go_wp2_with fail
  refine (H5.out _).mono ?_
  rintro e w1 ⟨rfl, rfl⟩
  go_wp2_with fail
  refine (H6.out _).mono ?_
  rintro e w1 ⟨rfl, rfl⟩
  go_wp2_with fail
  refine (H7.out _).mono ?_
  rintro e w1 ⟨rfl, rfl⟩
  go_wp2_with fail
  refine (H8.out _).mono ?_
  rintro e w1 ⟨rfl, rfl⟩
  go_wp2_with fail
  go_ret
  exact ⟨ret_bool (by simp), Chg.refl _ _⟩

theorem cell_of_lit {w w' : World} {t : TypeId} {cs : Array Value} (hc : Chg [] (w.alloc (.cells cs t)) w') {j : Nat} {v : Value} (h : cs[j]? = some v) : w'.cell? ⟨w.heap.size, j, none⟩ = some v :=
  (((Blk.new w t cs).chg hc (by simp)).cell j).trans h

set_option maxRecDepth 100000 in
set_option maxHeartbeats 4000000 in
theorem bitmapSequence_walk {w : World} {a0 : Option Addr} {len cap : Nat} {zs : List Int} (a b n : Int) (hT : Tb w) (hz : zs.length = len) (hl : len ≤ 9223372036854775807) (hi : Inp w w.heap.size a0 zs) :
    Calls Tryd.prog 5 #[.slice a0 len cap, .int .i64 a, .int .i64 b, .int .i64 n] w fun e w' => e = .returned (.bool true) ∧ Below w.heap.size w w' := by
  have hgn := gnew_c (cap := cap) hz hl hi
  clear hz hi
  have HT := Lib.hid hT
  clear hT
  go_enter Tryd.func5, Tryd.ntmps5
  go_wp2_with fail
  refine hgn.mono ?_
  rintro e w1 ⟨c, rfl, hC1, hc1⟩
  clear hgn
  have hcl := hC1.le
  go_wp2_with fail
  go_loopw [10] (fun vi wr => ∃ (j k : Nat), j ≤ 5 ∧ k ≤ 4 * j ∧ vi = .int .i64 j ∧ Cho wr w.heap.size c zs k ∧ Chg [] w wr) (fun vi _ => 5 - (intOf vi).toNat)
  case atStart => exact ⟨0, 0, by omega, by omega, rfl, hC1, hc1⟩
  case round =>
    obtain ⟨j, k, hj, hk, rfl, hC, hch⟩ := hrel
    clear hC1 hc1
    by_cases hj5 : j < 5
    · have hj' : (j : Int) < 5 := by omega
      have p1 := nx_nonneg zs k 9
      have p2 := nx_lt zs k 9 (by omega)
      have q1 := nx_nonneg zs (k + 1) 9
      have q2 := nx_lt zs (k + 1) 9 (by omega)
      have HN1 := Lib.hid (fun (W : World) (hW : Cho W w.heap.size c zs k) => next_c (n := 9) hW (by omega) (by omega))
      have HN2 := Lib.hid (fun (W : World) (hW : Cho W w.heap.size c zs (k + 1)) => next_c (n := 9) hW (by omega) (by omega))
      obtain ⟨i1, hi1⟩ := Int.eq_ofNat_of_zero_le p1
      obtain ⟨i2, hi2⟩ := Int.eq_ofNat_of_zero_le q1
      rw [hi1] at p1 p2 HN1
      rw [hi2] at q1 q2 HN2
      clear hi1 hi2
      have lits : ∀ i : Nat, i < 9 → ∃ v : Int, (#[.int .i64 0, .int .i64 1, .int .i64 65535, .int .i64 65534, .int .i64 32767, .int .i64 32768, .int .i64 100, .int .i64 63, .int .i64 64] : Array Value)[i]? = some (.int .i64 v) := by
        intro i hi
        match i, hi with
        | 0, _ => exact ⟨_, rfl⟩
        | 1, _ => exact ⟨_, rfl⟩
        | 2, _ => exact ⟨_, rfl⟩
        | 3, _ => exact ⟨_, rfl⟩
        | 4, _ => exact ⟨_, rfl⟩
        | 5, _ => exact ⟨_, rfl⟩
        | 6, _ => exact ⟨_, rfl⟩
        | 7, _ => exact ⟨_, rfl⟩
        | 8, _ => exact ⟨_, rfl⟩
      obtain ⟨x, hx⟩ := lits i1 (by omega)
      obtain ⟨y, hy⟩ := lits i2 (by omega)
      clear lits
      have hcr := hC.lt
      have hlb := (Blk.new wr 3 #[.int .i64 0, .int .i64 1, .int .i64 65535, .int .i64 65534, .int .i64 32767, .int .i64 32768, .int .i64 100, .int .i64 63, .int .i64 64]).drew
      have hS0 : ∀ W', Chg [c] (wr.alloc (.cells #[.int .i64 0, .int .i64 1, .int .i64 65535, .int .i64 65534, .int .i64 32767, .int .i64 32768, .int .i64 100, .int .i64 63, .int .i64 64] 3)).drew W' → W'.cell? ⟨wr.heap.size, i1, none⟩ = some (.int .i64 x) ∧ W'.cell? ⟨wr.heap.size, i2, none⟩ = some (.int .i64 y) := fun W' h =>
        ⟨((hlb.chg h (by simp; omega)).cell i1).trans hx, ((hlb.chg h (by simp; omega)).cell i2).trans hy⟩
      have HS0 := Lib.hid hS0
      have hS00 := hS0 _ (Chg.refl _ _)
      have hC0 : Cho (wr.alloc (.cells #[.int .i64 0, .int .i64 1, .int .i64 65535, .int .i64 65534, .int .i64 32767, .int .i64 32768, .int .i64 100, .int .i64 63, .int .i64 64] 3)).drew w.heap.size c zs k := hC.chg (((Chg.refl [] wr).alloc _).drew) (by simp) (by simp)
      have HC0 := Lib.hid hC0
      have k0 : Chg [] w (wr.alloc (.cells #[.int .i64 0, .int .i64 1, .int .i64 65535, .int .i64 65534, .int .i64 32767, .int .i64 32768, .int .i64 100, .int .i64 63, .int .i64 64] 3)).drew := (hch.alloc _).drew
      clear hS0 hC0 hlb hx hy hC hch
      go_wp2_with fail
      go_region_held3 (fun w' => w'.cell? ⟨wr.heap.size, i1, none⟩ = some (.int .i64 x) ∧ w'.cell? ⟨wr.heap.size, i2, none⟩ = some (.int .i64 y)) (first | exact hS2 | exact hS1 | exact hS00 | go_keep)
        (first
          | (go_at_call 9; have hZ := hcb; clear hZ; refine (HN2.out _ hCb).mono ?_; rintro e wc ⟨rfl, hCc, hcc⟩; have hS2 := HS0.out _ (hcb.trans hcc (by simp)))
          | (go_at_call 9; refine (HN1.out _ HC0.out).mono ?_; rintro e wb ⟨rfl, hCb, hcb⟩; have hS1 := HS0.out _ hcb))
      have kc : Chg [] w wc := (k0.trans hcb (by simp; omega)).trans hcc (by simp; omega)
      have m1 := nx_nonneg zs (k + 1 + 1) 140
      have m2 := nx_lt zs (k + 1 + 1) 140 (by omega)
      have r1 := nx_nonneg zs (k + 1 + 1 + 1) 3
      have r2 := nx_lt zs (k + 1 + 1 + 1) 3 (by omega)
      clear HS0 hS00 HC0 k0 hcb hCb hcc hS1 hS2 HN1 HN2 p1 p2 q1 q2
      go_wp2_with fail
      refine (next_c hCc (by omega) (by omega)).mono ?_
      rintro e wd ⟨rfl, hCd, hcd⟩
      have kd : Chg [] w wd := kc.trans hcd (by simp; omega)
      generalize nx zs (k + 1 + 1) 140 = z at m1 m2 ⊢
      go_wp2_with fail
      refine (lseq x y _ _).mono ?_
      rintro e we ⟨rfl, hce⟩
      go_wp2_with fail
      refine (lseq a x n _).mono ?_
      rintro e wf ⟨rfl, hcf⟩
      have hcef := hce.trans hcf (by simp)
      have hCf := hCd.chg hcef (by simp) (by simp)
      have kf := kd.trans hcef (by simp)
      clear hCc hcd hCd kd kc hce hcf hcef
      go_wp2_with fail
      refine (next_c (hCf.chg ((Chg.refl [] wf).alloc (.cells #[.int .i64 65536, .int .i64 (-65536), .int .i64 65537] 3)) (by simp) (by simp)) (by omega) (by omega)).mono ?_
      rintro e wg ⟨rfl, hCg, hcg⟩
      have kg : Chg [] w wg := (kf.alloc _).trans hcg (by simp; omega)
      obtain ⟨i3, hi3⟩ := Int.eq_ofNat_of_zero_le r1
      rw [hi3] at r1 r2 ⊢
      clear hi3
      obtain ⟨v3, hv3⟩ : ∃ v : Int, (#[.int .i64 65536, .int .i64 (-65536), .int .i64 65537] : Array Value)[i3]? = some (.int .i64 v) := by
        match i3, r2 with
        | 0, _ => exact ⟨_, rfl⟩
        | 1, _ => exact ⟨_, rfl⟩
        | 2, _ => exact ⟨_, rfl⟩
        | n + 3, h => omega
      have hfl := hCf.lt
      have c3 : wg.cell? ⟨wf.heap.size, i3, none⟩ = some (.int .i64 v3) := (((Blk.new wf 3 #[.int .i64 65536, .int .i64 (-65536), .int .i64 65537]).chg hcg (by simp; omega)).cell i3).trans hv3
      clear hv3 hcg
      go_wp2_with fail
      refine (lseq x y v3 _).mono ?_
      rintro e wh ⟨rfl, hch⟩
      go_wp2_with fail
      go_roundw
      case rel => exact ⟨j + 1, k + 1 + 1 + 1 + 1, by omega, by omega, by go_num, hCg.chg hch (by simp) (by simp), kg.trans hch (by simp)⟩
      case measure => simp [intOf]; omega
    · have hge : (5 : Int) ≤ (j : Int) := by omega
      go_wp2_with fail
      refine (lseq a b n _).mono ?_
      rintro e w2 ⟨rfl, hc2⟩
      have k2 := hch.trans hc2 (by simp)
      go_wp2_with fail
      refine (bawake_c _ (HT.out.chg k2)).mono ?_
      rintro e w3 ⟨rfl, hc3⟩
      go_wp2_with fail
      go_ret
      exact ⟨rfl, (k2.trans hc3 (by simp)).below (Nat.le_refl _) (by simp)⟩

end Go.Proofs.YtpohbbmldedmdaaDoor
