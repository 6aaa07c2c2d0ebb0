/- The walk of the statement BitmapBits. -/
import Derived.Test.YtpohbbmldedmdaaDoorBbv
import Derived.Deep.RegionWith
import Derived.Deep.DeepCutAuto
import Derived.Deep.DeepMust
namespace Go.Proofs.YtpohbbmldedmdaaDoor
open Go.RowKit
set_option linter.unusedVariables false
set_option linter.unusedSimpArgs false

set_option maxRecDepth 100000 in
set_option maxHeartbeats 8000000 in
theorem bitmapBits_walk {w : World} {a0 : Option Addr} {len cap : Nat} {zs : List Int} (base bts seq : Int) (hb0 : 0 ≤ bts) (hb1 : bts < 18446744073709551616) (hT : Tb w) (hz : zs.length = len) (hl : len ≤ 9223372036854775807) (hi : Inp w w.heap.size a0 zs) :
    Calls Tryd.prog 6 #[.slice a0 len cap, .int .i64 base, .int .u64 bts, .int .i64 seq] w fun e w' => e = .returned (.bool true) ∧ Below w.heap.size w w' := by
  have hgn := gnew_c (cap := cap) hz hl hi
  clear hz hi
  have HT := Lib.hid hT
  clear hT
  go_enter Tryd.func6, Tryd.ntmps6
  go_wp2_with fail
  refine hgn.mono ?_
  rintro e w1 ⟨c, rfl, hC1, hc1⟩
  clear hgn
  have hcl := hC1.le
  go_wp2_with fail
  go_loopw [10] (fun vi wr => ∃ (j k : Nat), j ≤ 5 ∧ k ≤ 5 * j ∧ vi = .int .i64 j ∧ Cho wr w.heap.size c zs k ∧ Chg [] w wr) (fun vi _ => 5 - (intOf vi).toNat)
  case atStart => exact ⟨0, 0, by omega, by omega, rfl, hC1, hc1⟩
  case round =>
    obtain ⟨j, k, hj, hk, rfl, hC, hch⟩ := hrel
    clear hC1 hc1
    by_cases hj5 : j < 5
    · have hj' : (j : Int) < 5 := by omega
      have p1 := nx_nonneg zs k 6
      have p2 := nx_lt zs k 6 (by omega)
      have HN1 := Lib.hid (fun (W : World) (hW : Cho W w.heap.size c zs k) => next_c (n := 6) hW (by omega) (by omega))
      have HU := Lib.hid (fun (W : World) (hW : Cho W w.heap.size c zs (k + 1)) => puint64 hW (by omega))
      obtain ⟨i1, hi1⟩ := Int.eq_ofNat_of_zero_le p1
      rw [hi1] at p1 p2 HN1
      clear hi1
      obtain ⟨x, hx⟩ : ∃ v : Int, (#[.int .i64 0, .int .i64 65535, .int .i64 65500, .int .i64 77, .int .i64 (-1), .int .i64 65536] : Array Value)[i1]? = some (.int .i64 v) := by
        match i1, p2 with
        | 0, _ => exact ⟨_, rfl⟩
        | 1, _ => exact ⟨_, rfl⟩
        | 2, _ => exact ⟨_, rfl⟩
        | 3, _ => exact ⟨_, rfl⟩
        | 4, _ => exact ⟨_, rfl⟩
        | 5, _ => exact ⟨_, rfl⟩
        | n + 6, h => omega
      have hcr := hC.lt
      have hw0 := hch.size
      go_upto_region 5 with fail
      go_cut [11] (fun s11 wx => ∃ (g : Nat) (v : Int), s11 = .pointer (some ⟨g, 0, none⟩) ∧ wx.cell? ⟨g, 0, none⟩ = some (.int .i64 x) ∧ wx.cell? ⟨g, 1, none⟩ = some (.int .u64 v) ∧ 0 ≤ v ∧ v < 18446744073709551616 ∧ Cho wx w.heap.size c zs (k + 1 + 1) ∧ Chg [] w wx ∧ w.heap.size ≤ g ∧ g ≠ c)
      case first =>
        have hn0 : ¬ wr.heap.size = c := by omega
        have hn1 : ¬ wr.heap.size + 1 = c := by omega
        go_region_with (first
          | (go_at_call 9; go_must (refine (HN1.out _ (by repeat (first | exact hC | (refine Cho.al ?_ _) | (refine Cho.dr ?_)))).mono ?_; rintro e wb ⟨rfl, hCb, hcb⟩; obtain ⟨bq1, bq2⟩ := bcell hcb; have hzb := hcb.size; (try simp only [World.size_alloc, World.size_drew] at hzb); have hcbl := hCb.lt; (try (have hl1 : wr.heap.size < wb.heap.size := (by omega))); (try (have hl2 : wr.heap.size + 1 < wb.heap.size := (by omega))); have hn2 : ¬ wb.heap.size = c := (by omega); have hn3 : ¬ wb.heap.size + 1 = c := (by omega); have kb : Chg [] w wb := chg_of (by repeat (first | exact hch | (refine Chg.drew ?_) | (refine Chg.alloc ?_ _))) hcb hcl))
          | (go_at_call 10; go_must (refine (HU.out _ (by repeat (first | exact hCb | (refine Cho.al ?_ _) | (refine Cho.dr ?_)))).mono ?_; rintro e wc ⟨v, rfl, v0, v1, hCc, hcc⟩; obtain ⟨bq3, bq4⟩ := bcell hcc; have hzc := hcc.size; (try simp only [World.size_alloc, World.size_drew] at hzc); have hccl := hCc.lt; (try (have hl3 : wb.heap.size < wc.heap.size := (by omega))); (try (have hl4 : wb.heap.size + 1 < wc.heap.size := (by omega))); (try (have hl5 : wr.heap.size < wc.heap.size := (by omega))); (try (have hl6 : wr.heap.size + 1 < wc.heap.size := (by omega))); have hn4 : ¬ wc.heap.size = c := (by omega); have hn5 : ¬ wc.heap.size + 1 = c := (by omega); have kc : Chg [] w wc := chg_of (by repeat (first | exact kb | (refine Chg.drew ?_) | (refine Chg.alloc ?_ _))) hcc hcl)))
        all_goals
          go_wp2_with fail
          go_meet
          have hm1 : wb.heap.size < wb.heap.size + 1 + 1 := by omega
          have hm2 : wr.heap.size < wr.heap.size + 1 + 1 := by omega
          (try have hm3 : wr.heap.size < wb.heap.size + 1 := by omega)
          (try have hm4 : wr.heap.size < wb.heap.size + 1 + 1 := by omega)
          (try have hm5 : wr.heap.size + 1 < wb.heap.size + 1 := by omega)
          (try have hm6 : wr.heap.size + 1 < wb.heap.size + 1 + 1 := by omega)
          refine ⟨_, v, rfl, ?c0, ?c1, v0, v1, ?ch, ?kk, ?hg, ?hc⟩
          case c0 => first | (go_simp; done) | (simp [*]; done)
          case c1 => first | (go_simp; done) | (simp [*]; done)
          case ch => repeat (first | (with_reducible exact hCc) | (with_reducible refine Cho.al ?_ _) | (with_reducible refine Cho.dr ?_) | (refine Cho.st ?_ (by dsimp only; omega) (by dsimp only; omega) _))
          case kk => repeat (first | (with_reducible exact kc) | (with_reducible refine Chg.alloc ?_ _) | (with_reducible refine Chg.drew ?_) | (refine Chg.setCell ?_ (.inr (by dsimp only; omega)) _))
          case hg => omega
          case hc => omega
      case rest =>
        obtain ⟨g, v, rfl, c0, c1, v0, v1, hC2, k2, hg, hgc⟩ := hcut
        have r1 := nx_nonneg zs (k + 1 + 1) 80
        have r2 := nx_lt zs (k + 1 + 1) 80 (by omega)
        have r3 := nx_nonneg zs (k + 1 + 1 + 1) 70
        have r4 := nx_lt zs (k + 1 + 1 + 1) 70 (by omega)
        have gl := block_lt_of_cell c0
        have fac : ∀ W', Chg [c] wc.drew W' → W'.cell? ⟨g, 0, none⟩ = some (.int .i64 x) ∧ W'.cell? ⟨g, 1, none⟩ = some (.int .u64 v) := fun W' h =>
          ⟨(h.cell (p := ⟨g, 0, none⟩) gl (by simpa using hgc)).trans c0, (h.cell (p := ⟨g, 1, none⟩) gl (by simpa using hgc)).trans c1⟩
        have FAC := Lib.hid fac
        have hS0 := fac _ (Chg.refl _ _)
        have HC2 := Lib.hid (hC2.chg ((Chg.refl [] wc).drew) (by simp) (by simp))
        have HLS := Lib.hid (fun (q : Int) W => lsets x v q W v0 v1)
        clear fac hC hch hx c0 c1 p1 p2
        go_wp2_with fail
        go_region_held3 (fun w' => w'.cell? ⟨g, 0, none⟩ = some (.int .i64 x) ∧ w'.cell? ⟨g, 1, none⟩ = some (.int .u64 v)) (first | exact hS5 | exact hS4 | exact hS3 | exact hS2 | exact hS1 | exact hS0 | go_keep)
          (first
            | (go_at_call 17; have hZ := hq4; clear hZ; refine (HLS.out _ _).mono ?_; rintro e we ⟨rfl, he⟩; have hq5 := hq4.trans he (by simp); have hS5 := FAC.out _ hq5)
            | (go_at_call 17; have hZ := hq3; clear hZ; refine (HLS.out _ _).mono ?_; rintro e wd ⟨rfl, hd⟩; have hq4 := hq3.trans hd (by simp); have hS4 := FAC.out _ hq4)
            | (go_at_call 9; have hZ := hq2; clear hZ; refine (next_c (hCa.chg hb (by simp) (by simp)) (by omega) (by omega)).mono ?_; rintro e wy ⟨rfl, hCy, hy⟩; have hq3 := hq2.trans hy (by simp); have hS3 := FAC.out _ hq3)
            | (go_at_call 17; have hZ := hq1; clear hZ; refine (HLS.out _ _).mono ?_; rintro e wb ⟨rfl, hb⟩; have hq2 := hq1.trans hb (by simp); have hS2 := FAC.out _ hq2)
            | (go_at_call 9; refine (next_c HC2.out (by omega) (by omega)).mono ?_; rintro e wa ⟨rfl, hCa, hq1⟩; have hS1 := FAC.out _ hq1))
        have kE := chg_of k2.drew hq5 hcl
        have hCE := (hCy.chg hd (by simp) (by simp)).chg he (by simp) (by simp)
        go_wp2_with fail
        go_roundw
        case rel => exact ⟨j + 1, k + 1 + 1 + 1 + 1, by omega, by omega, by go_num, hCE, kE⟩
        case measure => simp [intOf]; omega
    · have hge : (5 : Int) ≤ (j : Int) := by omega
      go_wp2_with fail
      refine (lsets base bts seq _ hb0 hb1).mono ?_
      rintro e w2 ⟨rfl, hc2⟩
      have k2 := hch.trans hc2 (by simp)
      go_wp2_with fail
      refine (bawake_c _ (HT.out.chg k2)).mono ?_
      rintro e w3 ⟨rfl, hc3⟩
      go_wp2_with fail
      go_ret
      exact ⟨rfl, (k2.trans hc3 (by simp)).below (Nat.le_refl _) (by simp)⟩

end Go.Proofs.YtpohbbmldedmdaaDoor
