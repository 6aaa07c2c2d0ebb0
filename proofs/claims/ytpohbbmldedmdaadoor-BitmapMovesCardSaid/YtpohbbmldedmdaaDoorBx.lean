/- The walk of the statement BitmapMoves. -/
import Derived.Test.YtpohbbmldedmdaaDoorBw
import Derived.Test.YtpohbbmldedmdaaDoorBbv
import Derived.Deep.RegionWith
import Derived.Deep.DeepCutAuto
import Derived.Deep.DeepMust
namespace Go.Proofs.YtpohbbmldedmdaaDoor
open Go.RowKit
set_option linter.unusedVariables false
set_option linter.unusedSimpArgs false

set_option maxRecDepth 100000 in
set_option maxHeartbeats 8000000 in
theorem bitmapMoves_walk {w : World} {a0 : Option Addr} {len cap : Nat} {zs : List Int} (base bts tq : Int) (hb0 : 0 ≤ bts) (hb1 : bts < 18446744073709551616) (hT : Tb w) (hz : zs.length = len) (hl : len ≤ 9223372036854775807) (hi : Inp w w.heap.size a0 zs) :
    Calls Tryd.prog 3 #[.slice a0 len cap, .int .i64 base, .int .u64 bts, .int .i64 tq] w fun e w' => e = .returned (.bool true) ∧ Below w.heap.size w w' := by
  have hgn := gnew_c (cap := cap) hz hl hi
  clear hz hi
  have HT := Lib.hid hT
  clear hT
  go_enter Tryd.func3, Tryd.ntmps3
  go_wp2_with fail
  refine hgn.mono ?_
  rintro e w1 ⟨c, rfl, hC1, hc1⟩
  clear hgn
  have hcl := hC1.le
  go_wp2_with fail
  go_loopw [10] (fun vi wr => ∃ (j k : Nat), j ≤ 5 ∧ k ≤ 5 * j ∧ vi = .int .i64 j ∧ Cho wr w.heap.size c zs k ∧ Chg [] w wr) (fun vi _ => 5 - (intOf vi).toNat)
  case atStart => exact ⟨0, 0, by omega, by omega, rfl, hC1, hc1⟩
  case round =>
    obtain ⟨j, k, hj, hk, rfl, hC, hch⟩ := hrel
    clear hC1 hc1
    by_cases hj5 : j < 5
    · have hj' : (j : Int) < 5 := by omega
      have p1 := nx_nonneg zs k 5
      have p2 := nx_lt zs k 5 (by omega)
      have HN1 := Lib.hid (fun (W : World) (hW : Cho W w.heap.size c zs k) => next_c (n := 5) hW (by omega) (by omega))
      have HU := Lib.hid (fun (W : World) (hW : Cho W w.heap.size c zs (k + 1)) => puint64 hW (by omega))
      obtain ⟨i1, hi1⟩ := Int.eq_ofNat_of_zero_le p1
      rw [hi1] at p1 p2 HN1
      clear hi1
      obtain ⟨x, hx⟩ : ∃ v : Int, (#[.int .i64 0, .int .i64 65535, .int .i64 65500, .int .i64 77, .int .i64 (-1)] : Array Value)[i1]? = some (.int .i64 v) := by
        match i1, p2 with
        | 0, _ => exact ⟨_, rfl⟩
        | 1, _ => exact ⟨_, rfl⟩
        | 2, _ => exact ⟨_, rfl⟩
        | 3, _ => exact ⟨_, rfl⟩
        | 4, _ => exact ⟨_, rfl⟩
        | n + 5, h => omega
      have hcr := hC.lt
      have hw0 := hch.size
      go_upto_region 5 with fail
      go_cut [11] (fun s11 wx => ∃ (g : Nat) (v : Int), s11 = .pointer (some ⟨g, 0, none⟩) ∧ wx.cell? ⟨g, 0, none⟩ = some (.int .i64 x) ∧ wx.cell? ⟨g, 1, none⟩ = some (.int .u64 v) ∧ 0 ≤ v ∧ v < 18446744073709551616 ∧ Cho wx w.heap.size c zs (k + 1 + 1) ∧ Chg [] w wx ∧ w.heap.size ≤ g ∧ g ≠ c)
      case first =>
        have hn0 : ¬ wr.heap.size = c := by omega
        have hn1 : ¬ wr.heap.size + 1 = c := by omega
        go_region_with (first
          | (go_at_call 9; go_must (refine (HN1.out _ (by repeat (first | exact hC | (refine Cho.al ?_ _) | (refine Cho.dr ?_)))).mono ?_; rintro e wb ⟨rfl, hCb, hcb⟩; obtain ⟨bq1, bq2⟩ := bcell hcb; have hzb := hcb.size; (try simp only [World.size_alloc, World.size_drew] at hzb); have hcbl := hCb.lt; (try (have hl1 : wr.heap.size < wb.heap.size := (by omega))); (try (have hl2 : wr.heap.size + 1 < wb.heap.size := (by omega))); have hn2 : ¬ wb.heap.size = c := (by omega); have hn3 : ¬ wb.heap.size + 1 = c := (by omega); have kb : Chg [] w wb := chg_of (by repeat (first | exact hch | (refine Chg.drew ?_) | (refine Chg.alloc ?_ _))) hcb hcl))
          | (go_at_call 10; go_must (refine (HU.out _ (by repeat (first | exact hCb | (refine Cho.al ?_ _) | (refine Cho.dr ?_)))).mono ?_; rintro e wc ⟨v, rfl, v0, v1, hCc, hcc⟩; obtain ⟨bq3, bq4⟩ := bcell hcc; have hzc := hcc.size; (try simp only [World.size_alloc, World.size_drew] at hzc); have hccl := hCc.lt; (try (have hl3 : wb.heap.size < wc.heap.size := (by omega))); (try (have hl4 : wb.heap.size + 1 < wc.heap.size := (by omega))); (try (have hl5 : wr.heap.size < wc.heap.size := (by omega))); (try (have hl6 : wr.heap.size + 1 < wc.heap.size := (by omega))); have hn4 : ¬ wc.heap.size = c := (by omega); have hn5 : ¬ wc.heap.size + 1 = c := (by omega); have kc : Chg [] w wc := chg_of (by repeat (first | exact kb | (refine Chg.drew ?_) | (refine Chg.alloc ?_ _))) hcc hcl)))
        all_goals
          go_wp2_with fail
          go_meet
          have hm1 : wb.heap.size < wb.heap.size + 1 + 1 := by omega
          have hm2 : wr.heap.size < wr.heap.size + 1 + 1 := by omega
          (try have hm3 : wr.heap.size < wb.heap.size + 1 := by omega)
          (try have hm4 : wr.heap.size < wb.heap.size + 1 + 1 := by omega)
          (try have hm5 : wr.heap.size + 1 < wb.heap.size + 1 := by omega)
          (try have hm6 : wr.heap.size + 1 < wb.heap.size + 1 + 1 := by omega)
          refine ⟨_, v, rfl, ?c0, ?c1, v0, v1, ?ch, ?kk, ?hg, ?hc⟩
          case c0 => first | (go_simp; done) | (simp [*]; done)
          case c1 => first | (go_simp; done) | (simp [*]; done)
          case ch => repeat (first | (with_reducible exact hCc) | (with_reducible refine Cho.al ?_ _) | (with_reducible refine Cho.dr ?_) | (refine Cho.st ?_ (by dsimp only; omega) (by dsimp only; omega) _))
          case kk => repeat (first | (with_reducible exact kc) | (with_reducible refine Chg.alloc ?_ _) | (with_reducible refine Chg.drew ?_) | (refine Chg.setCell ?_ (.inr (by dsimp only; omega)) _))
          case hg => omega
          case hc => omega
      case rest =>
        obtain ⟨g, v, rfl, c0, c1, v0, v1, hC2, k2, hg, hgc⟩ := hcut
        have gl := block_lt_of_cell c0
        have fac : ∀ W', Chg [c] wc.drew W' → (W'.cell? ⟨g, 0, none⟩ = some (.int .i64 x) ∧ W'.cell? ⟨g, 1, none⟩ = some (.int .u64 v)) ∧ g < W'.heap.size ∧ c < W'.heap.size ∧ Chg [] w W' := fun W' h =>
          ⟨⟨(h.cell (p := ⟨g, 0, none⟩) gl (by simpa using hgc)).trans c0, (h.cell (p := ⟨g, 1, none⟩) gl (by simpa using hgc)).trans c1⟩, Nat.lt_of_lt_of_le gl h.size, Nat.lt_of_lt_of_le hC2.lt h.size, chg_of k2.drew h hcl⟩
        have FAC := Lib.hid fac
        have HTT := Lib.hid (fun W' (h : Chg [] w W') => HT.out.chg h)
        have HC2 := Lib.hid (hC2.chg ((Chg.refl [] wc).drew) (by simp) (by simp))
        have HNA := Lib.hid (fun (W : World) (hW : Cho W w.heap.size c zs (k + 1 + 1)) => next_c (n := 80) hW (by omega) (by omega))
        have HNB := Lib.hid (fun (W : World) (hW : Cho W w.heap.size c zs (k + 1 + 1 + 1)) => next_c (n := 4) hW (by omega) (by omega))
        have HLM := Lib.hid (fun (q : Int) W hW => lmoves x v q W hW v0 v1)
        have q1 := nx_nonneg zs (k + 1 + 1 + 1) 4
        have q2 := nx_lt zs (k + 1 + 1 + 1) 4 (by omega)
        obtain ⟨i2, hi2⟩ := Int.eq_ofNat_of_zero_le q1
        rw [hi2] at q1 q2 HNB
        clear hi2
        obtain ⟨y, hy⟩ : ∃ v : Int, (#[.int .i64 32767, .int .i64 32768, .int .i64 65535, .int .i64 65536] : Array Value)[i2]? = some (.int .i64 v) := by
          match i2, q2 with
          | 0, _ => exact ⟨_, rfl⟩
          | 1, _ => exact ⟨_, rfl⟩
          | 2, _ => exact ⟨_, rfl⟩
          | 3, _ => exact ⟨_, rfl⟩
          | n + 4, h => omega
        generalize nx zs (k + 1 + 1) 80 = n80 at HNA
        clear fac hC hch hx p1 p2 hC2 k2
        go_upto_region 6 with fail
        go_cut [46] (fun s46 wx => ∃ kk : Nat, kk ≤ k + 5 ∧ s46 = .bool false ∧ Cho wx w.heap.size c zs kk ∧ Chg [] w wx)
        case first =>
          go_region_with (first
            | (go_at_call 11; have hZ := hq4; clear hZ; go_must (refine (HLM.out _ _ (HTT.out _ (FAC.out _ (by repeat (first | exact hq4 | (refine Chg.drew ?_) | (refine Chg.alloc ?_ _)))).2.2.2)).mono ?_; rintro e we ⟨rfl, he⟩; have hq5 : Chg [c] wc.drew we := Chg.trans (by repeat (first | exact hq4 | (refine Chg.drew ?_) | (refine Chg.alloc ?_ _))) he (by simp); have hC9 : Cho we w.heap.size c zs (k + 1 + 1 + 1 + 1) := Cho.chg (by repeat (first | exact hC8 | (refine Cho.al ?_ _) | (refine Cho.dr ?_))) he (by simp) (by simp)))
            | (go_at_call 11; have hZ := hq3; clear hZ; go_must (refine (HLM.out _ _ (HTT.out _ (FAC.out _ (by repeat (first | exact hq3 | (refine Chg.drew ?_) | (refine Chg.alloc ?_ _)))).2.2.2)).mono ?_; rintro e wd ⟨rfl, hd⟩; have hq4 : Chg [c] wc.drew wd := Chg.trans (by repeat (first | exact hq3 | (refine Chg.drew ?_) | (refine Chg.alloc ?_ _))) hd (by simp); have hC8 : Cho wd w.heap.size c zs (k + 1 + 1 + 1 + 1) := Cho.chg (by repeat (first | exact hCy | (refine Cho.al ?_ _) | (refine Cho.dr ?_))) hd (by simp) (by simp); obtain ⟨⟨g7, g8⟩, g9, -⟩ := FAC.out _ hq4))
            | (go_at_call 9; have hZ := hq2; clear hZ; go_must (refine (HNB.out _ (by repeat (first | exact hCb | (refine Cho.al ?_ _) | (refine Cho.dr ?_)))).mono ?_; rintro e wy ⟨rfl, hCy, hy'⟩; obtain ⟨bq1, bq2⟩ := bcell hy'; have hzb := hy'.size; (try simp only [World.size_alloc, World.size_drew] at hzb); (try (have hl1 : wb.heap.size < wy.heap.size := (by omega))); have hq3 : Chg [c] wc.drew wy := Chg.trans (by repeat (first | exact hq2 | (refine Chg.drew ?_) | (refine Chg.alloc ?_ _))) hy' (by simp); obtain ⟨⟨g4, g5⟩, g6, -⟩ := FAC.out _ hq3))
            | (go_at_call 11; have hZ := hq1; clear hZ; go_must (refine (HLM.out _ _ (HTT.out _ (FAC.out _ hq1).2.2.2)).mono ?_; rintro e wb ⟨rfl, hb⟩; have hq2 := hq1.trans hb (by simp); have hCb := hCa.chg hb (by simp) (by simp); obtain ⟨⟨g1, g2⟩, g3, gc3, -⟩ := FAC.out _ hq2; have hn9 : ¬ wb.heap.size = c := (by omega)))
            | (go_at_call 9; go_must (refine (HNA.out _ HC2.out).mono ?_; rintro e wa ⟨rfl, hCa, hq1⟩; obtain ⟨⟨a1, a2⟩, a3, -⟩ := FAC.out _ hq1)))
          all_goals
            go_wp2_with fail
            go_meet
            exact ⟨k + 1 + 1 + 1 + 1, by omega, rfl, hC9, (FAC.out _ hq5).2.2.2⟩
        case rest =>
          obtain ⟨kk, hkk, rfl, hCE, kE⟩ := hcut
          go_wp2_with fail
          go_roundw
          case rel => exact ⟨j + 1, kk, by omega, by omega, by go_num, hCE, kE⟩
          case measure => simp [intOf]; omega
    · have hge : (5 : Int) ≤ (j : Int) := by omega
      go_wp2_with fail
      refine (lmoves base bts tq _ (HT.out.chg (by repeat (first | exact hch | (refine Chg.drew ?_) | (refine Chg.alloc ?_ _)))) hb0 hb1).mono ?_
      rintro e w2 ⟨rfl, hc2⟩
      have k2 := hch.trans hc2 (by simp)
      go_wp2_with fail
      refine (bawake_c _ (HT.out.chg k2)).mono ?_
      rintro e w3 ⟨rfl, hc3⟩
      go_wp2_with fail
      go_ret
      exact ⟨rfl, (k2.trans hc3 (by simp)).below (Nat.le_refl _) (by simp)⟩

end Go.Proofs.YtpohbbmldedmdaaDoor
