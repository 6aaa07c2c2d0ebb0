/- The walk of the statement ReceiverScript. -/
import Derived.Test.YtgkdlplocahnnaaRf
import Derived.Deep.CutBlock
namespace Go.Proofs.Ytgkdlplocahnnaa
open Go.RowKit Go.Maps
set_option linter.unusedVariables false
set_option linter.unusedSimpArgs false

/-- What stands at the head of ReceiverScript's rounds. -/
def ScRel (w wr : World) (B0 r m s c : Nat) (zs : List Int) (wd : Int) (k : Nat) (base : Int) : Prop := ∃ p n x H, Pr w wr B0 r m s c zs p n wd x H ∧ n ≤ k ∧ p ≤ 10 * k ∧ (0 ≤ base ∧ base < 65536)

theorem uchg {c : Nat} {W w4 : World} (h : Chg [c] W w4) : ∀ b o, b < W.heap.size → ¬ b = c → w4.cell? ⟨b, o, none⟩ = W.cell? ⟨b, o, none⟩ := fun b o hb hn => h.cell (p := ⟨b, o, none⟩) hb (by simpa using hn)
theorem tab6 {j : Nat} (h : j < 6) : ∃ y : Int, (#[.int .i64 32767, .int .i64 32768, .int .i64 65535, .int .i64 65472, .int .i64 65471, .int .i64 40000] : Array Value)[j]? = some (.int .i64 y) ∧ 0 ≤ y ∧ y ≤ 65535 := by
  rcases j with _ | _ | _ | _ | _ | _ | j
  · exact ⟨_, rfl, by omega, by omega⟩
  · exact ⟨_, rfl, by omega, by omega⟩
  · exact ⟨_, rfl, by omega, by omega⟩
  · exact ⟨_, rfl, by omega, by omega⟩
  · exact ⟨_, rfl, by omega, by omega⟩
  · exact ⟨_, rfl, by omega, by omega⟩
  · omega
theorem pick4 {v : Int} (h0 : 0 ≤ v) (h1 : v < 4) : v = 0 ∨ v = 1 ∨ v = 2 ∨ v = 3 := by omega

set_option maxRecDepth 100000 in
set_option maxHeartbeats 32000000 in
theorem receiverScript_walk {w : World} {a : Option Addr} {len cap : Nat} {zs : List Int} (hz : zs.length = len) (hl : len ≤ 9223372036854775807) (hi : Inp w w.heap.size a zs) (pa pb : Int) :
    Calls Try.prog 5 #[.slice a len cap, .int .i64 pa, .int .i64 pb] w fun e w' => e = .returned (.bool true) ∧ Below w.heap.size w w' := by
  have hgn := gnew_c (cap := cap) hz hl hi
  clear hz hi
  go_enter Try.func5, Try.ntmps5
  go_wp2_with fail
  refine hgn.mono ?_
  rintro e w1 ⟨c, rfl, hC1, hc1⟩
  have HK1 := Lib.hid hc1
  go_upto_region 2 with fail
  go_cut [8] (fun v wx => ∃ wd : Int, v = .int .i64 wd ∧ 1 ≤ wd ∧ wd ≤ 64 ∧ Cho wx w.heap.size c zs 1 ∧ Chg [] w wx)
  case first =>
    have kA : Chg [] w1 (w1.alloc (.cells #[.int .i64 1, .int .i64 2, .int .i64 5, .int .i64 64] 3)) := (Chg.refl [] _).alloc _
    have HN4 := Lib.hid (next_c (n := 4) (hC1.chg kA (by simp) (by simp)) (by omega) (by omega))
    have HBl := Lib.hid (Blk.new w1 3 #[.int .i64 1, .int .i64 2, .int .i64 5, .int .i64 64])
    have HKA := Lib.hid kA
    have hcl := hC1.lt
    have g0 := nx_nonneg zs 0 4
    have g1 := nx_lt zs 0 4 (by omega)
    generalize nx zs 0 4 = v at HN4 g0 g1
    clear hC1 hc1 kA
    go_wp2_with fail
    refine HN4.out.mono ?_
    rintro e w2 ⟨rfl, hC2, hc2⟩
    have hbl := HBl.out.chg hc2 (by simp; omega)
    have y0 := (hbl.cell 0).trans rfl
    have y1 := (hbl.cell 1).trans rfl
    have y2 := (hbl.cell 2).trans rfl
    have y3 := (hbl.cell 3).trans rfl
    have HC2 := Lib.hid hC2
    have HK2 := Lib.hid ((HK1.out.trans HKA.out (by simp)).trans hc2 (by simp; exact hC2.le))
    clear hC2 hc2 hbl
    rcases pick4 g0 g1 with rfl | rfl | rfl | rfl
    all_goals
      go_wp2_with fail
      go_meet
      exact ⟨_, rfl, by omega, by omega, HC2.out, HK2.out⟩
  case rest =>
    clear hC1 hc1 HK1 hgn
    obtain ⟨wd, rfl, hwd0, hwd1, hC1, hc1⟩ := hcut
    have HC1 := Lib.hid hC1
    have HK1 := Lib.hid hc1
    clear hC1 hc1
    obtain ⟨wb, rfl⟩ : ∃ wb : World, wb = wc := ⟨_, rfl⟩
    go_wp2_with fail
    refine (rvnew_c wd hwd0 hwd1 wb HK1.out.size).mono ?_
    rintro e w2 ⟨r, m, rfl, hV2, hr2, hm2, hc2⟩
    have HV2 := Lib.hid hV2
    have HK2 := Lib.hid hc2
    clear hV2 hc2
    go_wp2_with fail
    refine (rfnew_c wd hwd0 hwd1 w2 (Nat.le_trans HK1.out.size HK2.out.size)).mono ?_
    rintro e w3 ⟨s, rfl, hF3, hs3, hc3⟩
    have HI := Lib.hid (show ScRel w w3 w3.heap.size r m s c zs wd 1 0 from ⟨_, 0, _, _, .made HC1.out HK1.out HV2.out hr2 hm2 HK2.out hF3 hs3 hc3, by omega, by omega, by omega, by omega⟩)
    obtain ⟨B0, hB0⟩ : ∃ B0, w3.heap.size = B0 := ⟨_, rfl⟩
    rw [hB0] at HI
    clear hF3 hc3 hB0 hs3 hr2 hm2 HC1 HK1 HV2 HK2
    go_wp2_with fail
    go_loopw [13, 14] (fun vb v wr => ∃ (k : Nat) (base : Int), k ≤ 40 ∧ v = .int .i64 k ∧ vb = .int .i64 base ∧ ScRel w wr B0 r m s c zs wd k base) (fun _ v _ => 40 - (intOf v).toNat)
    case atStart => exact ⟨1, 0, by omega, rfl, rfl, HI.out⟩
    case round =>
      clear HI
      obtain ⟨k, base, hk, rfl, rfl, p, n, x, H, hP, hn, hp, hb0, hb1⟩ := hrel
      by_cases hlt : k < 40
      · have hlk : (k : Int) < 40 := by omega
        have HN := Lib.hid (next_c (n := 12) hP.C (by omega) (by omega))
        have n0 := nx_nonneg zs p 12
        have n1 := nx_lt zs p 12 (by omega)
        generalize nx zs p 12 = v at HN n0 n1
        have HP := Lib.hid hP
        clear hP
        go_wp2_with fail
        refine HN.out.mono ?_
        rintro e v1 ⟨rfl, hC1, hc1⟩
        have HP1 := Lib.hid (HP.out.drawn hc1 hC1)
        have HNw := Lib.hid (next_c (n := wd + 1) hC1 (by omega) (by omega))
        have m0 := nx_nonneg zs (p + 1) (wd + 1)
        have m1 := nx_lt zs (p + 1) (wd + 1) (by omega)
        generalize nx zs (p + 1) (wd + 1) = y at HNw m0 m1
        clear hC1 hc1 HN HP
        go_wp2_with fail
        refine HNw.out.mono ?_
        rintro e v2 ⟨rfl, hC2, hc2⟩
        have HP2 := Lib.hid (HP1.out.drawn hc2 hC2)
        have HN20 := Lib.hid (next_c (n := 20) hC2 (by omega) (by omega))
        have l0 := nx_nonneg zs (p + 1 + 1) 20
        have l1 := nx_lt zs (p + 1 + 1) 20 (by omega)
        generalize nx zs (p + 1 + 1) 20 = q at HN20 l0 l1
        clear hC2 hc2 HNw HP1
        go_wp2_with fail
        refine HN20.out.mono ?_
        rintro e v3 ⟨rfl, hC3, hc3⟩
        have HP3 := Lib.hid (HP2.out.drawn hc3 hC3)
        clear hC3 hc3 HN20 HP2
        have hbase0 : 0 ≤ (base + v / 9) % 65536 := by omega
        have hbase1 : (base + v / 9) % 65536 < 65536 := by omega
        generalize (base + v / 9) % 65536 = base2 at hbase0 hbase1 ⊢
        go_upto_block 2 with fail
        go_cut [15, 16] (fun vx vy wx => ∃ (px py : Int) (p2 : Nat), vx = .int .i64 px ∧ vy = .int .i64 py ∧ Pr w wx B0 r m s c zs p2 n wd x H ∧ p2 ≤ p + 6)
        case first =>
          by_cases hq0 : q = 0
          · subst hq0
            have HN6 := Lib.hid (fun (W : World) (hW : Chg [] v3 W) => next_c (n := 6) (HP3.out.C.chg hW (by simp) (by simp)) (by omega) (by omega))
            have k0 := nx_nonneg zs (p + 1 + 1 + 1) 6
            have k1 := nx_lt zs (p + 1 + 1 + 1) 6 (by omega)
            generalize nx zs (p + 1 + 1 + 1) 6 = t6 at HN6 k0 k1
            go_upto_region 15 with fail
            go_cut [15] (fun v wx => ∃ y : Int, v = .int .i64 y ∧ 0 ≤ y ∧ y < 65536 ∧ Pr w wx B0 r m s c zs (p + 1 + 1 + 1 + 1) n wd x H)
            case first =>
              obtain ⟨O, hF3, hO3⟩ := HP3.out.F
              have e1 := hF3.blk1.1
              have hs3 := hF3.lt
              have hs4 : s < v3.heap.size + 1 := by omega
              have hcl := HP3.out.C.lt
              have hne1 : ¬ s = c := fun e => HP3.out.cs e.symm
              have hne2 : ¬ v3.heap.size = c := by omega
              have hx0 := HP3.out.V.hx
              obtain ⟨hx0, hx1⟩ := hx0
              have HS := Lib.hid (fun (W : World) (hW : Chg [] v3 W) => ((HP3.out.quiet hW).F.elim fun O h => h.1.blk1.1))
              clear hF3 hO3
              obtain ⟨j, rfl⟩ : ∃ j : Nat, t6 = j := ⟨t6.toNat, by omega⟩
              obtain ⟨y6, htb, hy0, hy1⟩ := tab6 (show j < 6 by omega)
              have HWr := Lib.hid (show IntKind.i64.wrap (x + y6) = x + y6 from IntWalk.i64_in _ (by omega))
              have htl := htb
              rw [List.getElem?_toArray] at htl
              go_region_with ((go_at_call 8; refine (HN6.out _ (by repeat (first | exact Chg.refl _ _ | refine Chg.drew ?_ | refine Chg.alloc ?_ _))).mono ?_; rintro e w4 ⟨rfl, hC4, hc4⟩; have HC4 := Lib.hid hC4; have HK5 := Lib.hid (Chg.trans (S := [c]) (a := v3) (by repeat (first | exact Chg.refl _ _ | refine Chg.drew ?_ | refine Chg.alloc ?_ _)) hc4 (by simp)); have hz4 := hc4.size; have hs5 : s < w4.heap.size := Nat.lt_of_lt_of_le (by simp; omega) hz4; have es := (uchg hc4 s 1 (by simp; omega) hne1).trans (HS.out _ (by repeat (first | exact Chg.refl _ _ | refine Chg.drew ?_ | refine Chg.alloc ?_ _))); (first | (have hbk := ((Blk.new v3 3 #[.int .i64 32767, .int .i64 32768, .int .i64 65535, .int .i64 65472, .int .i64 65471, .int .i64 40000]).drew).chg hc4 (by simp; exact hne2); have b0 := (hbk.cell j).trans htb) | skip); clear hC4 hc4))
              all_goals
                go_wp2_with fail
                go_meet
                refine ⟨_, rfl, ?_, ?_, HP3.out.drawn (by repeat (first | exact HK5.out | refine Chg.drew ?_ | refine Chg.alloc ?_ _)) (HC4.out.chg (S := []) (by repeat (first | exact Chg.refl _ _ | refine Chg.drew ?_ | refine Chg.alloc ?_ _)) (by simp) (by simp))⟩
                · rw [HWr.out, Int.tmod_eq_emod_of_nonneg (by omega)]; omega
                · rw [HWr.out, Int.tmod_eq_emod_of_nonneg (by omega)]; omega
            case rest =>
              obtain ⟨y3, rfl, hy0, hy1, hP4⟩ := hcut
              have HP4 := Lib.hid hP4
              have HNw := Lib.hid (next_c (n := wd) hP4.C (by omega) (by omega))
              have j0 := nx_nonneg zs (p + 1 + 1 + 1 + 1) wd
              have j1 := nx_lt zs (p + 1 + 1 + 1 + 1) wd (by omega)
              generalize nx zs (p + 1 + 1 + 1 + 1) wd = y4 at HNw j0 j1
              clear hP4 HN6 k0 k1
              go_wp2_with fail
              refine HNw.out.mono ?_
              rintro e v5 ⟨rfl, hC5, hc5⟩
              have HP5 := Lib.hid (HP4.out.drawn hc5 hC5)
              clear hC5 hc5 HNw HP4
              go_wp2_with fail
              go_meet
              exact ⟨_, _, _, rfl, rfl, HP5.out, by omega⟩
          · have hq0' : (q == 0) = false := by rw [beq_eq_false_iff_ne]; exact hq0
            by_cases hq1 : q = 1
            · subst hq1
              clear hq0
              go_wp2_with fail
              go_meet
              exact ⟨pa, pb, _, rfl, rfl, HP3.out, by omega⟩
            · have hq1' : (q == 1) = false := by rw [beq_eq_false_iff_ne]; exact hq1
              clear hq0 hq1
              go_wp2_with fail
              go_meet
              exact ⟨_, _, _, rfl, rfl, HP3.out, by omega⟩
        case rest =>
          obtain ⟨px, py, p2, rfl, rfl, hP4, hp2⟩ := hcut
          have HP4 := Lib.hid hP4
          have HN8 := Lib.hid (next_c (n := 8) hP4.C (by omega) (by omega))
          have j0 := nx_nonneg zs p2 8
          generalize nx zs p2 8 = z at HN8 j0
          clear hP4 HP3
          go_wp2_with fail
          refine HN8.out.mono ?_
          rintro e v5 ⟨rfl, hC5, hc5⟩
          have HP5 := Lib.hid (HP4.out.drawn hc5 hC5)
          clear hC5 hc5 HN8 HP4
          by_cases hz0 : z = 0
          · subst hz0
            go_wp2_with fail
            refine (rv_skip HP5.out.V px).mono ?_
            rintro e v7 ⟨A7, c7, g7, E7, o7, x7, H7, rfl, hR7, hRd7, hg7, hV7, hF7⟩
            obtain ⟨O, hO1, hO2⟩ := HP5.out.ref hF7
            have HRf := Lib.hid (rf_skip hO1 HP5.out.Bd (Nat.le_trans HP5.out.K.size hF7.size) px)
            have HR7 := Lib.hid hR7
            have HV7 := Lib.hid hV7
            have HF7 := Lib.hid hF7
            have HO2 := Lib.hid hO2
            have HRd7 := Lib.hid hRd7
            clear hR7 hV7 hF7 hRd7 hO1 hO2
            go_wp2_with fail
            refine HRf.out.mono ?_
            rintro e v8 ⟨A8, c8, g8, E8, o8, x8, H8, O8, rfl, hR8, hRd8, hg8, hF8, hO8, hc8⟩
            obtain ⟨rfl, rfl, rfl, rfl⟩ := HR7.out.det hR8
            have HP8 := Lib.hid (HP5.out.both HV7.out HF7.out hF8 (fun j hj => by
              rcases hO8 j hj with h | h
              · exact HO2.out j h
              · have := HP5.out.z1; have := HF7.out.size; omega) hc8 (HR7.out.bd HP5.out.Bd HP5.out.V.hx))
            have hz6 := HP5.out.z1
            have hsB := HP5.out.sB
            have HL7 := Lib.hid (HRd7.out.chg hc8 (by simp; omega))
            have HL8 := Lib.hid hRd8
            have hEE : (E7 != E7) = false := by simp
            clear hR8 hRd8 hF8 hO8 hc8 HRf HR7 HV7 HF7 HO2 HRd7 HP5 hg7 hg8
            go_wp2_with fail
            refine (equal_q rfl rfl HL7.out HL8.out).mono ?_
            rintro e v9 ⟨rfl, hc9⟩
            rw [decide_eq_true rfl]
            have HR := Lib.hid (show ScRel w v9 B0 r m s c zs wd (k + 1) base2 from ⟨_, _, _, _, HP8.out.quiet hc9, by omega, by omega, hbase0, hbase1⟩)
            clear hc9 HL7 HL8 HP8
            go_wp2_with fail
            go_roundw
            case rel => exact ⟨k + 1, base2, by omega, by go_num, rfl, HR.out⟩
            case measure => simp [intOf]; omega
          · have hz0' : (z == 0) = false := by rw [beq_eq_false_iff_ne]; exact hz0
            clear hz0
            have HRc := Lib.hid (rv_rcv HP5.out.V (by omega) px py k (by omega))
            go_wp2_with fail
            refine HRc.out.mono ?_
            rintro e v7 ⟨A7, c7, g7, E7, o7, x7, H7, rfl, hR7, hRd7, hg7, hV7, hF7⟩
            obtain ⟨O, hO1, hO2⟩ := HP5.out.ref hF7
            have HRf := Lib.hid (rf_rcv hO1 HP5.out.Bd (Nat.le_trans HP5.out.K.size hF7.size) px py k)
            have HR7 := Lib.hid hR7
            have HV7 := Lib.hid hV7
            have HF7 := Lib.hid hF7
            have HO2 := Lib.hid hO2
            have HRd7 := Lib.hid hRd7
            clear hR7 hV7 hF7 hRd7 hO1 hO2 HRc
            go_wp2_with fail
            refine HRf.out.mono ?_
            rintro e v8 ⟨A8, c8, g8, E8, o8, x8, H8, O8, rfl, hR8, hRd8, hg8, hF8, hO8, hc8⟩
            obtain ⟨rfl, rfl, rfl, rfl⟩ := HR7.out.det hR8
            have HP8 := Lib.hid (HP5.out.both HV7.out HF7.out hF8 (fun j hj => by
              rcases hO8 j hj with h | h
              · exact HO2.out j h
              · have := HP5.out.z1; have := HF7.out.size; omega) hc8 (HR7.out.bd HP5.out.Bd HP5.out.V.hx HP5.out.V.hw))
            have hz6 := HP5.out.z1
            have hsB := HP5.out.sB
            have HL7 := Lib.hid (HRd7.out.chg hc8 (by simp; omega))
            have HL8 := Lib.hid hRd8
            have hEE : (E7 != E7) = false := by simp
            clear hR8 hRd8 hF8 hO8 hc8 HRf HR7 HV7 HF7 HO2 HRd7 HP5 hg7 hg8
            go_wp2_with fail
            refine (equal_q rfl rfl HL7.out HL8.out).mono ?_
            rintro e v9 ⟨rfl, hc9⟩
            rw [decide_eq_true rfl]
            have HP9 := Lib.hid (HP8.out.quiet hc9)
            clear hc9 HL7 HL8 HP8
            have HNk := Lib.hid (next_c (n := (k : Int) + 1) HP9.out.C (by omega) (by omega))
            generalize nx zs (p2 + 1) ((k : Int) + 1) = sid at HNk
            go_wp2_with fail
            refine HNk.out.mono ?_
            rintro e v10 ⟨rfl, hC10, hc10⟩
            have HP10 := Lib.hid (HP9.out.drawn hc10 hC10)
            clear hC10 hc10 HNk HP9
            go_wp2_with fail
            obtain ⟨O9, hF9, _⟩ := HP10.out.F
            have HSame := Lib.hid (same_c HP10.out.V hF9 HP10.out.Bd sid)
            clear hF9
            refine HSame.out.mono ?_
            rintro e v11 ⟨rfl, hc11⟩
            have HR := Lib.hid (show ScRel w v11 B0 r m s c zs wd (k + 1) base2 from ⟨_, _, _, _, HP10.out.quiet hc11, by omega, by omega, hbase0, hbase1⟩)
            clear hc11 HSame HP10
            go_wp2_with fail
            go_roundw
            case rel => exact ⟨k + 1, base2, by omega, by go_num, rfl, HR.out⟩
            case measure => simp [intOf]; omega
      · have HK := Lib.hid hP.K
        have hge : (40 : Int) ≤ (k : Int) := by omega
        clear hP
        by_cases hpa : 1 ≤ pa ∧ pa ≤ 64
        · go_wp2_with fail
          refine (rvnew_c pa hpa.1 hpa.2 wr HK.out.size).mono ?_
          rintro e v2 ⟨r2, m2, rfl, hV2, hr2, hm2, hc2⟩
          have HK2 := Lib.hid (HK.out.trans hc2 (by simp))
          clear hV2 hc2
          go_wp2_with fail
          refine (rfnew_c pa hpa.1 hpa.2 v2 HK2.out.size).mono ?_
          rintro e v3 ⟨s3, rfl, hF3, hs3, hc3⟩
          have HK3 := Lib.hid (HK2.out.trans hc3 (by simp))
          clear hF3 hc3
          go_wp2_with fail
          refine (rvawake_c _).mono ?_
          rintro e v4 ⟨rfl, kc⟩
          go_wp2_with fail
          go_ret
          exact ⟨rfl, (HK3.out.trans kc (by simp)).below (Nat.le_refl _) (by simp)⟩
        · go_wp2_with fail
          refine (rvnew_bad pa hpa wr).mono ?_
          rintro e v2 ⟨rfl, hc2⟩
          have HK2 := Lib.hid (HK.out.trans hc2 (by simp))
          clear hc2
          go_wp2_with fail
          refine (rfnew_bad pa hpa v2).mono ?_
          rintro e v3 ⟨rfl, hc3⟩
          have HK3 := Lib.hid (HK2.out.trans hc3 (by simp))
          clear hc3
          go_wp2_with fail
          refine (rvawake_c _).mono ?_
          rintro e v4 ⟨rfl, kc⟩
          go_wp2_with fail
          go_ret
          exact ⟨rfl, (HK3.out.trans kc (by simp)).below (Nat.le_refl _) (by simp)⟩

end Go.Proofs.Ytgkdlplocahnnaa
