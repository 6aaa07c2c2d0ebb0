/- The walk of the statement ReceiverErrors. -/
import Derived.Test.YtgkdlplocahnnaaRg
namespace Go.Proofs.Ytgkdlplocahnnaa
open Go.RowKit Go.Maps
set_option linter.unusedVariables false
set_option linter.unusedSimpArgs false

theorem lst_nil (x : Int) : lst x (fun _ => none) = [] := by
  unfold lst
  rw [List.filterMap_eq_nil_iff]
  intro d _
  rfl
theorem bd_nil (x wd : Int) : Bd x wd (fun _ => none) := fun k v h => by cases h

/-- The three are made. -/
theorem Pr.made {w w1 w2 w3 : World} {r m s c : Nat} {zs : List Int} {k : Nat} {wd : Int} (hC : Cho w1 w.heap.size c zs k) (hc1 : Chg [] w w1) (hV : RV w2 w.heap.size r m 0 wd 0 (fun _ => none)) (hr : w1.heap.size ≤ r) (hm : w1.heap.size ≤ m) (hc2 : Chg [] w1 w2) (hF : RF w3 w.heap.size s [] wd 0 []) (hs : w2.heap.size ≤ s) (hc3 : Chg [] w2 w3) :
    Pr w w3 w3.heap.size r m s c zs k 0 wd 0 (fun _ => none) := by
  have a1 := hC.lt
  have a2 := hV.lt
  have a3 := hV.mlt
  have a4 := hF.lt
  have b1 := hc1.size
  have b2 := hc2.size
  have b3 := hc3.size
  exact ⟨hV.chg hc3 (by simp) (by simp), ⟨[], by rw [lst_nil]; exact hF, by simp⟩, bd_nil _ _, (hC.chg hc2 (by simp) (by simp)).chg hc3 (by simp) (by simp), (hc1.trans hc2 (by simp)).trans hc3 (by simp), by omega, Nat.le_refl _, by omega, by omega, by omega, by omega, by omega, by omega, by omega, by omega, by omega⟩

/-- What stands at the head of the rounds. -/
def ErRel (w wr : World) (B0 r m s c : Nat) (zs : List Int) (k : Nat) : Prop := ∃ n x H, Pr w wr B0 r m s c zs k n 4 x H ∧ n ≤ k

set_option maxRecDepth 100000 in
set_option maxHeartbeats 16000000 in
theorem receiverErrors_walk {w : World} {a : Option Addr} {len cap : Nat} {zs : List Int} (hz : zs.length = len) (hl : len ≤ 9223372036854775807) (hi : Inp w w.heap.size a zs) (base seq id : Int) (hid : id ≤ 9223372036854775807) :
    Calls Try.prog 6 #[.slice a len cap, .int .i64 base, .int .i64 seq, .int .i64 id] w fun e w' => e = .returned (.bool true) ∧ Below w.heap.size w w' := by
  have hgn := gnew_c (cap := cap) hz hl hi
  clear hz hi
  go_enter Try.func6, Try.ntmps6
  go_wp2_with fail
  refine hgn.mono ?_
  rintro e w1 ⟨c, rfl, hC1, hc1⟩
  have HC1 := Lib.hid hC1
  have HK1 := Lib.hid hc1
  clear hC1 hc1 hgn
  go_wp2_with fail
  refine (rvnew_c 4 (by omega) (by omega) w1 HK1.out.size).mono ?_
  rintro e w2 ⟨r, m, rfl, hV2, hr2, hm2, hc2⟩
  have HV2 := Lib.hid hV2
  have HK2 := Lib.hid hc2
  clear hV2 hc2
  go_wp2_with fail
  refine (rfnew_c 4 (by omega) (by omega) w2 (Nat.le_trans HK1.out.size HK2.out.size)).mono ?_
  rintro e w3 ⟨s, rfl, hF3, hs3, hc3⟩
  have HI := Lib.hid (show ErRel w w3 w3.heap.size r m s c zs 0 from ⟨0, 0, _, .made HC1.out HK1.out HV2.out hr2 hm2 HK2.out hF3 hs3 hc3, by omega⟩)
  obtain ⟨B0, hB0⟩ : ∃ B0, w3.heap.size = B0 := ⟨_, rfl⟩
  rw [hB0] at HI
  clear hF3 hc3 hB0 hs3 hr2 hm2 HC1 HK1 HV2 HK2
  go_wp2_with fail
  go_loopw [14] (fun v wr => ∃ (k : Nat), k ≤ 5 ∧ v = .int .i64 k ∧ ErRel w wr B0 r m s c zs k) (fun v _ => 5 - (intOf v).toNat)
  case atStart => exact ⟨0, by omega, rfl, HI.out⟩
  case round =>
    clear HI
    obtain ⟨k, hk, rfl, n, x, H, hP, hn⟩ := hrel
    have HN5 := Lib.hid (next_c (n := 5) hP.C (by omega) (by omega))
    have n0 := nx_nonneg zs k 5
    have n1 := nx_lt zs k 5 (by omega)
    generalize nx zs k 5 = v at HN5 n0 n1
    have HP := Lib.hid hP
    clear hP
    go_wp2_with fail
    refine HN5.out.mono ?_
    rintro e v1 ⟨rfl, hC1, hc1⟩
    have HP1 := Lib.hid (HP.out.drawn hc1 hC1)
    clear hC1 hc1 HN5 HP
    by_cases hlt : (k : Int) < v
    · have HRc := Lib.hid (rv_rcv HP1.out.V (by omega) k (k + 2) (k + 1) (by omega))
      go_wp2_with fail
      refine HRc.out.mono ?_
      rintro e v2 ⟨A2, c2, g2, E2, o2, x2, H2, rfl, hR2, hRd2, hg2, hV2, hF2⟩
      obtain ⟨O, hO1, hO2⟩ := HP1.out.ref hF2
      have HRf := Lib.hid (rf_rcv hO1 HP1.out.Bd (Nat.le_trans HP1.out.K.size hF2.size) k (k + 2) (k + 1))
      have HR2 := Lib.hid hR2
      have HV2 := Lib.hid hV2
      have HF2 := Lib.hid hF2
      have HO2 := Lib.hid hO2
      clear hR2 hV2 hF2 hRd2 hO1 hO2 HRc hg2
      go_wp2_with fail
      refine HRf.out.mono ?_
      rintro e v3 ⟨A3, c3, g3, E3, o3, x3, H3, O3, rfl, hR3, hRd3, hg3, hF3, hO3, hc3⟩
      obtain ⟨rfl, rfl, rfl, rfl⟩ := HR2.out.det hR3
      have HE := Lib.hid (show ErRel w v3 B0 r m s c zs (k + 1) from ⟨n + 1, _, _, HP1.out.both HV2.out HF2.out hF3 (fun j hj => by
        rcases hO3 j hj with h | h
        · exact HO2.out j h
        · have := HP1.out.z1; have := HF2.out.size; omega) hc3 (HR2.out.bd HP1.out.Bd HP1.out.V.hx HP1.out.V.hw), by omega⟩)
      clear hR3 hRd3 hF3 hO3 hc3 hg3 HR2
      go_wp2_with fail
      go_roundw
      case rel => exact ⟨k + 1, by omega, by go_num, HE.out⟩
      case measure => simp [intOf]; omega
    · have hge : v ≤ (k : Int) := by omega
      have hw64 := HP1.out.V.hw.2
      obtain ⟨b0, hb0⟩ := bits_some x H
      have HAk := Lib.hid (fun (W : World) (hW : Chg [] v1 W) => (acks_c (HP1.out.V.chg hW (by simp) (by simp)) (bd_acks HP1.out.Bd hw64)).mono (R' := fun e w' => e = .returned (.agg #[.int .i64 x, .int .u64 b0]) ∧ Chg [] W w') (by rintro e w' ⟨b, rfl, hb, hc⟩; exact ⟨by rw [hb0 b hb], hc⟩))
      have HB0 := Lib.hid hb0
      clear hb0
      go_wp2_with fail
      refine (HAk.out _ (Chg.refl _ _)).mono ?_
      rintro e v2 ⟨rfl, hc2⟩
      have hb2 : Chg [] v2 (v2.alloc (.cells #[.int .i64 x, .int .u64 b0] 39)) := (Chg.refl [] v2).alloc _
      have HP3 := Lib.hid (HP1.out.quiet (hc2.trans hb2 (by simp)))
      have HM3 := Lib.hid (Blk.new v2 39 #[.int .i64 x, .int .u64 b0])
      obtain ⟨mm, hmm⟩ : ∃ mm, v2.heap.size = mm := ⟨_, rfl⟩
      rw [hmm] at HM3
      have hmB : B0 ≤ mm := by have := HP1.out.z1; have := hc2.size; omega
      clear hc2 hb2 HAk HP1
      go_wp2_with fail
      clear hmm
      generalize v2.alloc (.cells #[.int .i64 x, .int .u64 b0] 39) = v3 at HP3 HM3 ⊢
      refine (rv_rcv HP3.out.V (by omega) base seq id hid).mono ?_
      rintro e v4 ⟨A4, c4, g4, E4, o4, x4, H4, rfl, hR4, hRd4, hg4, hV4, hF4⟩
      obtain ⟨O, hO1, hO2⟩ := HP3.out.ref hF4
      have HRf := Lib.hid (rf_rcv hO1 HP3.out.Bd (Nat.le_trans HP3.out.K.size hF4.size) base seq id)
      have HR4 := Lib.hid hR4
      have HV4 := Lib.hid hV4
      have HF4 := Lib.hid hF4
      have HO2 := Lib.hid hO2
      have HRd4 := Lib.hid hRd4
      clear hR4 hV4 hF4 hRd4 hO1 hO2
      go_wp2_with fail
      refine HRf.out.mono ?_
      rintro e v5 ⟨A5, c5, g5, E5, o5, x5, H5, O5, rfl, hR5, hRd5, hg5, hF5, hO5, hc5⟩
      obtain ⟨rfl, rfl, rfl, rfl⟩ := HR4.out.det hR5
      have HP5 := Lib.hid (HP3.out.both HV4.out HF4.out hF5 (fun j hj => by
        rcases hO5 j hj with h | h
        · exact HO2.out j h
        · have := HP3.out.z1; have := HF4.out.size; omega) hc5 (HR4.out.bd HP3.out.Bd HP3.out.V.hx HP3.out.V.hw))
      have hsB := HP3.out.sB
      have hrB := HP3.out.rB
      have hmmB := HP3.out.mB
      have hz1 := HP3.out.z1
      have HL4 := Lib.hid (HRd4.out.chg hc5 (by simp; omega))
      have HL5 := Lib.hid hRd5
      have HM5 := Lib.hid (show Blk v5 mm 39 #[.int .i64 x, .int .u64 b0] from by
        have hml := HM3.out.lt
        obtain ⟨S, k1, k2⟩ := HF4.out
        refine (HM3.out.chg k1 (fun hj => ?_)).chg hc5 (by simp; omega)
        rcases k2 mm hj with e | e | e <;> omega)
      have HSm := Lib.hid (fun hE => HR4.out.same hE)
      clear hR5 hRd5 hF5 hO5 hc5 HRf HR4 HV4 HF4 HO2 HRd4 HP3 HM3 hg4 hg5
      go_upto_region 14 with fail
      go_cut [97] (fun v wx => v = .bool false ∧ Chg [] v5 wx)
      case first =>
        have hEE : (E4 != E4) = false := by simp
        have HEq := Lib.hid (fun (W : World) (hW : Chg [] v5 W) => equal_c (c := c4) (d := c5) rfl rfl (HL4.out.chg hW (by simp)) (HL5.out.chg hW (by simp)))
        rw [decide_eq_true rfl] at HEq
        by_cases hE : E4 = 0
        · subst hE
          go_wp2_with fail
          go_quiet ((go_at_call 21; exact Calls.quiet_of (HEq.out _ ((Chg.refl [] v5).drewN _))))
          go_wp2_with fail
          go_meet
          exact ⟨rfl, (Chg.refl [] v5).drewN _⟩
        · have hE' : (E4 != 0) = true := by rw [bne_iff_ne]; exact hE
          obtain ⟨hxx, hHH⟩ := HSm.out hE
          subst hxx
          subst hHH
          have HAk := Lib.hid (fun (W : World) (hW : Chg [] v5 W) => (acks_c (HP5.out.V.chg hW (by simp) (by simp)) (bd_acks HP5.out.Bd hw64)).mono (R' := fun e w' => e = .returned (.agg #[.int .i64 x4, .int .u64 b0]) ∧ Chg [] W w') (by rintro e w' ⟨b, rfl, hb, hc⟩; exact ⟨by rw [HB0.out b hb], hc⟩))
          have hbn := bm_neq x4 b0 x4 b0
          rw [show (!(x4 == x4 && b0 == b0)) = false from by simp] at hbn
          have HK := Lib.hid (fun (W : World) (hW : Chg [] v5 W) => And.intro (((HM5.out.chg hW (by simp)).cell 0).trans rfl) (((HM5.out.chg hW (by simp)).cell 1).trans rfl))
          have hS0 : v5.drew.cell? ⟨mm, 0, none⟩ = some (.int .i64 x4) ∧ v5.drew.cell? ⟨mm, 1, none⟩ = some (.int .u64 b0) := HK.out _ (Chg.refl [] v5).drew
          clear hE
          go_wp2_with fail
          go_region_held3 (fun w' => w'.cell? ⟨mm, 0, none⟩ = some (.int .i64 x4) ∧ w'.cell? ⟨mm, 1, none⟩ = some (.int .u64 b0)) (first | exact hS2 | exact hS1 | exact hS0 | go_keep) (first
            | (go_at_call 21; refine (HEq.out _ (Chg.refl [] v5).drew).mono ?_; rintro e w1 ⟨rfl, m1, hm1⟩; have C1 := Lib.hid (show Chg [] v5 w1 from by rw [hm1]; exact ((Chg.refl [] v5).drew).drewN _); have hS1 := HK.out _ C1.out; clear hm1)
            | (go_at_call 15; refine (HAk.out _ C1.out).mono ?_; rintro e w2 ⟨rfl, hc2⟩; have C2 := Lib.hid (C1.out.trans hc2 (by simp)); have hS2 := HK.out _ C2.out; clear hc2))
          all_goals
            go_wp2_with fail
            go_meet
            exact ⟨rfl, C2.out⟩
      case rest =>
        obtain ⟨rfl, hcx⟩ := hcut
        have HP6 := Lib.hid (HP5.out.quiet hcx)
        clear hcx HL4 HL5 HP5 HM5 HSm
        go_wp2_with fail
        refine (rv_skip HP6.out.V base).mono ?_
        rintro e v7 ⟨A7, c7, g7, E7, o7, x7, H7, rfl, hR7, hRd7, hg7, hV7, hF7⟩
        obtain ⟨O, hO1, hO2⟩ := HP6.out.ref hF7
        have HRf := Lib.hid (rf_skip hO1 HP6.out.Bd (Nat.le_trans HP6.out.K.size hF7.size) base)
        have HR7 := Lib.hid hR7
        have HV7 := Lib.hid hV7
        have HF7 := Lib.hid hF7
        have HO2 := Lib.hid hO2
        have HRd7 := Lib.hid hRd7
        clear hR7 hV7 hF7 hRd7 hO1 hO2
        go_wp2_with fail
        refine HRf.out.mono ?_
        rintro e v8 ⟨A8, c8, g8, E8, o8, x8, H8, O8, rfl, hR8, hRd8, hg8, hF8, hO8, hc8⟩
        obtain ⟨rfl, rfl, rfl, rfl⟩ := HR7.out.det hR8
        have HP8 := Lib.hid (HP6.out.both HV7.out HF7.out hF8 (fun j hj => by
          rcases hO8 j hj with h | h
          · exact HO2.out j h
          · have := HP6.out.z1; have := HF7.out.size; omega) hc8 (HR7.out.bd HP6.out.Bd HP6.out.V.hx))
        have hz6 := HP6.out.z1
        have HL7 := Lib.hid (HRd7.out.chg hc8 (by simp; omega))
        have HL8 := Lib.hid hRd8
        have hEE : (E7 == E7) = true := by simp
        clear hR8 hRd8 hF8 hO8 hc8 HRf HR7 HV7 HF7 HO2 HRd7 HP6 hg7 hg8
        go_wp2_with fail
        refine (equal_q rfl rfl HL7.out HL8.out).mono ?_
        rintro e v9 ⟨rfl, hc9⟩
        rw [decide_eq_true rfl]
        have HP9 := Lib.hid (HP8.out.quiet hc9)
        clear hc9 HL7 HL8 HP8
        go_wp2_with fail
        obtain ⟨O9, hF9, _⟩ := HP9.out.F
        have HSame := Lib.hid (same_c HP9.out.V hF9 HP9.out.Bd id)
        clear hF9
        refine HSame.out.mono ?_
        rintro e v10 ⟨rfl, hc10⟩
        have HK10 := Lib.hid (HP9.out.K.trans hc10 (by simp))
        clear hc10
        go_wp2_with fail
        refine (rvawake_c _).mono ?_
        rintro e v11 ⟨rfl, kc⟩
        go_wp2_with fail
        go_ret
        exact ⟨rfl, (HK10.out.trans kc (by simp)).below (Nat.le_refl _) (by simp)⟩

end Go.Proofs.Ytgkdlplocahnnaa
