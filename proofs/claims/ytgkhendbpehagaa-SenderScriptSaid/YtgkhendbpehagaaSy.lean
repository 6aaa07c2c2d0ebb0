/- SenderScript: act. -/
import Derived.Test.YtgkhendbpehagaaSz
import Derived.Deep.RegionHeld3
import Derived.Deep.DeepCutAuto
import Derived.Deep.CutBlock
namespace Go.Proofs.Ytgkhendbpehagaa
open Go.RowKit
set_option linter.unusedVariables false
set_option linter.unusedSimpArgs false

set_option maxRecDepth 100000 in
set_option maxHeartbeats 16000000 in
theorem act_c {w0 w : World} {B0 s r c k : Nat} {zs : List Int} {wd tr nn : Int} {ps : List Sn} (h : Pq w0 w B0 s r c zs k wd tr nn ps nn ps) (ht : tOk tr ps) (hl : ps.length < 900) (hk : k ≤ 900000) (id : Int) :
    Calls Try.prog 18 #[.pointer (some ⟨c, 0, none⟩), .pointer (some ⟨s, 0, none⟩), .pointer (some ⟨r, 0, none⟩), .int .i64 id] w (ActPost w0 B0 s r c zs k wd tr ps.length) := by
  have HP := Lib.hid h
  have HT := Lib.hid ht
  have hbs := (h.SR.elim fun _ h => h.elim fun _ h => h.1.bs)
  have htr := (h.SR.elim fun _ h => h.elim fun _ h => h.1.ht)
  have HBase := Lib.hid (fun (W : World) (k2 : Nat) (hW : Pq w0 W B0 s r c zs k2 wd tr nn ps nn ps) => (hW.SR.elim fun _ h => h.elim fun _ h => (rbase_c h.2.1).mono (R' := fun e w' => e = .returned (.int .i64 (bs nn ps)) ∧ Chg [] W w') (by rintro e w' ⟨rfl, m, rfl⟩; exact ⟨rfl, (Chg.refl [] _).drewN m⟩)))
  obtain ⟨b, hb⟩ : ∃ b, bs nn ps = b := ⟨_, rfl⟩
  rw [hb] at HBase hbs
  clear h ht hb
  go_enter Try.func18, Try.ntmps18
  go_wp2_with fail
  refine (HBase.out _ _ HP.out).mono ?_
  rintro e w1 ⟨rfl, hc1⟩
  have HP1 := Lib.hid (HP.out.quiet hc1)
  have HN6 := Lib.hid (next_c (n := 6) HP1.out.C (by omega) (by omega))
  have m0 := nx_nonneg zs k 6
  have m1 := nx_lt zs k 6 (by omega)
  generalize nx zs k 6 = y at HN6 m0 m1
  clear hc1 HP
  go_wp2_with fail
  refine HN6.out.mono ?_
  rintro e w2 ⟨rfl, hC2, hc2⟩
  have HP2 := Lib.hid (HP1.out.drawn hc2 hC2)
  have HN8 := Lib.hid (next_c (n := 8) hC2 (by omega) (by omega))
  have l0 := nx_nonneg zs (k + 1) 8
  have l1 := nx_lt zs (k + 1) 8 (by omega)
  generalize nx zs (k + 1) 8 = v at HN8 l0 l1
  clear hC2 hc2 HN6 HP1
  have hq0 : 0 ≤ (b + y) % 65536 := by omega
  have hq1 : (b + y) % 65536 < 65536 := by omega
  go_wp2_with fail
  refine HN8.out.mono ?_
  rintro e w3 ⟨rfl, hC3, hc3⟩
  have HP3 := Lib.hid (HP2.out.drawn hc3 hC3)
  generalize (b + y) % 65536 = q at hq0 hq1 ⊢
  clear hC3 hc3 HN8 HP2
  rcases pick8 l0 l1 with h3 | h3 | h3 | h3
  · have HA := Lib.hid (pq_assign HP3.out (by omega) id)
    have HB := Lib.hid (fun (W : World) (hW : Pq w0 W B0 s r c zs (k + 1 + 1) wd tr (asgN wd nn ps id) (asgL wd nn ps id) nn ps) => pq_rassign hW (by omega) id)
    have HO := Lib.hid (asg_ok (wd := wd) (nx := nn) (id := id) HT.out htr.1)
    generalize asgV wd nn ps id = a1 at HA HB
    generalize asgE wd nn ps id = a2 at HA HB
    generalize asgN wd nn ps id = a3 at HA HB
    generalize asgL wd nn ps id = a4 at HA HB HO
    have g1 : (a1 == a1) = true := by simp
    have g2 : (a2 == a2) = true := by simp
    rcases h3 with rfl | rfl | rfl
    all_goals
      go_wp2_with fail
      refine HA.out.mono ?_
      rintro e w4 ⟨rfl, hP4⟩
      have HP4 := Lib.hid hP4
      clear hP4
      go_wp2_with fail
      refine (HB.out _ HP4.out).mono ?_
      rintro e w5 ⟨rfl, hP5⟩
      have HP5 := Lib.hid hP5
      clear hP5
      go_wp2_with fail
      go_ret
      exact ⟨rfl, _, _, _, HP5.out, by omega, HO.out.1, HO.out.2⟩
  · have HA := Lib.hid (pq_send HP3.out HT.out q)
    have HB := Lib.hid (fun (W : World) (hW : Pq w0 W B0 s r c zs (k + 1 + 1) wd tr nn (sndL tr ps q) nn ps) => pq_rsend hW HT.out q)
    have HO := Lib.hid (snd_ok (x := q) HT.out)
    generalize sndV tr ps q = a1 at HA HB
    generalize sndE tr ps q = a2 at HA HB
    generalize sndL tr ps q = a4 at HA HB HO
    have g1 : (a1 == a1) = true := by simp
    have g2 : (a2 == a2) = true := by simp
    rcases h3 with rfl | rfl
    all_goals
      go_wp2_with fail
      refine HA.out.mono ?_
      rintro e w4 ⟨rfl, hP4⟩
      have HP4 := Lib.hid hP4
      clear hP4
      go_wp2_with fail
      refine (HB.out _ HP4.out).mono ?_
      rintro e w5 ⟨rfl, hP5⟩
      have HP5 := Lib.hid hP5
      clear hP5
      go_wp2_with fail
      go_ret
      exact ⟨rfl, _, _, _, HP5.out, by omega, HO.out.1, HO.out.2⟩
  · rcases h3 with rfl | rfl
    all_goals
      go_wp2_with fail
      refine (HBase.out _ _ HP3.out).mono ?_
      rintro e w4 ⟨rfl, hc4⟩
      have HP4 := Lib.hid (HP3.out.quiet hc4)
      have HN4' := Lib.hid (next_c (n := 4) HP4.out.C (by omega) (by omega))
      have j0 := nx_nonneg zs (k + 1 + 1) 4
      have j1 := nx_lt zs (k + 1 + 1) 4 (by omega)
      generalize nx zs (k + 1 + 1) 4 = y4 at HN4' j0 j1
      clear hc4
      go_wp2_with fail
      refine HN4'.out.mono ?_
      rintro e w5 ⟨rfl, hC5, hc5⟩
      have HP5 := Lib.hid (HP4.out.drawn hc5 hC5)
      have HN32 := Lib.hid (next_c (n := 32) hC5 (by omega) (by omega))
      have i0 := nx_nonneg zs (k + 1 + 1 + 1) 32
      have i1 := nx_lt zs (k + 1 + 1 + 1) 32 (by omega)
      generalize nx zs (k + 1 + 1 + 1) 32 = y5 at HN32 i0 i1
      clear hC5 hc5 HN4' HP4
      have hr0 : 0 ≤ (b + y4) % 65536 := by omega
      have hr1 : (b + y4) % 65536 < 65536 := by omega
      go_wp2_with fail
      refine HN32.out.mono ?_
      rintro e w6 ⟨rfl, hC6, hc6⟩
      have HP6 := Lib.hid (HP5.out.drawn hc6 hC6)
      clear hC6 hc6 HN32 HP5
      have hy64 : IntKind.u64.wrap y5 = y5 := by rw [IntKind.wrap_u64]; omega
      have hbk : Chg [] w6 (w6.alloc (.cells #[.int .i64 ((b + y4) % 65536), .int .u64 y5] 37)) := (Chg.refl [] _).alloc _
      have HP7 := Lib.hid (HP6.out.quiet hbk)
      have HM7 := Lib.hid (Blk.new w6 37 #[.int .i64 ((b + y4) % 65536), .int .u64 y5])
      have HN12 := Lib.hid (next_c (n := 12) HP7.out.C (by omega) (by omega))
      have e0 := nx_nonneg zs (k + 1 + 1 + 1 + 1) 12
      generalize nx zs (k + 1 + 1 + 1 + 1) 12 = z at HN12 e0
      have hmB : B0 ≤ w6.heap.size := HP6.out.z1
      have hcm : ¬ w6.heap.size = c := by have := HP6.out.cB; omega
      have hsm : ¬ w6.heap.size = s := by have := HP6.out.sB; omega
      have hrm : ¬ w6.heap.size = r := by have := HP6.out.rB; omega
      clear hbk HP6
      go_wp2_with fail
      refine HN12.out.mono ?_
      rintro e w7 ⟨rfl, hC7, hc7⟩
      have HP8 := Lib.hid (HP7.out.drawn hc7 hC7)
      have HM8 := Lib.hid (HM7.out.chg hc7 (by simp; exact hcm))
      clear hC7 hc7 HN12 HP7 HM7
      generalize (b + y4) % 65536 = mb at hr0 hr1 HM8 ⊢
      generalize w6.heap.size = mm at hmB hcm hsm hrm HM8 ⊢
      go_upto_block 1 with fail
      go_cut [93] (fun _ wx => ∃ mb2 : Int, Blk wx mm 37 #[.int .i64 mb2, .int .u64 y5] ∧ Pq w0 wx B0 s r c zs (k + 1 + 1 + 1 + 1 + 1) wd tr nn ps nn ps)
      case first =>
        have hml := HM8.out.lt
        have f0 := HM8.out.frozen 0
        have c0 := (HM8.out.cell 0).trans rfl
        by_cases hz0 : z = 0
        · subst hz0
          have hst : Chg [mm] w7 (w7.setCell ⟨mm, 0, none⟩ (.int .i64 (-1))) := (Chg.refl _ _).setCell (by simp) _
          have hb9 := HM8.out.set_ 0 (.int .i64 (-1))
          simp only [List.setIfInBounds_toArray, List.set_cons_zero] at hb9
          have HB9 := Lib.hid hb9
          have HP9 := Lib.hid (HP8.out.far HM8.out hmB hst)
          clear hst hb9
          go_wp2_with fail
          go_meet
          exact ⟨-1, HB9.out, HP9.out⟩
        have hz0' : (z == 0) = false := by rw [beq_eq_false_iff_ne]; exact hz0
        by_cases hz1 : z = 1
        · subst hz1
          go_wp2_with fail
          refine (HBase.out _ _ HP8.out).mono ?_
          rintro e w8 ⟨rfl, hc8⟩
          have HP8' := Lib.hid (HP8.out.quiet hc8)
          have HM8' := Lib.hid (HM8.out.chg hc8 (by simp))
          have f0' := HM8'.out.frozen 0
          have c0' := (HM8'.out.cell 0).trans rfl
          have hst : Chg [mm] w8 (w8.setCell ⟨mm, 0, none⟩ (.int .i64 ((b + 65536 - 1) % 65536))) := (Chg.refl _ _).setCell (by simp) _
          have hb9 := HM8'.out.set_ 0 (.int .i64 ((b + 65536 - 1) % 65536))
          simp only [List.setIfInBounds_toArray, List.set_cons_zero] at hb9
          have HB9 := Lib.hid hb9
          have HP9 := Lib.hid (HP8'.out.far HM8'.out hmB hst)
          clear hst hb9 hc8 hz0
          go_wp2_with fail
          go_meet
          exact ⟨_, HB9.out, HP9.out⟩
        have hz1' : (z == 1) = false := by rw [beq_eq_false_iff_ne]; exact hz1
        by_cases hz2 : z = 2
        · subst hz2
          go_wp2_with fail
          refine (HBase.out _ _ HP8.out).mono ?_
          rintro e w8 ⟨rfl, hc8⟩
          have HP8' := Lib.hid (HP8.out.quiet hc8)
          have HM8' := Lib.hid (HM8.out.chg hc8 (by simp))
          have f0' := HM8'.out.frozen 0
          have c0' := (HM8'.out.cell 0).trans rfl
          have hst : Chg [mm] w8 (w8.setCell ⟨mm, 0, none⟩ (.int .i64 ((b + 32768) % 65536))) := (Chg.refl _ _).setCell (by simp) _
          have hb9 := HM8'.out.set_ 0 (.int .i64 ((b + 32768) % 65536))
          simp only [List.setIfInBounds_toArray, List.set_cons_zero] at hb9
          have HB9 := Lib.hid hb9
          have HP9 := Lib.hid (HP8'.out.far HM8'.out hmB hst)
          clear hst hb9 hc8 hz0 hz1
          go_wp2_with fail
          go_meet
          exact ⟨_, HB9.out, HP9.out⟩
        have hz2' : (z == 2) = false := by rw [beq_eq_false_iff_ne]; exact hz2
        clear hz0 hz1 hz2
        go_wp2_with fail
        go_meet
        exact ⟨mb, HM8.out, HP8.out⟩
      case rest =>
        clear HP8 HM8
        obtain ⟨mb2, hM, hP⟩ := hcut
        have HA := Lib.hid (fun (W : World) (hW : Pq w0 W B0 s r c zs (k + 1 + 1 + 1 + 1 + 1) wd tr nn ps nn ps) => pq_ack hW mb2 y5 (by omega) (by omega))
        have HB := Lib.hid (fun (W : World) (hW : Pq w0 W B0 s r c zs (k + 1 + 1 + 1 + 1 + 1) wd tr nn (ackL nn mb2 y5 ps) nn ps) => pq_rack hW mb2 y5 (by omega) (by omega))
        have HO := Lib.hid (ack_ok (nx := nn) (base := mb2) (bits := y5) HT.out)
        obtain ⟨l2, hl2⟩ : ∃ l2, ackL nn mb2 y5 ps = l2 := ⟨_, rfl⟩
        obtain ⟨o2, ho2⟩ : ∃ o2, ackO nn mb2 y5 ps = o2 := ⟨_, rfl⟩
        rw [hl2, ho2] at HA HB
        rw [hl2] at HO
        have HP0 := Lib.hid (hP.quiet ((Chg.refl [] wc).drew))
        have HM0 := Lib.hid (hM.drew)
        have HK := Lib.hid (fun (W : World) (hW : Blk W mm 37 #[.int .i64 mb2, .int .u64 y5]) => And.intro ((hW.cell 0).trans rfl) ((hW.cell 1).trans rfl))
        have hS0 : wc.drew.cell? ⟨mm, 0, none⟩ = some (.int .i64 mb2) ∧ wc.drew.cell? ⟨mm, 1, none⟩ = some (.int .u64 y5) := HK.out _ HM0.out
        clear hM hP hl2 ho2
        go_wp2_with fail
        go_region_held3 (fun w' => w'.cell? ⟨mm, 0, none⟩ = some (.int .i64 mb2) ∧ w'.cell? ⟨mm, 1, none⟩ = some (.int .u64 y5)) (first | exact hS3 | exact hS2 | exact hS1 | exact hS0 | go_keep) (first
          | (go_at_call 12; refine (HA.out _ HP0.out).mono ?_; rintro e w1 ⟨A1, g1, d1, rfl, hR1, hg1, hP1, hb1⟩; have HP1 := Lib.hid hP1; have HR1 := Lib.hid hR1; have HM1 := Lib.hid (hb1 _ _ HM0.out); have hS1 := HK.out _ HM1.out; have hrg : g1 ≠ r := (by have := hP1.rB; have := HP0.out.z1; omega); clear hR1 hP1 hb1)
          | (go_at_call 36; refine (HB.out _ HP1.out).mono ?_; rintro e w2 ⟨A2, g2, d2, rfl, hR2, hc2, hP2⟩; have HP2 := Lib.hid hP2; have HR2 := Lib.hid hR2; have HR1' := Lib.hid (HR1.out.chg hc2 (by simp; exact hrg)); have HM2 := Lib.hid (HM1.out.chg hc2 (by simp; exact hrm)); have hS2 := HK.out _ HM2.out; clear hR2 hP2 hc2)
          | (go_at_call 31; refine (equal_qs rfl rfl HR1'.out HR2.out).mono ?_; rintro e w3 ⟨rfl, hc3⟩; have HP3 := Lib.hid (HP2.out.quiet hc3); have hS3 := HK.out _ (HM2.out.chg hc3 (by simp)); clear hc3))
        all_goals
          go_wp2_with fail
          go_ret
          exact ⟨rfl, _, _, _, HP3.out, by omega, HO.out.1, HO.out.2⟩
  · subst h3
    have HA := Lib.hid (pq_drop HP3.out q)
    have HB := Lib.hid (fun (W : World) (hW : Pq w0 W B0 s r c zs (k + 1 + 1) wd tr nn (drpL ps q) nn ps) => pq_rdrop hW q)
    have HO := Lib.hid (drp_ok (x := q) HT.out)
    generalize drpV ps q = a1 at HA HB
    generalize drpE ps q = a2 at HA HB
    generalize drpL ps q = a4 at HA HB HO
    have g1 : (a1 == a1) = true := by simp
    have g2 : (a2 == a2) = true := by simp
    go_wp2_with fail
    refine HA.out.mono ?_
    rintro e w4 ⟨rfl, hP4⟩
    have HP4 := Lib.hid hP4
    clear hP4
    go_wp2_with fail
    refine (HB.out _ HP4.out).mono ?_
    rintro e w5 ⟨rfl, hP5⟩
    have HP5 := Lib.hid hP5
    clear hP5
    go_wp2_with fail
    go_ret
    exact ⟨rfl, _, _, _, HP5.out, by omega, HO.out.1, HO.out.2⟩

end Go.Proofs.Ytgkhendbpehagaa
