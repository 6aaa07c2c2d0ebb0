/- The walk of the statement ReceiverOrder. -/
import Derived.Test.YtgkdlplocahnnaaRa
import Derived.Deep.DeepCutAuto
import Derived.WalkLawsBesides
namespace Go.Proofs.Ytgkdlplocahnnaa
open Go.RowKit Go.Maps
set_option linter.unusedVariables false
set_option linter.unusedSimpArgs false

theorem Frm.cho {a b : World} {r m base B c k : Nat} {zs : List Int} (h : Frm a b r m base) (hC : Cho a B c zs k) (hr : c ≠ r) (hm : c ≠ m) (hb : c < base) (Br : B ≤ r) (Bm : B ≤ m) (Bb : B ≤ base) : Cho b B c zs k := by
  obtain ⟨S, h1, h2⟩ := h
  refine hC.chg h1 (fun hj => ?_) (fun j hj => ?_)
  · rcases h2 c hj with h | h | h
    · exact hr h
    · exact hm h
    · omega
  · rcases h2 j hj with rfl | rfl | h
    · exact Br
    · exact Bm
    · omega

/-- What stands at the head of ReceiverOrder's rounds. -/
def OrRel (w wr : World) (r m c : Nat) (wd : Int) (zs : List Int) (k : Nat) (b l : Int) : Prop := ∃ x n H p, RV wr w.heap.size r m n wd x H ∧ n ≤ k ∧ HInv x (b + wd) H ∧ l ≤ x ∧ x ≤ b + wd ∧ (0 ≤ b ∧ b ≤ 6 * (k : Int)) ∧ 0 ≤ l ∧ Cho wr w.heap.size c zs p ∧ p ≤ 1 + 3 * k ∧ c ≠ r ∧ c ≠ m ∧ Chg [] w wr

set_option maxRecDepth 100000 in
set_option maxHeartbeats 8000000 in
theorem receiverOrder_walk {w : World} {a : Option Addr} {len cap : Nat} {zs : List Int} (hz : zs.length = len) (hl : len ≤ 9223372036854775807) (hi : Inp w w.heap.size a zs) :
    Calls Try.prog 3 #[.slice a len cap] w fun e w' => e = .returned (.bool true) ∧ Below w.heap.size w w' := by
  have hgn := gnew_c (cap := cap) hz hl hi
  clear hz hi
  go_enter Try.func3, Try.ntmps3
  go_wp2_with fail
  refine hgn.mono ?_
  rintro e w1 ⟨c, rfl, hC1, hc1⟩
  have g0 := nx_nonneg zs 0 6
  have g1 := nx_lt zs 0 6 (by omega)
  have HN6 := Lib.hid (next_c (n := 6) hC1 (by omega) (by omega))
  have HK1 := Lib.hid hc1
  generalize nx zs 0 6 = wd0 at HN6 g0 g1
  clear hC1 hc1 hgn
  go_wp2_with fail
  refine HN6.out.mono ?_
  rintro e w2 ⟨rfl, hC2, hc2⟩
  have HC2 := Lib.hid hC2
  have HK2 := Lib.hid (HK1.out.trans hc2 (by simp; exact hC2.le))
  clear hC2 hc2 HN6 HK1
  go_wp2_with fail
  refine (rvnew_c (1 + wd0) (by omega) (by omega) w2 HK2.out.size).mono ?_
  rintro e w3 ⟨r, m, rfl, hV3, hr3, hm3, hc3⟩
  have HI := Lib.hid (show OrRel w w3 r m c (1 + wd0) zs 0 0 0 from ⟨0, 0, _, 1, hV3, by omega, (fun k v h => by cases h), by omega, by omega, by omega, by omega, HC2.out.chg hc3 (by simp) (by simp), by omega, by have := HC2.out.lt; omega, by have := HC2.out.lt; omega, HK2.out.trans hc3 (by simp)⟩)
  have hwd0 : 1 ≤ 1 + wd0 := by omega
  have hwd1 : 1 + wd0 ≤ 6 := by omega
  generalize 1 + wd0 = wd at HI hwd0 hwd1 ⊢
  clear hV3 hc3 g0 g1
  go_wp2_with fail
  go_loopw [7, 8, 9] (fun vb vl i wr => ∃ (k : Nat) (b l : Int), k ≤ 60 ∧ i = .int .i64 k ∧ vb = .int .i64 b ∧ vl = .int .i64 l ∧ OrRel w wr r m c wd zs k b l) (fun _ _ i _ => 60 - (intOf i).toNat)
  case atStart => exact ⟨0, 0, 0, by omega, rfl, rfl, rfl, HI.out⟩
  case round =>
    clear HI
    obtain ⟨k, b, l, hk, rfl, rfl, rfl, x, n, H, p, hV, hn, hH, hlx, hxb, ⟨hb0, hb1⟩, hl0, hC, hp, hcr, hcm, hc⟩ := hrel
    by_cases hlt : k < 60
    · have hlk : (k : Int) < 60 := by omega
      have HV := Lib.hid hV
      have HH := Lib.hid hH
      have HC := Lib.hid hc
      have HN5 := Lib.hid (next_c (n := 5) hC (by omega) (by omega))
      have n0 := nx_nonneg zs p 5
      have hx := hV.hx
      generalize nx zs p 5 = v at HN5 n0
      clear hV hH hc hC
      go_wp2_with fail
      refine HN5.out.mono ?_
      rintro e v1 ⟨rfl, hC1, hc1⟩
      go_upto_if 36 with fail
      go_cut [7] (fun v7 wx => ∃ (b' : Int) (p' : Nat), v7 = .int .i64 b' ∧ b ≤ b' ∧ b' ≤ b + 5 ∧ Cho wx w.heap.size c zs p' ∧ p' ≤ p + 2 ∧ Chg [c] wr wx)
      case first =>
        by_cases hv0 : v = 0
        · subst hv0
          have HNw := Lib.hid (next_c (n := wd) hC1 (by omega) (by omega))
          have m0 := nx_nonneg zs (p + 1) wd
          have m1 := nx_lt zs (p + 1) wd (by omega)
          have HC1 := Lib.hid hc1
          generalize nx zs (p + 1) wd = y at HNw m0 m1
          clear hC1 hc1
          go_wp2_with fail
          refine HNw.out.mono ?_
          rintro e v2 ⟨rfl, hC2, hc2⟩
          have HC2 := Lib.hid hC2
          have HK2 := Lib.hid (HC1.out.trans hc2 (by simp))
          clear hC2 hc2
          go_wp2_with fail
          go_meet
          exact ⟨b + y, p + 1 + 1, rfl, by omega, by omega, HC2.out, by omega, HK2.out⟩
        · have hv0' : (v == 0) = false := by rw [beq_eq_false_iff_ne]; exact hv0
          clear hv0
          have HC1 := Lib.hid hC1
          have HK1 := Lib.hid hc1
          clear hC1 hc1
          go_wp2_with fail
          go_meet
          exact ⟨b, p + 1, rfl, by omega, by omega, HC1.out, by omega, HK1.out⟩
      case rest =>
        clear hC1 hc1 HN5
        obtain ⟨b', p', rfl, hb2, hb3, hC1, hp1, hc1⟩ := hcut
        have hV1 := HV.out.chg hc1 (by simp; exact fun e => hcr e.symm) (by simp; exact fun e => hcm e.symm)
        have HNw := Lib.hid (next_c (n := wd) hC1 (by omega) (by omega))
        have m0 := nx_nonneg zs p' wd
        have m1 := nx_lt zs p' wd (by omega)
        have HV1 := Lib.hid hV1
        have HK1 := Lib.hid (HC.out.trans hc1 (by simp; exact hC1.le))
        generalize nx zs p' wd = y at HNw m0 m1
        clear hC1 hc1 hV1 HV HC
        go_wp2_with fail
        refine HNw.out.mono ?_
        rintro e v2 ⟨rfl, hC2, hc2⟩
        have HV2 := Lib.hid (HV1.out.chg hc2 (by simp; exact fun e => hcr e.symm) (by simp; exact fun e => hcm e.symm))
        have HK2 := Lib.hid (HK1.out.trans hc2 (by simp; exact hC2.le))
        have HC2 := Lib.hid hC2
        clear hC2 hc2 HV1 HK1 HNw
        have HRc := Lib.hid (receive_ok (b := b') (s := b' + y) (id := b' + y + 1) HV2.out (by omega) (by unfold seqP; omega) (by omega) (mv_small (by omega) (by omega) hwd0 (by omega)) (ins_small (by omega) (by omega) (by omega)))
        go_wp2_with fail
        refine HRc.out.mono ?_
        rintro e v3 ⟨A, cc, N, x1, H1, o1, x2, H2, o2, rfl, hown, hN, hS, hR, hV3, hF⟩
        obtain ⟨⟨q1, q2⟩, q3, q4⟩ := rcv_ord (l := l) (wd := wd) hS hR (by omega) (by omega) (by omega) (by omega) (fun k v hk => by have := HH.out k v hk; omega) hlx (by omega)
        obtain ⟨hNl, g, hg, hRd, _⟩ := own_rdr hown (by have := hown.1; simp at this; omega)
        subst hNl
        have HV3 := Lib.hid hV3
        have HI3 := Lib.hid q3
        have HA3 := Lib.hid q4
        have HRd := Lib.hid hRd
        have HK3 := Lib.hid (hF.chg HK2.out HV2.out.Br HV2.out.Bm HK2.out.size)
        have HC3 := Lib.hid (hF.cho HC2.out hcr hcm HC2.out.lt HV2.out.Br HV2.out.Bm HK2.out.size)
        have hol : o2.length ≤ 9223372036854775807 := by omega
        clear hown hS hR hV3 hF q3 q4 hRd HRc HK2 HV2 HC2 HH
        go_wp2_with fail
        go_loop [8, 13] (fun vl j => ∃ (jj : Nat) (cur : Int), jj ≤ o2.length ∧ j = .int .i64 jj ∧ vl = .int .i64 cur ∧ Hid (Asc cur (o2.drop jj) x2) ∧ 0 ≤ cur) (fun _ j => o2.length - (intOf j).toNat)
        case atStart => exact ⟨0, l, by omega, rfl, rfl, Lib.hid (by simpa using HA3.out), hl0⟩
        case round =>
          obtain ⟨jj, cur, hjj, rfl, rfl, HA, hcur⟩ := hrel
          by_cases hjl : jj < o2.length
          · obtain ⟨off, rfl, c0⟩ := HRd.out.2 jj hjl
            rw [hgetD_get hjl] at c0
            have hAA := HA.out
            rw [(List.getElem_cons_drop hjl).symm] at hAA
            obtain ⟨ha1, ha2⟩ := hAA
            have HA2 := Lib.hid ha2
            clear ha2 HA
            generalize hu : o2[jj] = u at c0 ha1 HA2
            clear hu
            have hI : (jj : Int) < (o2.length : Int) := by omega
            have hJ : (0 : Int) ≤ (jj : Int) := by omega
            go_wp2_with fail
            go_round
            case rel => exact ⟨jj + 1, u, by omega, by go_num, rfl, HA2, by omega⟩
            case measure => simp [intOf]; omega
          · have hge : (o2.length : Int) ≤ (jj : Int) := by omega
            have hcx : cur ≤ x2 := by
              have := HA.out
              rw [List.drop_of_length_le (by omega)] at this
              exact this
            clear HA
            go_wp2_with fail
            refine (expected_c HV3.out).mono ?_
            rintro e v4 ⟨rfl, hc4⟩
            have HK4 := Lib.hid hc4
            clear hc4
            go_wp2_with fail
            refine (holds_c (HV3.out.chg HK4.out (by simp) (by simp)) (b' + y + 1)).mono ?_
            rintro e v5 ⟨bb, rfl, hbb, hc5⟩
            have HK5 := Lib.hid (HK4.out.trans hc5 (by simp))
            have HBB := Lib.hid hbb
            clear hc5 hbb
            have HEnd := Lib.hid (fun (W : World) (hW : Chg [] v3 W) (b2 : Int) (h1 : b' ≤ b2) (h2 : b2 ≤ b' + 1) (h3 : x2 ≤ b2 + wd) => (show OrRel w W r m c wd zs (k + 1) b2 cur from ⟨x2, n + 1, H2, p' + 1, HV3.out.chg hW (by simp) (by simp), by omega, fun k v hk => by have := HI3.out k v hk; omega, hcx, h3, by omega, hcur, HC3.out.chg hW (by simp) (by simp), by omega, hcr, hcm, HK3.out.trans hW (by simp)⟩))
            have HX := Lib.hid (HV3.out)
            cases bb with
            | true =>
              have hnm : decide (b' + y + 1 ∈ o2) = false := by
                obtain ⟨kk, hkk, hHk⟩ := HBB.out.1 rfl
                have e1 := HI3.out kk _ hHk
                refine decide_eq_false fun hm => ?_
                have := HA3.out.mem hm
                omega
              have HHas := Lib.hid (fun (W : World) (hW : Chg [] v3 W) => has_int (d := cc) rfl (HRd.out.chg hW (by simp)) (b' + y + 1))
              rw [hnm] at HHas
              clear hnm
              go_wp2_with fail
              refine (HHas.out _ HK5.out).mono ?_
              rintro e v6 ⟨rfl, m6, rfl⟩
              have HK6 := Lib.hid (HK5.out.drewN m6)
              go_wp2_with fail
              refine (expected_c (HX.out.chg HK6.out (by simp) (by simp))).mono ?_
              rintro e v7 ⟨rfl, hc7⟩
              have HK7 := Lib.hid (HK6.out.trans hc7 (by simp))
              clear hc7
              go_wp2_with fail
              go_roundw
              case rel => exact ⟨k + 1, _, cur, by omega, by go_num, rfl, rfl, HEnd.out _ HK7.out _ (by split <;> omega) (by split <;> omega) (by split <;> omega)⟩
              case measure => simp [intOf]; omega
            | false =>
              go_wp2_with fail
              refine (expected_c (HX.out.chg HK5.out (by simp) (by simp))).mono ?_
              rintro e v7 ⟨rfl, hc7⟩
              have HK7 := Lib.hid (HK5.out.trans hc7 (by simp))
              clear hc7
              go_wp2_with fail
              go_roundw
              case rel => exact ⟨k + 1, _, cur, by omega, by go_num, rfl, rfl, HEnd.out _ HK7.out _ (by split <;> omega) (by split <;> omega) (by split <;> omega)⟩
              case measure => simp [intOf]; omega
    · have hk60 : (60 : Int) ≤ (k : Int) := by omega
      have HC := Lib.hid hc
      clear hV hH hC hc
      go_wp2_with fail
      refine (rvawake_c _).mono ?_
      rintro e v1 ⟨rfl, kc⟩
      go_wp2_with fail
      go_ret
      exact ⟨rfl, (HC.out.trans kc (by simp)).below (Nat.le_refl _) (by simp)⟩

end Go.Proofs.Ytgkdlplocahnnaa
