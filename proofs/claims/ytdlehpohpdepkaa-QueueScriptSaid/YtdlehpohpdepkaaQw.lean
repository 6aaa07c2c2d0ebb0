/- The walk of the statement QueueScript. -/
import Derived.Test.YtdlehpohpdepkaaQz2
import Derived.Deep.DrawnRows
namespace Go.Proofs.Ytdlehpohpdepkaa
open Go.RowKit
set_option linter.unusedVariables false
set_option linter.unusedSimpArgs false

/-- What may be asked of both, behind a call. -/
structure Aq (w1 : World) (q r : Nat) (b : Int) (A : Option Addr) (n cc : Nat) (O' : List Nat) (ps : List Pk) : Prop where
  len : ∀ W, Chg [] w1 W → Calls Try.prog 17 #[.pointer (some ⟨q, 0, none⟩)] W fun e w' => e = .returned (.int .i64 (n : Nat)) ∧ Chg [] W w'
  by_ : ∀ W, Chg [] w1 W → Calls Try.prog 18 #[.pointer (some ⟨q, 0, none⟩)] W fun e w' => e = .returned (.int .i64 b) ∧ Chg [] W w'
  rby : ∀ W, Chg [] w1 W → Calls Try.prog 24 #[.pointer (some ⟨r, 0, none⟩)] W fun e w' => e = .returned (.int .i64 b) ∧ Chg [] W w'
  pk : ∀ W, Chg [] w1 W → Calls Try.prog 21 #[.pointer (some ⟨q, 0, none⟩)] W fun e w' => ∃ A' c' O2, e = .returned (.slice A' n c') ∧ (∀ W', Chg [] w' W' → RdP W' O2 A' ps) ∧ Chg [] W w'
  cell : ∀ W, Chg [] w1 W → W.cell? ⟨r, 2, none⟩ = some (.slice A n cc)
  rd : ∀ W, Chg [] w1 W → RdP W O' A ps
  hn : ps.length = n
  hn64 : n ≤ 1000

theorem pz_after {w0 w1 : World} {B0 q r c k : Nat} {G : List Nat} {zs : List Int} {most mb most' mb' : Int} {ps : List Pk} (h : Pz w0 w1 B0 q r c G zs k most mb ps most' mb' ps) : ∃ b A n cc O', Aq w1 q r b A n cc O' ps := by
  obtain ⟨A, cc, O', hrow, hRd, hrl, h64⟩ := pz_row h
  obtain ⟨O, O2, h1, h2, _, _⟩ := h.SR
  refine ⟨tot ps, A, ps.length, cc, O', ?_, ?_, ?_, ?_, hrow, fun W hW => hRd.chg hW (by simp), rfl, by omega⟩
  · intro W hW
    refine (qlen_c (h1.chg hW (by simp) (by simp))).mono ?_
    rintro e w' ⟨rfl, m, rfl⟩
    exact ⟨rfl, (Chg.refl [] _).drewN m⟩
  · intro W hW
    refine (qbytes_c (h1.chg hW (by simp) (by simp))).mono ?_
    rintro e w' ⟨rfl, m, rfl⟩
    exact ⟨rfl, (Chg.refl [] _).drewN m⟩
  · intro W hW
    exact qfbytes_c (h2.chg hW (by simp) (by simp))
  · intro W hW
    refine (qpackets_c (h1.chg hW (by simp) (by simp))).mono ?_
    rintro e w' ⟨A', c', rfl, ho, hc⟩
    exact ⟨A', c', _, rfl, fun W' h' => (RdP.of_own ho).1.chg h' (by simp), hc⟩

theorem tab3 {j : Nat} (h : j < 3) : ∃ y : Int, (#[.int .i64 100, .int .i64 5000, .int .i64 262144] : Array Value)[j]? = some (.int .i64 y) ∧ 1 ≤ y ∧ y ≤ 262144 := by
  rcases j with _ | _ | _ | j
  · exact ⟨_, rfl, by omega, by omega⟩
  · exact ⟨_, rfl, by omega, by omega⟩
  · exact ⟨_, rfl, by omega, by omega⟩
  · omega

/-- What stands at the head of the rounds. -/
def QsRel (w wr : World) (B0 q r c : Nat) (zs : List Int) (k : Nat) : Prop := ∃ p most mb ps, Pz w wr B0 q r c [] zs p most mb ps most mb ps ∧ p ≤ 2 + 12 * k
theorem qsrel_quiet {w w1 w2 : World} {B0 q r c k : Nat} {zs : List Int} (h : QsRel w w1 B0 q r c zs k) (hc : Chg [] w1 w2) : QsRel w w2 B0 q r c zs k := by
  obtain ⟨p, most, mb, ps, h1, h2⟩ := h
  exact ⟨p, most, mb, ps, h1.quiet hc, h2⟩

set_option maxRecDepth 100000 in
set_option maxHeartbeats 32000000 in
theorem queueScript_walk {w : World} {a : Option Addr} {len cap : Nat} {zs : List Int} (hz : zs.length = len) (hl : len ≤ 9223372036854775807) (hi : Inp w w.heap.size a zs) (pa pb : Int) :
    Calls Try.prog 6 #[.slice a len cap, .int .i64 pa, .int .i64 pb] w fun e w' => e = .returned (.bool true) ∧ Below w.heap.size w w' := by
  have hgn := gnew_c (cap := cap) hz hl hi
  clear hz hi
  go_enter Try.func6, Try.ntmps6
  go_wp2_with fail
  refine hgn.mono ?_
  rintro e w1 ⟨c, rfl, hC1, hc1⟩
  have HK1 := Lib.hid hc1
  have HC1 := Lib.hid hC1
  have hcl := hC1.lt
  have hcB := hC1.le
  clear hC1 hc1
  go_upto_region 2 with fail
  go_cut [8, 9] (fun v v2 wx => ∃ n m : Int, v = .int .i64 n ∧ v2 = .int .i64 m ∧ 1 ≤ n ∧ n ≤ 5 ∧ 1 ≤ m ∧ m ≤ 262144 ∧ Cho wx w.heap.size c zs 2 ∧ Chg [] w wx)
  case first =>
    have HN5 := Lib.hid (fun (W : World) (hW : Chg [] w1 W) => next_c (n := 5) (HC1.out.chg hW (by simp) (by simp)) (by omega) (by omega))
    have f0 := nx_nonneg zs 0 5
    have f1 := nx_lt zs 0 5 (by omega)
    generalize nx zs 0 5 = u at HN5 f0 f1
    have HN3 := Lib.hid (fun (W : World) (hW : Cho W w.heap.size c zs 1) => next_c (n := 3) hW (by omega) (by omega))
    have g0 := nx_nonneg zs 1 3
    have g1 := nx_lt zs 1 3 (by omega)
    generalize nx zs 1 3 = v at HN3 g0 g1
    obtain ⟨j, rfl⟩ : ∃ j : Nat, v = j := ⟨v.toNat, by omega⟩
    obtain ⟨y4, htb, hy0, hy1⟩ := tab3 (show j < 3 by omega)
    have htl := htb
    rw [List.getElem?_toArray] at htl
    have hne2 : ¬ w1.heap.size = c := by omega
    have hw3 : IntKind.i64.wrap (1 + u) = 1 + u := IntWalk.i64_in _ (by omega)
    go_region_with (first
      | (go_at_call 13; have hZ := hz4; clear hZ; refine (HN3.out _ (HC4.out.chg (S := []) (by repeat (first | exact Chg.refl _ _ | refine Chg.drew ?_ | refine Chg.alloc ?_ _)) (by simp) (by simp))).mono ?_; rintro e w5 ⟨rfl, hC5, hc5⟩; have HC5 := Lib.hid hC5; have HK5 := Lib.hid (Chg.trans (S := [c]) (a := w1) (by repeat (first | exact HK4.out | refine Chg.drew ?_ | refine Chg.alloc ?_ _)) hc5 (by simp)); (first | (have bq1 := ((HBK.out.chg hc5 (by simp; exact hne2)).cell j).trans htb) | (have bq2 := (((Blk.new w4 3 #[.int .i64 100, .int .i64 5000, .int .i64 262144]).chg hc5 (by simp; exact hne4)).cell j).trans htb) | skip); clear hC5 hc5)
      | (go_at_call 13; refine (HN5.out _ (by repeat (first | exact Chg.refl _ _ | refine Chg.drew ?_ | refine Chg.alloc ?_ _))).mono ?_; rintro e w4 ⟨rfl, hC4, hc4⟩; have HC4 := Lib.hid hC4; have hz4 := hc4.size; have HK4 := Lib.hid (Chg.trans (S := [c]) (a := w1) (by repeat (first | exact Chg.refl _ _ | refine Chg.drew ?_ | refine Chg.alloc ?_ _)) hc4 (by simp)); have hne4 : ¬ w4.heap.size = c := (by have := hC4.lt; omega); (first | (have hbk := ((Blk.new w1 3 #[.int .i64 100, .int .i64 5000, .int .i64 262144]).drew).chg hc4 (by simp; exact hne2); have b0 := (hbk.cell j).trans htb; have HBK := Lib.hid hbk; clear hbk) | skip); clear hC4 hc4))
    all_goals
      go_wp2_with fail
      go_meet
      refine ⟨_, _, rfl, rfl, ?_, ?_, hy0, hy1, HC5.out.chg (S := []) (by repeat (first | exact Chg.refl _ _ | refine Chg.drew ?_ | refine Chg.alloc ?_ _)) (by simp) (by simp), ?_⟩
      · omega
      · omega
      · refine HK1.out.trans (S' := [c]) (by repeat (first | exact HK5.out | refine Chg.drew ?_ | refine Chg.alloc ?_ _)) (by simp; exact hcB)
  case rest =>
    clear HK1 HC1 hcl hgn
    obtain ⟨n, m, rfl, rfl, hn0, hn1, hm0, hm1, hC1, hc1⟩ := hcut
    have HC1 := Lib.hid hC1
    have HK1 := Lib.hid hc1
    have HCap := Lib.hid (show capB n m = true from decide_eq_true (by omega))
    clear hC1 hc1
    obtain ⟨wb, rfl⟩ : ∃ wb : World, wb = wc := ⟨_, rfl⟩
    go_wp2_with fail
    refine (qnew_c n m hn0 (by omega) hm0 hm1 wb HK1.out.size).mono ?_
    rintro e w2 ⟨q, rfl, hS2, hs2, hc2⟩
    have HS2 := Lib.hid hS2
    have HK2 := Lib.hid hc2
    clear hS2 hc2
    go_wp2_with fail
    refine (qfnew_c n m HCap.out w2 (Nat.le_trans HK1.out.size HK2.out.size)).mono ?_
    rintro e w3 ⟨r, rfl, hR3, hr3, hc3⟩
    have HI := Lib.hid (show QsRel w w3 w3.heap.size q r c zs 0 from ⟨2, n, m, [], ⟨⟨[], [], HS2.out.chg hc3 (by simp) (by simp), hR3, by simp, by simp⟩, (HC1.out.chg HK2.out (by simp) (by simp)).chg hc3 (by simp) (by simp), (HK1.out.trans HK2.out (by simp)).trans hc3 (by simp), by have := HK1.out.size; have := HK2.out.size; have := hc3.size; omega, Nat.le_refl _, by simp, by have := HS2.out.lt.2; have := hc3.size; omega, hR3.lt, by have := HC1.out.lt; have := HK2.out.size; have := hc3.size; omega, by have := HS2.out.lt.2; omega, by have := HC1.out.lt; omega, by have := HC1.out.lt; have := HK2.out.size; omega⟩, by omega⟩)
    obtain ⟨B0, hB0⟩ : ∃ B0, w3.heap.size = B0 := ⟨_, rfl⟩
    rw [hB0] at HI
    clear hR3 hc3 hB0 hr3 hs2 HC1 HK1 HS2 HK2
    go_wp2_with fail
    go_loopw [14] (fun v wr => ∃ (k : Nat), k ≤ 30 ∧ v = .int .i64 k ∧ QsRel w wr B0 q r c zs k) (fun v _ => 30 - (intOf v).toNat)
    case atStart => exact ⟨0, by omega, rfl, HI.out⟩
    case round =>
      clear HI
      obtain ⟨k, hk, rfl, p, most, mb, ps, hP, hp⟩ := hrel
      by_cases hlt : k < 30
      · have hlt' : (k : Int) < 30 := by omega
        have hw1 : IntKind.i64.wrap ((k : Int) + 1) = (k : Int) + 1 := IntWalk.i64_in _ (by omega)
        have HAct := Lib.hid (qact_c (hP.quiet ((Chg.refl [] wr).drew)) (by omega) ((k : Int) + 1))
        clear hP
        go_upto_region 10 with fail
        go_cut [85] (fun v wx => v = .bool false ∧ QsRel w wx B0 q r c zs (k + 1))
        case first =>
          go_region_with (first
            | (go_at_call 23; refine HAct.out.mono ?_; rintro e v1 ⟨rfl, k1, most1, mb1, ps1, hP1, hk1⟩; obtain ⟨b, A1, n1, cc1, O1, hAf⟩ := pz_after hP1; have HA := Lib.hid hAf; have es1 := hAf.cell _ (Chg.refl _ _); have tt := (by simp : ((n1 : Int) != (n1 : Int)) = false); have bb := (by simp : (b != b) = false); have HP1 := Lib.hid (show QsRel w v1 B0 q r c zs (k + 1) ∧ True from ⟨⟨k1, most1, mb1, ps1, hP1, by omega⟩, trivial⟩); have C1 := Lib.hid (Chg.refl [] v1); clear hP1 hAf)
            | (go_at_call 17; refine (HA.out.len _ C1.out).mono ?_; rintro e v2 ⟨rfl, hc2⟩; have C2 := Lib.hid (C1.out.trans hc2 (by simp)); have es2 := HA.out.cell _ C2.out; clear hc2)
            | (go_at_call 18; refine (HA.out.by_ _ C2.out).mono ?_; rintro e v3 ⟨rfl, hc3⟩; have C3 := Lib.hid (C2.out.trans hc3 (by simp)); have es3 := HA.out.cell _ C3.out; clear hc3)
            | (go_at_call 24; refine (HA.out.rby _ C3.out).mono ?_; rintro e v4 ⟨rfl, hc4⟩; have C4 := Lib.hid (C3.out.trans hc4 (by simp)); have es4 := HA.out.cell _ C4.out; clear hc4)
            | (go_at_call 21; refine (HA.out.pk _ C4.out).mono ?_; rintro e v5 ⟨A5, c5, O5, rfl, hS5, hc5⟩; have C5 := Lib.hid (C4.out.trans hc5 (by simp)); have HS5 := Lib.hid hS5; have es5 := HA.out.cell _ C5.out; clear hc5 hS5)
            | (go_at_call 25; refine (eqp_c HA.out.hn (HS5.out _ (Chg.refl _ _)) (HA.out.rd _ C5.out) HA.out.hn64).mono ?_; rintro e v6 ⟨rfl, hc6⟩; have C6 := Lib.hid (C5.out.trans hc6 (by simp)); have es6 := HA.out.cell _ C6.out; clear hc6))
          all_goals
            have hfin := (qsrel_quiet HP1.out.1 C6.out)
            have HFin := Lib.hid hfin
            clear hfin
            go_wp2_with fail
            go_meet
            exact ⟨rfl, HFin.out⟩
        case rest =>
          obtain ⟨rfl, hR⟩ := hcut
          have HR := Lib.hid hR
          clear hR HAct
          go_wp2_with fail
          go_roundw
          case rel => exact ⟨k + 1, by omega, by go_num, HR.out⟩
          case measure => simp [intOf]; omega
      · have HPP := Lib.hid hP
        have hge : (30 : Int) ≤ (k : Int) := by omega
        obtain ⟨E, hE⟩ : ∃ E, capE pa pb = E := ⟨_, rfl⟩
        have HCE := Lib.hid hE
        have hEE : (E == E) = true := by simp
        clear hP hE
        cases hcb : capB pa pb with
        | true =>
          have hcc := of_decide_eq_true (show decide _ = true from hcb)
          have HCB := Lib.hid hcb
          clear hcb
          go_wp2_with fail
          refine (qnew_c pa pb hcc.1 hcc.2.1 hcc.2.2.1 hcc.2.2.2 wr HPP.out.K.size).mono ?_
          rintro e v2 ⟨s2, rfl, hV2, hr2, hc2⟩
          have HP2 := Lib.hid (HPP.out.quiet hc2)
          clear hV2 hc2
          go_wp2_with fail
          refine (qfnew_c pa pb HCB.out v2 HP2.out.K.size).mono ?_
          rintro e v3 ⟨s3, rfl, hF3, hs3, hc3⟩
          have HP3 := Lib.hid (HP2.out.quiet hc3)
          clear hF3 hc3
          go_wp2_with fail
          refine (pz_caps HP3.out pa pb).mono ?_
          rintro e v4 ⟨rfl, hP4⟩
          rw [HCE.out]
          have HP4 := Lib.hid hP4
          clear hP4
          go_wp2_with fail
          refine (pz_rcaps HP4.out pa pb).mono ?_
          rintro e v5 ⟨rfl, hP5⟩
          rw [HCE.out]
          have HK5 := Lib.hid hP5.K
          clear hP5
          go_wp2_with fail
          refine (qawake_c _).mono ?_
          rintro e v6 ⟨rfl, kc⟩
          go_wp2_with fail
          go_ret
          exact ⟨rfl, (HK5.out.trans kc (by simp)).below (Nat.le_refl _) (by simp)⟩
        | false =>
          have HCB := Lib.hid hcb
          clear hcb
          go_wp2_with fail
          refine (qnew_bad pa pb HCB.out wr).mono ?_
          rintro e v2 ⟨rfl, hc2⟩
          have HP2 := Lib.hid (HPP.out.quiet hc2)
          clear hc2
          go_wp2_with fail
          refine (qfnew_bad pa pb HCB.out v2).mono ?_
          rintro e v3 ⟨rfl, hc3⟩
          have HP3 := Lib.hid (HP2.out.quiet hc3)
          clear hc3
          go_wp2_with fail
          refine (pz_caps HP3.out pa pb).mono ?_
          rintro e v4 ⟨rfl, hP4⟩
          rw [HCE.out]
          have HP4 := Lib.hid hP4
          clear hP4
          go_wp2_with fail
          refine (pz_rcaps HP4.out pa pb).mono ?_
          rintro e v5 ⟨rfl, hP5⟩
          rw [HCE.out]
          have HK5 := Lib.hid hP5.K
          clear hP5
          go_wp2_with fail
          refine (qawake_c _).mono ?_
          rintro e v6 ⟨rfl, kc⟩
          go_wp2_with fail
          go_ret
          exact ⟨rfl, (HK5.out.trans kc (by simp)).below (Nat.le_refl _) (by simp)⟩

end Go.Proofs.Ytdlehpohpdepkaa
