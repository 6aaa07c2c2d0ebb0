/- The walk of the statement SenderScript. -/
import Derived.Test.YtgkhendbpehagaaSy
import Derived.Deep.RegionWith
import Derived.Deep.DrawnRows
namespace Go.Proofs.Ytgkhendbpehagaa
open Go.RowKit
set_option linter.unusedVariables false
set_option linter.unusedSimpArgs false

theorem SRd.chg {w w' : World} {B : Nat} {A : Option Addr} {n c : Nat} {ps : List Sn} (h : w.ownsRow B 39 3 (.slice A n c) n (ps.flatMap snC)) (hc : Chg [] w w') : SRd w' A n c ps := SRd.of_own (own_chg h hc (by simp))

/-- What may be asked of both, behind a call. -/
structure Af (w1 : World) (s r : Nat) (t : Bool) (b : Int) (A : Option Addr) (n c3 : Nat) (ps : List Sn) (n2 : Nat) (L2 : List Sn) : Prop where
  op : ∀ W, Chg [] w1 W → Calls Try.prog 16 #[.pointer (some ⟨s, 0, none⟩)] W fun e w' => e = .returned (.bool t) ∧ Chg [] W w'
  rop : ∀ W, Chg [] w1 W → Calls Try.prog 19 #[.pointer (some ⟨r, 0, none⟩)] W fun e w' => e = .returned (.bool t) ∧ Chg [] W w'
  ba : ∀ W, Chg [] w1 W → Calls Try.prog 14 #[.pointer (some ⟨s, 0, none⟩)] W fun e w' => e = .returned (.int .i64 b) ∧ Chg [] W w'
  rba : ∀ W, Chg [] w1 W → Calls Try.prog 20 #[.pointer (some ⟨r, 0, none⟩)] W fun e w' => e = .returned (.int .i64 b) ∧ Chg [] W w'
  pe : ∀ W, Chg [] w1 W → Calls Try.prog 11 #[.pointer (some ⟨s, 0, none⟩)] W fun e w' => ∃ A' c', e = .returned (.slice A' n c') ∧ (∀ W', Chg [] w' W' → SRd W' A' n c' ps) ∧ Chg [] W w'
  ex : ∀ W, Chg [] w1 W → Calls Try.prog 22 #[.pointer (some ⟨s, 0, none⟩)] W fun e w' => ∃ A' c', e = .returned (.slice A' n2 c') ∧ (∀ W', Chg [] w' W' → SRd W' A' n2 c' L2) ∧ Chg [] W w'
  rex : ∀ W, Chg [] w1 W → Calls Try.prog 23 #[.pointer (some ⟨r, 0, none⟩)] W fun e w' => ∃ A' c', e = .returned (.slice A' n2 c') ∧ (∀ W', Chg [] w' W' → SRd W' A' n2 c' L2) ∧ Chg [] W w'
  cell : ∀ W, Chg [] w1 W → W.cell? ⟨r, 3, none⟩ = some (.slice A n c3)
  srd : ∀ W, Chg [] w1 W → SRd W A n c3 ps
  hn : n ≤ 1000
  hn2 : n2 ≤ 1000
  rl : r < w1.heap.size

theorem pq_after {w0 w1 : World} {B0 s r c k : Nat} {zs : List Int} {wd tr nn : Int} {ps : List Sn} (h : Pq w0 w1 B0 s r c zs k wd tr nn ps nn ps) : ∃ t b A n c3 n2 L2, Af w1 s r t b A n c3 ps n2 L2 := by
  obtain ⟨O, O', h1, h2, _, _⟩ := h.SR
  obtain ⟨A, c3, h9, h10, _⟩ := h2.row
  have hl := h1.hl
  have hx : (exh tr ps).length ≤ ps.length := List.length_filter_le _ _
  refine ⟨decide (dst (bs nn ps) nn < wd), bs nn ps, A, ps.length, c3, (exh tr ps).length, exh tr ps, ?_, ?_, ?_, ?_, ?_, ?_, ?_, ?_, ?_, hl, by omega, h9.lt⟩
  · intro W hW
    refine (sopen_c (h1.chg hW (by simp) (by simp))).mono ?_
    rintro e w' ⟨rfl, m, rfl⟩
    exact ⟨rfl, (Chg.refl [] _).drewN m⟩
  · intro W hW
    refine (ropen_c (h2.chg hW (by simp) (by simp))).mono ?_
    rintro e w' ⟨rfl, m, rfl⟩
    exact ⟨rfl, (Chg.refl [] _).drewN m⟩
  · intro W hW
    refine (sbase_c (h1.chg hW (by simp) (by simp))).mono ?_
    rintro e w' ⟨rfl, m, rfl⟩
    exact ⟨rfl, (Chg.refl [] _).drewN m⟩
  · intro W hW
    refine (rbase_c (h2.chg hW (by simp) (by simp))).mono ?_
    rintro e w' ⟨rfl, m, rfl⟩
    exact ⟨rfl, (Chg.refl [] _).drewN m⟩
  · intro W hW
    refine (spend_c (h1.chg hW (by simp) (by simp))).mono ?_
    rintro e w' ⟨A', c', rfl, ho, hc⟩
    exact ⟨A', c', rfl, fun W' h' => .chg ho h', hc⟩
  · intro W hW
    refine (sexh_c (h1.chg hW (by simp) (by simp))).mono ?_
    rintro e w' ⟨A', c', rfl, ho, hc⟩
    exact ⟨A', c', rfl, fun W' h' => .chg ho h', hc⟩
  · intro W hW
    refine (rexh_c (h2.chg hW (by simp) (by simp))).mono ?_
    rintro e w' ⟨A', c', rfl, ho, hc⟩
    exact ⟨A', c', rfl, fun W' h' => .chg ho h', hc⟩
  · intro W hW
    exact ((h9.chg hW (by simp)).cell 3).trans rfl
  · intro W hW
    exact .chg h10 hW

theorem tab4 {j : Nat} (h : j < 4) : ∃ y : Int, (#[.int .i64 1, .int .i64 2, .int .i64 3, .int .i64 64] : Array Value)[j]? = some (.int .i64 y) ∧ 1 ≤ y ∧ y ≤ 64 := by
  rcases j with _ | _ | _ | _ | j
  · exact ⟨_, rfl, by omega, by omega⟩
  · exact ⟨_, rfl, by omega, by omega⟩
  · exact ⟨_, rfl, by omega, by omega⟩
  · exact ⟨_, rfl, by omega, by omega⟩
  · omega

/-- What stands at the head of the rounds. -/
def SsRel (w wr : World) (B0 s r c : Nat) (zs : List Int) (wd tr : Int) (k : Nat) : Prop := ∃ p nn ps, Pq w wr B0 s r c zs p wd tr nn ps nn ps ∧ p ≤ 2 + 5 * k ∧ tOk tr ps ∧ ps.length ≤ k

theorem ssrel_quiet {w w1 w2 : World} {B0 s r c k : Nat} {zs : List Int} {wd tr : Int} (h : SsRel w w1 B0 s r c zs wd tr k) (hc : Chg [] w1 w2) : SsRel w w2 B0 s r c zs wd tr k := by
  obtain ⟨p, nn, ps, h1, h2, h3, h4⟩ := h
  exact ⟨p, nn, ps, h1.quiet hc, h2, h3, h4⟩

set_option maxRecDepth 100000 in
set_option maxHeartbeats 32000000 in
theorem senderScript_walk {w : World} {a : Option Addr} {len cap : Nat} {zs : List Int} (hz : zs.length = len) (hl : len ≤ 9223372036854775807) (hi : Inp w w.heap.size a zs) (pa pb : Int) :
    Calls Try.prog 5 #[.slice a len cap, .int .i64 pa, .int .i64 pb] w fun e w' => e = .returned (.bool true) ∧ Below w.heap.size w w' := by
  have hgn := gnew_c (cap := cap) hz hl hi
  clear hz hi
  go_enter Try.func5, Try.ntmps5
  go_wp2_with fail
  refine hgn.mono ?_
  rintro e w1 ⟨c, rfl, hC1, hc1⟩
  have HK1 := Lib.hid hc1
  have HC1 := Lib.hid hC1
  have hcl := hC1.lt
  have hcB := hC1.le
  clear hC1 hc1
  go_upto_region 2 with fail
  go_cut [8, 9] (fun v v2 wx => ∃ wd tr : Int, v = .int .i64 wd ∧ v2 = .int .i64 tr ∧ 1 ≤ wd ∧ wd ≤ 64 ∧ 1 ≤ tr ∧ tr ≤ 3 ∧ Cho wx w.heap.size c zs 2 ∧ Chg [] w wx)
  case first =>
    have HN4 := Lib.hid (fun (W : World) (hW : Chg [] w1 W) => next_c (n := 4) (HC1.out.chg hW (by simp) (by simp)) (by omega) (by omega))
    have g0 := nx_nonneg zs 0 4
    have g1 := nx_lt zs 0 4 (by omega)
    generalize nx zs 0 4 = v at HN4 g0 g1
    have HN3 := Lib.hid (fun (W : World) (hW : Cho W w.heap.size c zs 1) => next_c (n := 3) hW (by omega) (by omega))
    have f0 := nx_nonneg zs 1 3
    have f1 := nx_lt zs 1 3 (by omega)
    generalize nx zs 1 3 = u at HN3 f0 f1
    obtain ⟨j, rfl⟩ : ∃ j : Nat, v = j := ⟨v.toNat, by omega⟩
    obtain ⟨y4, htb, hy0, hy1⟩ := tab4 (show j < 4 by omega)
    have htl := htb
    rw [List.getElem?_toArray] at htl
    have hne2 : ¬ w1.heap.size = c := by omega
    have hw3 : IntKind.i64.wrap (1 + u) = 1 + u := IntWalk.i64_in _ (by omega)
    go_region_with (first
      | (go_at_call 9; have hZ := hz4; clear hZ; refine (HN3.out _ (HC4.out.chg (S := []) (by repeat (first | exact Chg.refl _ _ | refine Chg.drew ?_ | refine Chg.alloc ?_ _)) (by simp) (by simp))).mono ?_; rintro e w5 ⟨rfl, hC5, hc5⟩; have HC5 := Lib.hid hC5; have HK5 := Lib.hid (Chg.trans (S := [c]) (a := w1) (by repeat (first | exact HK4.out | refine Chg.drew ?_ | refine Chg.alloc ?_ _)) hc5 (by simp)); (first | (have bq1 := ((HBK.out.chg hc5 (by simp; exact hne2)).cell j).trans htb) | (have bq2 := (((Blk.new w4 3 #[.int .i64 1, .int .i64 2, .int .i64 3, .int .i64 64]).chg hc5 (by simp; exact hne4)).cell j).trans htb) | skip); clear hC5 hc5)
      | (go_at_call 9; refine (HN4.out _ (by repeat (first | exact Chg.refl _ _ | refine Chg.drew ?_ | refine Chg.alloc ?_ _))).mono ?_; rintro e w4 ⟨rfl, hC4, hc4⟩; have HC4 := Lib.hid hC4; have hz4 := hc4.size; have HK4 := Lib.hid (Chg.trans (S := [c]) (a := w1) (by repeat (first | exact Chg.refl _ _ | refine Chg.drew ?_ | refine Chg.alloc ?_ _)) hc4 (by simp)); have hne4 : ¬ w4.heap.size = c := (by have := hC4.lt; omega); (first | (have hbk := ((Blk.new w1 3 #[.int .i64 1, .int .i64 2, .int .i64 3, .int .i64 64]).drew).chg hc4 (by simp; exact hne2); have b0 := (hbk.cell j).trans htb; have HBK := Lib.hid hbk; clear hbk) | skip); clear hC4 hc4))
    all_goals
      go_wp2_with fail
      go_meet
      refine ⟨_, _, rfl, rfl, hy0, hy1, ?_, ?_, HC5.out.chg (S := []) (by repeat (first | exact Chg.refl _ _ | refine Chg.drew ?_ | refine Chg.alloc ?_ _)) (by simp) (by simp), ?_⟩
      · omega
      · omega
      · refine HK1.out.trans (S' := [c]) (by repeat (first | exact HK5.out | refine Chg.drew ?_ | refine Chg.alloc ?_ _)) (by simp; exact hcB)
  case rest =>
    clear HK1 HC1 hcl hgn
    obtain ⟨wd, tr, rfl, rfl, hwd0, hwd1, htr0, htr1, hC1, hc1⟩ := hcut
    have HC1 := Lib.hid hC1
    have HK1 := Lib.hid hc1
    clear hC1 hc1
    obtain ⟨wb, rfl⟩ : ∃ wb : World, wb = wc := ⟨_, rfl⟩
    go_wp2_with fail
    refine (snew_c wd tr hwd0 hwd1 htr0 (by omega) wb HK1.out.size).mono ?_
    rintro e w2 ⟨s, rfl, hS2, hs2, hc2⟩
    have HS2 := Lib.hid hS2
    have HK2 := Lib.hid hc2
    clear hS2 hc2
    go_wp2_with fail
    refine (rnew_c wd tr hwd0 hwd1 htr0 (by omega) w2 (Nat.le_trans HK1.out.size HK2.out.size)).mono ?_
    rintro e w3 ⟨r, rfl, hR3, hr3, hc3⟩
    have HI := Lib.hid (show SsRel w w3 w3.heap.size s r c zs wd tr 0 from ⟨2, 0, [], ⟨⟨[], [], HS2.out.chg hc3 (by simp) (by simp), hR3, by simp, by simp⟩, (HC1.out.chg HK2.out (by simp) (by simp)).chg hc3 (by simp) (by simp), (HK1.out.trans HK2.out (by simp)).trans hc3 (by simp), by have := HK1.out.size; have := HK2.out.size; have := hc3.size; omega, Nat.le_refl _, by have := HS2.out.lt; have := hc3.size; omega, hR3.lt, by have := HC1.out.lt; have := HK2.out.size; have := hc3.size; omega, by have := HS2.out.lt; omega, by have := HC1.out.lt; omega, by have := HC1.out.lt; have := HK2.out.size; omega⟩, by omega, fun p hp => (by simp at hp), by simp⟩)
    obtain ⟨B0, hB0⟩ : ∃ B0, w3.heap.size = B0 := ⟨_, rfl⟩
    rw [hB0] at HI
    clear hR3 hc3 hB0 hr3 hs2 HC1 HK1 HS2 HK2
    go_wp2_with fail
    go_loopw [14] (fun v wr => ∃ (k : Nat), k ≤ 40 ∧ v = .int .i64 k ∧ SsRel w wr B0 s r c zs wd tr k) (fun v _ => 40 - (intOf v).toNat)
    case atStart => exact ⟨0, by omega, rfl, HI.out⟩
    case round =>
      clear HI
      obtain ⟨k, hk, rfl, p, nn, ps, hP, hp, ht, hlk⟩ := hrel
      by_cases hlt : k < 40
      · have hlt' : (k : Int) < 40 := by omega
        have HAct := Lib.hid (act_c (hP.quiet ((Chg.refl [] wr).drew)) ht (by omega) (by omega) k)
        clear hP ht
        go_upto_region 10 with fail
        go_cut [89] (fun v wx => v = .bool false ∧ SsRel w wx B0 s r c zs wd tr (k + 1))
        case first =>
          go_region_with (first
            | (go_at_call 18; refine HAct.out.mono ?_; rintro e v1 ⟨rfl, k1, nn1, ps1, hP1, hk1, ht1, hl1⟩; obtain ⟨t, b, A1, n1, c3, n2, L2, hAf⟩ := pq_after hP1; have HA := Lib.hid hAf; have es1 := hAf.cell _ (Chg.refl _ _); have tt := (by simp : (t != t) = false); have bb := (by simp : (b != b) = false); have HP1 := Lib.hid (show SsRel w v1 B0 s r c zs wd tr (k + 1) ∧ True from ⟨⟨k1, nn1, ps1, hP1, by omega, ht1, by omega⟩, trivial⟩); have C1 := Lib.hid (Chg.refl [] v1); clear hP1 ht1 hAf)
            | (go_at_call 16; refine (HA.out.op _ C1.out).mono ?_; rintro e v2 ⟨rfl, hc2⟩; have C2 := Lib.hid (C1.out.trans hc2 (by simp)); have es2 := HA.out.cell _ C2.out; clear hc2)
            | (go_at_call 19; refine (HA.out.rop _ C2.out).mono ?_; rintro e v3 ⟨rfl, hc3⟩; have C3 := Lib.hid (C2.out.trans hc3 (by simp)); have es3 := HA.out.cell _ C3.out; clear hc3)
            | (go_at_call 14; refine (HA.out.ba _ C3.out).mono ?_; rintro e v4 ⟨rfl, hc4⟩; have C4 := Lib.hid (C3.out.trans hc4 (by simp)); have es4 := HA.out.cell _ C4.out; clear hc4)
            | (go_at_call 20; refine (HA.out.rba _ C4.out).mono ?_; rintro e v5 ⟨rfl, hc5⟩; have C5 := Lib.hid (C4.out.trans hc5 (by simp)); have es5 := HA.out.cell _ C5.out; clear hc5)
            | (go_at_call 11; refine (HA.out.pe _ C5.out).mono ?_; rintro e v6 ⟨A6, c6, rfl, hS6, hc6⟩; have C6 := Lib.hid (C5.out.trans hc6 (by simp)); have HS6 := Lib.hid hS6; have es6 := HA.out.cell _ C6.out; clear hc6 hS6)
            | (go_at_call 22; refine (HA.out.ex _ C7.out).mono ?_; rintro e v8 ⟨A8, c8, rfl, hS8, hc8⟩; have C8 := Lib.hid (C7.out.trans hc8 (by simp)); have HS8 := Lib.hid hS8; have es8 := HA.out.cell _ C8.out; clear hc8 hS8)
            | (go_at_call 23; refine (HA.out.rex _ C8.out).mono ?_; rintro e v9 ⟨A9, c9, rfl, hS9, hc9⟩; have C9 := Lib.hid (C8.out.trans hc9 (by simp)); have HS9 := Lib.hid hS9; have HS8b := Lib.hid (HS8.out _ hc9); have es9 := HA.out.cell _ C9.out; clear hc9 hS9)
            | (go_at_call 21; have hZ := HS9; clear hZ; refine (eqs_c HS8b.out (HS9.out _ (Chg.refl _ _)) HA.out.hn2).mono ?_; rintro e v10 ⟨rfl, hc10⟩; have C10 := Lib.hid (C9.out.trans hc10 (by simp)); have es10 := HA.out.cell _ C10.out; clear hc10)
            | (go_at_call 21; refine (eqs_c (HS6.out _ (Chg.refl _ _)) (HA.out.srd _ C6.out) HA.out.hn).mono ?_; rintro e v7 ⟨rfl, hc7⟩; have C7 := Lib.hid (C6.out.trans hc7 (by simp)); have es7 := HA.out.cell _ C7.out; clear hc7))
          all_goals
            have hfin := (ssrel_quiet HP1.out.1 C10.out)
            have HFin := Lib.hid hfin
            clear hfin
            go_wp2_with fail
            go_meet
            exact ⟨rfl, HFin.out⟩
        case rest =>
          obtain ⟨rfl, hR⟩ := hcut
          have HR := Lib.hid hR
          clear hR HAct
          go_wp2_with fail
          go_roundw
          case rel => exact ⟨k + 1, by omega, by go_num, HR.out⟩
          case measure => simp [intOf]; omega
      · have HK := Lib.hid hP.K
        have hge : (40 : Int) ≤ (k : Int) := by omega
        clear hP ht
        by_cases hpa : 1 ≤ pa ∧ pa ≤ 64 ∧ 1 ≤ pb ∧ pb ≤ 16
        · go_wp2_with fail
          refine (snew_c pa pb hpa.1 hpa.2.1 hpa.2.2.1 hpa.2.2.2 wr HK.out.size).mono ?_
          rintro e v2 ⟨s2, rfl, hV2, hr2, hc2⟩
          have HK2 := Lib.hid (HK.out.trans hc2 (by simp))
          clear hV2 hc2
          go_wp2_with fail
          refine (rnew_c pa pb hpa.1 hpa.2.1 hpa.2.2.1 hpa.2.2.2 v2 HK2.out.size).mono ?_
          rintro e v3 ⟨s3, rfl, hF3, hs3, hc3⟩
          have HK3 := Lib.hid (HK2.out.trans hc3 (by simp))
          clear hF3 hc3
          go_wp2_with fail
          refine (sawake_c _).mono ?_
          rintro e v4 ⟨rfl, kc⟩
          go_wp2_with fail
          go_ret
          exact ⟨rfl, (HK3.out.trans kc (by simp)).below (Nat.le_refl _) (by simp)⟩
        · go_wp2_with fail
          refine (snew_bad pa pb hpa wr).mono ?_
          rintro e v2 ⟨rfl, hc2⟩
          have HK2 := Lib.hid (HK.out.trans hc2 (by simp))
          clear hc2
          go_wp2_with fail
          refine (rnew_bad pa pb hpa v2).mono ?_
          rintro e v3 ⟨rfl, hc3⟩
          have HK3 := Lib.hid (HK2.out.trans hc3 (by simp))
          clear hc3
          go_wp2_with fail
          refine (sawake_c _).mono ?_
          rintro e v4 ⟨rfl, kc⟩
          go_wp2_with fail
          go_ret
          exact ⟨rfl, (HK3.out.trans kc (by simp)).below (Nat.le_refl _) (by simp)⟩

end Go.Proofs.Ytgkhendbpehagaa
