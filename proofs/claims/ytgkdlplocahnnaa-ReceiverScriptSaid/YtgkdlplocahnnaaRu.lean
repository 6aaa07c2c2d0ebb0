/- The reference's receiver: take at the expected number; release, Skip. Printed by gen/xru.py. -/
import Derived.Test.YtgkdlplocahnnaaRt
import Derived.Test.YtgkdlplocahnnaaRn
import Derived.Deep.LoopGhost
namespace Go.Proofs.Ytgkdlplocahnnaa
open Go.RowKit Go.Maps
set_option linter.unusedVariables false
set_option linter.unusedSimpArgs false

theorem RF.blk1 {w : World} {B s : Nat} {O : List Nat} {wd x : Int} {ps : List Hd} (h : RF w B s O wd x ps) : w.cell? ⟨s, 1, none⟩ = some (.int .i64 x) ∧ w.frozen? ⟨s, 1, none⟩ = false := by
  obtain ⟨A, c, h9, _⟩ := h.row
  exact ⟨(h9.cell 1).trans rfl, h9.frozen 1⟩
theorem RF.apart {w : World} {B s base n : Nat} {O : List Nat} {wd x : Int} {ps : List Hd} {v : Value} {xs : List Value} (h : RF w B s O wd x ps) (ho : w.ownsRow base 3 1 v n xs) :
    ∃ O2, (∀ j ∈ O2, j ∈ O) ∧ RF w B s O2 wd x ps ∧ (∀ j ∈ O2, j ∉ ownL v) ∧ s ∉ ownL v := by
  obtain ⟨h1, h2, h3, h3l, h4, h6, h7, A, c, h9, h10, h11⟩ := h
  exact ⟨ownL (.slice A ps.length c), h11, ⟨h1, fun hs => h2 (h11 s hs), fun j hj => h3 j (h11 j hj), fun j hj => h3l j (h11 j hj), h4, h6, h7, A, c, h9, h10, fun j hj => hj⟩, fun j hj => own_ne_own h10 ho (by decide) j (mem_ownL.1 hj), ownL_blk ho h9 (by decide)⟩

/-- take at the expected number. -/
theorem tknext_c {w : World} {B s : Nat} {O : List Nat} {wd x : Int} {H : Int → Option Int} (h : RF w B s O wd x (lst x H)) (hB : Bd x wd H) (hw : B ≤ w.heap.size) :
    Calls Try.prog 34 #[.pointer (some ⟨s, 0, none⟩), .int .i64 x] w fun e w' => e = .returned (.int .i64 ((H x).getD 0)) ∧ ∃ O', RF w' B s O' wd x (lst ((x + 1) % 65536) (mDel H x)) ∧ (∀ j ∈ O', j ∈ O ∨ w.heap.size ≤ j) ∧ Chg [s] w w' := by
  have hst := lst_step hB h.hx h.hw.2
  have hm := mem_lst (hB.del h.hx) (show 0 ≤ (x + 1) % 65536 ∧ (x + 1) % 65536 < 65536 by omega) h.hw.2
  cases hH : H x with
  | none =>
    rw [hH] at hst
    simp at hst
    rw [hst] at h
    refine (take_none h x (fun j hj e => ?_)).mono ?_
    · have h1 := (hm (lst ((x + 1) % 65536) (mDel H x))[j]).1 (by simp)
      rw [e, mDel_same] at h1
      cases h1
    · rintro e w' ⟨rfl, hc⟩
      exact ⟨rfl, O, h.chg hc (by simp) (by simp), fun j hj => .inl hj, hc.mono (by simp)⟩
  | some v =>
    rw [hH] at hst
    simp at hst
    rw [hst] at h
    refine (take_c h hw x (k := 0) (by simp) (by simp) (fun j _ hj => absurd hj (by omega))).mono ?_
    rintro e w' ⟨rfl, O', h1, h2, h3⟩
    exact ⟨by simp, O', by simpa using h1, fun j hj => .inr (h2 j hj), h3⟩

/-- What stands at the head of the loop that moves to a base. -/
def SfRel (w wr : World) (B s : Nat) (O : List Nat) (base : Nat) (wd b x : Int) (H : Int → Option Int) (gk : Nat) (v : Value) : Prop :=
  ∃ A c N x1 H1 o1 O1, v = .slice A N c ∧ wr.ownsRow base 3 1 (.slice A N c) N (o1.map (Value.int .i64)) ∧ RF wr B s O1 wd x1 (lst x1 H1) ∧ Bd x1 wd H1 ∧ (∀ x' H' o', Skp b x1 H1 o1 x' H' o' → Skp b x H [] x' H' o') ∧ gk = (if befB x1 b = true then (dst x1 b).toNat else 0) ∧ N + gk ≤ 32768 ∧ base ≤ wr.heap.size ∧ Chg [s] w wr ∧ ∀ j ∈ O1, j ∈ O ∨ w.heap.size ≤ j
/-- What stands at the head of the loop that releases. -/
def RfRel (w wr : World) (B s : Nat) (O : List Nat) (base : Nat) (wd x : Int) (H : Int → Option Int) (o : List Int) (gk : Nat) (v : Value) : Prop :=
  ∃ A c N x1 H1 o1 O1, v = .slice A N c ∧ wr.ownsRow base 3 1 (.slice A N c) N (o1.map (Value.int .i64)) ∧ RF wr B s O1 wd x1 (lst x1 H1) ∧ Bd x1 wd H1 ∧ (∀ x' H' o', Rls x1 H1 o1 x' H' o' → Rls x H o x' H' o') ∧ gk = (lst x1 H1).length ∧ N + gk ≤ 50000 ∧ base ≤ wr.heap.size ∧ Chg [s] w wr ∧ ∀ j ∈ O1, j ∈ O ∨ w.heap.size ≤ j
/-- What release leaves. -/
def RfPost (w : World) (B s : Nat) (O : List Nat) (wd b x : Int) (H : Int → Option Int) (w' : World) (A : Option Addr) (N c : Nat) : Prop :=
  ∃ x1 H1 o1 x2 H2 o2 O', w'.ownsRow w.heap.size 3 1 (.slice A N c) N (o2.map (Value.int .i64)) ∧ N ≤ 100000 ∧ Skp b x H [] x1 H1 o1 ∧ Rls x1 H1 o1 x2 H2 o2 ∧ RF w' B s O' wd x2 (lst x2 H2) ∧ (∀ j ∈ O', j ∈ O ∨ w.heap.size ≤ j) ∧ Chg [s] w w'

set_option maxRecDepth 100000 in
set_option maxHeartbeats 8000000 in
theorem rrelease_c {w : World} {B s : Nat} {O : List Nat} {wd x b : Int} {H : Int → Option Int} (h : RF w B s O wd x (lst x H)) (hBd : Bd x wd H) (hB : B ≤ w.heap.size) :
    Calls Try.prog 32 #[.pointer (some ⟨s, 0, none⟩), .int .i64 b] w fun e w' => ∃ A N c, e = .returned (.slice A N c) ∧ RfPost w B s O wd b x H w' A N c := by
  obtain ⟨base, hbase⟩ : ∃ base, w.heap.size = base := ⟨_, rfl⟩
  have HI := Lib.hid (show SfRel w w B s O base wd b x H (if befB x b = true then (dst x b).toNat else 0) (.slice none 0 0) from ⟨none, 0, 0, x, H, [], O, rfl, World.ownsRow_nil _ _ _ _, h, hBd, fun _ _ _ h => h, rfl, by
    split
    · rename_i hb; have := (bef_step h.hx hb).2; omega
    · omega, by omega, Chg.refl _ _, fun j hj => .inl hj⟩)
  have HBase := Lib.hid hbase
  have hBb : B ≤ base := by omega
  clear h hBd hbase
  go_enter Try.func32, Try.ntmps32
  go_wp2_with fail
  go_loopg [5, 6] (if befB x b = true then (dst x b).toNat else 0) (fun gk v _ wr => SfRel w wr B s O base wd b x H gk v)
  case atStart => exact HI.out
  case round =>
    clear HI
    obtain ⟨A1, c1, N1, x1, H1, o1, O1, rfl, hown, hV, hbd, hR, hg, hN, hz, hc, hOs⟩ := hrel
    obtain ⟨O3, hO3, hV3, hA3, hsO⟩ := hV.apart hown
    have hOs3 : ∀ j ∈ O3, j ∈ O ∨ w.heap.size ≤ j := fun j hj => hOs j (hO3 j hj)
    have e1 := (hV3.blk1).1
    have HV := Lib.hid hV3
    have HO := Lib.hid hown
    have HR := Lib.hid hR
    have HBd := Lib.hid hbd
    have HC := Lib.hid hc
    have HZ := Lib.hid hz
    have HOs := Lib.hid hOs3
    have HBf := Lib.hid (fun W : World => rbef x1 b W)
    have hx1 := hV3.hx
    have hBw : B ≤ wr.heap.size := by omega
    cases hb : befB x1 b with
    | false =>
      rw [hb] at HBf
      have HSk := Lib.hid (hR _ _ _ (.stop hb))
      rw [hb, if_neg (by simp)] at hg
      subst hg
      clear hV hV3 hown hR hbd hc hz hOs hOs3 hO3 hA3 hb
      go_wp2_with fail
      refine (HBf.out _).mono ?_
      rintro e w' ⟨rfl, rfl⟩
      have HI2 := Lib.hid (show RfRel w wr B s O base wd x1 H1 o1 (lst x1 H1).length (.slice A1 N1 c1) from ⟨A1, c1, N1, x1, H1, o1, O3, rfl, HO.out, HV.out, HBd.out, fun _ _ _ h => h, rfl, by have := lst_le x1 H1; omega, HZ.out, HC.out, HOs.out⟩)
      clear HO HV HBd HZ HC HOs HR
      go_wp2_with fail
      obtain ⟨w1s, rfl⟩ : ∃ w1s : World, w1s = wr := ⟨_, rfl⟩
      go_loopg [5, 7] (lst x1 H1).length (fun gk v _ wr => RfRel w wr B s O base wd x1 H1 o1 gk v)
      case atStart => exact HI2.out
      case round =>
        clear HI2
        obtain ⟨xs, rfl⟩ : ∃ xs : Int, xs = x1 := ⟨_, rfl⟩
        obtain ⟨Hs, rfl⟩ : ∃ Hs : Int → Option Int, Hs = H1 := ⟨_, rfl⟩
        obtain ⟨os, rfl⟩ : ∃ os : List Int, os = o1 := ⟨_, rfl⟩
        clear hsO e1 hx1 hN hBw HBf
        obtain ⟨A1, c1, N1, x1, H1, o1, O1, rfl, hown, hV, hbd, hR, hg, hN, hz, hc, hOs⟩ := hrel
        obtain ⟨O3, hO3, hV3, hA3, hsO⟩ := hV.apart hown
        have hOs3 : ∀ j ∈ O3, j ∈ O ∨ w.heap.size ≤ j := fun j hj => hOs j (hO3 j hj)
        have e1 := (hV3.blk1).1
        have HV := Lib.hid hV3
        have HO := Lib.hid hown
        have HR := Lib.hid hR
        have HBd := Lib.hid hbd
        have HC := Lib.hid hc
        have HZ := Lib.hid hz
        have HOs := Lib.hid hOs3
        have hx1 := hV3.hx
        have hBw : B ≤ wr.heap.size := by omega
        have HG := Lib.hid hg
        clear hV hV3 hown hR hbd hc hz hOs hOs3 hO3 hA3 hg
        go_wp2_with fail
        cases hH : H1 x1 with
        | none =>
          refine (tknext_c HV.out HBd.out hBw).mono ?_
          rintro e w2 ⟨rfl, O5, hV5, hO5, hc2⟩
          have hHN := Lib.hid hH
          rw [hH]
          clear hH
          have HO2 := Lib.hid (own_chg HO.out hc2 (fun g hg => by simp; rintro rfl; exact hsO (mem_ownL.2 hg)))
          obtain ⟨O2, hO25, hV2, hA2, hsO2⟩ := hV5.apart HO2.out
          have hO2 : ∀ j ∈ O2, j ∈ O3 ∨ wr.heap.size ≤ j := fun j hj => hO5 j (hO25 j hj)
          have hg1 := (hV2.blk1).1
          have hg2 := (hV2.blk1).2
          have HV2 := Lib.hid hV2
          have HA2 := Lib.hid (And.intro hA2 hsO2)
          have HC2 := Lib.hid (HC.out.trans hc2 (by simp))
          have HZ2 := Lib.hid (show base ≤ w2.heap.size from Nat.le_trans HZ.out hc2.size)
          have HOO := Lib.hid (show ∀ j ∈ O2, j ∈ O ∨ w.heap.size ≤ j from fun j hj => by
            rcases hO2 j hj with h | h
            · exact HOs.out j h
            · exact .inr (by have := HC.out.size; omega))
          clear hV2 hO2 hc2 hV5 hO5 hO25 hA2 hsO2
          go_wp2_with fail
          go_ret
          have h9 := HV2.out
          have h8 := lst_step HBd.out hx1 HV.out.hw.2
          rw [hHN.out] at h8
          simp at h8
          rw [← h8] at h9
          exact ⟨A1, N1, c1, rfl, xs, Hs, os, x1, H1, o1, O2, by have := HO2.out; rw [HBase.out]; exact this, by omega, HSk.out, HR.out _ _ _ (.stop hHN.out), h9, HOO.out, HC2.out⟩
        | some v =>
          refine (tknext_c HV.out HBd.out hBw).mono ?_
          rintro e w2 ⟨rfl, O5, hV5, hO5, hc2⟩
          have hHN := Lib.hid hH
          have hv1 : 1 ≤ v := (HBd.out _ _ hH).2.2
          rw [hH]
          clear hH
          have HO2 := Lib.hid (own_chg HO.out hc2 (fun g hg => by simp; rintro rfl; exact hsO (mem_ownL.2 hg)))
          obtain ⟨O2, hO25, hV2, hA2, hsO2⟩ := hV5.apart HO2.out
          have hO2 : ∀ j ∈ O2, j ∈ O3 ∨ wr.heap.size ≤ j := fun j hj => hO5 j (hO25 j hj)
          have hg1 := (hV2.blk1).1
          have hg2 := (hV2.blk1).2
          have HV2 := Lib.hid hV2
          have HA2 := Lib.hid (And.intro hA2 hsO2)
          have HC2 := Lib.hid (HC.out.trans hc2 (by simp))
          have HZ2 := Lib.hid (show base ≤ w2.heap.size from Nat.le_trans HZ.out hc2.size)
          have HOO := Lib.hid (show ∀ j ∈ O2, j ∈ O ∨ w.heap.size ≤ j from fun j hj => by
            rcases hO2 j hj with h | h
            · exact HOs.out j h
            · exact .inr (by have := HC.out.size; omega))
          clear hV2 hO2 hc2 hV5 hO5 hO25 hA2 hsO2
          have hv0 : (v == 0) = false := by rw [beq_eq_false_iff_ne]; omega
          go_wp2_with (at_builtin; refine list_app (P := Try.prog) (t := 22) Try.underlying22 rint_info rfl (by omega) (.tmp 44) (.tmp 46) base (n := N1) (m := 1) (N := N1 + 1) rfl (by omega) (rint_one v) (by omega) (own_chg HO2.out ((Chg.refl [] w2).alloc _) (by simp)) (reads_lit1 w2 3 (.int .i64 v)) (by simp; have := HZ2.out; omega) (by rfl) (by rfl) (by rfl) (by rfl) ?_; intro A2 d2 W2 hown2 hgrow2 hat2; have HQ2 := Lib.hid (((Chg.refl (ownL (.slice A1 N1 c1)) w2).alloc (.cells #[.int .i64 v] 3)).grown hgrow2 (fun j hj => .inl (mem_ownL.2 hj))); have HO3 := Lib.hid hown2; have HV3 := Lib.hid (HV2.out.chg HQ2.out HA2.out.2 HA2.out.1); have g1 := (HV3.out.blk1).1; have g2 := (HV3.out.blk1).2; clear hown2 hgrow2 hat2)
          have hsW : s ∉ ownL (.slice A2 (N1 + 1) d2) := by
            obtain ⟨_, _, hb9, _⟩ := HV3.out.row
            exact ownL_blk HO3.out hb9 (by decide)
          have HREL := Lib.hid (show RfRel w (W2.setCell ⟨s, 1, none⟩ (.int .i64 ((x1 + 1) % 65536))) B s O base wd xs Hs os (lst ((x1 + 1) % 65536) (mDel H1 x1)).length (.slice A2 (N1 + 1) d2) from ⟨A2, d2, N1 + 1, _, _, (o1 ++ [v]), O2, rfl, (by have h7 := own_chg HO3.out ((Chg.refl [s] _).setCell (p := ⟨s, 1, none⟩) (by simp) (.int .i64 ((x1 + 1) % 65536))) (fun g hg => by simp; rintro rfl; exact hsW (mem_ownL.2 hg)); simpa using h7), HV3.out.setx (by omega), HBd.out.del hx1, fun x' H' o' h => HR.out x' H' o' (.go hHN.out h), rfl, (by have h8 := lst_step HBd.out hx1 HV.out.hw.2; rw [hHN.out] at h8; simp at h8; have h9 := HG.out; rw [h8, List.length_cons] at h9; omega), (by have := HZ2.out; have := HQ2.out.size; simp [World.setCell]; omega), ((HC2.out.trans HQ2.out (fun j hj => .inr (by have := (ownL_lt HO2.out j hj).1; have := HBase.out; omega))).setCell (by simp) _), HOO.out⟩)
          go_wp2_with fail
          go_roundg (lst ((x1 + 1) % 65536) (mDel H1 x1)).length
          case measure => have h8 := lst_step HBd.out hx1 HV.out.hw.2; rw [hHN.out] at h8; simp at h8; have h9 := HG.out; rw [h8, List.length_cons] at h9; omega
          case rel => exact HREL.out
    | true =>
      rw [hb] at HBf
      rw [hb, if_pos rfl] at hg
      have HB := Lib.hid hb
      have HG := Lib.hid hg
      have HSt := Lib.hid (bef_step hV.hx hb)
      clear hV hV3 hown hR hbd hc hz hOs hOs3 hO3 hA3 hb hg
      go_wp2_with fail
      refine (HBf.out _).mono ?_
      rintro e w' ⟨rfl, rfl⟩
      go_wp2_with fail
      cases hH : H1 x1 with
      | none =>
        refine (tknext_c HV.out HBd.out hBw).mono ?_
        rintro e w2 ⟨rfl, O5, hV5, hO5, hc2⟩
        have hHN := Lib.hid hH
        rw [hH]
        clear hH
        have HO2 := Lib.hid (own_chg HO.out hc2 (fun g hg => by simp; rintro rfl; exact hsO (mem_ownL.2 hg)))
        obtain ⟨O2, hO25, hV2, hA2, hsO2⟩ := hV5.apart HO2.out
        have hO2 : ∀ j ∈ O2, j ∈ O3 ∨ wr.heap.size ≤ j := fun j hj => hO5 j (hO25 j hj)
        have hg1 := (hV2.blk1).1
        have hg2 := (hV2.blk1).2
        have HV2 := Lib.hid hV2
        have HA2 := Lib.hid (And.intro hA2 hsO2)
        have HC2 := Lib.hid (HC.out.trans hc2 (by simp))
        have HZ2 := Lib.hid (show base ≤ w2.heap.size from Nat.le_trans HZ.out hc2.size)
        have HOO := Lib.hid (show ∀ j ∈ O2, j ∈ O ∨ w.heap.size ≤ j from fun j hj => by
          rcases hO2 j hj with h | h
          · exact HOs.out j h
          · exact .inr (by have := HC.out.size; omega))
        clear hV2 hO2 hc2 hV5 hO5 hO25 hA2 hsO2
        have HREL := Lib.hid (show SfRel w (w2.setCell ⟨s, 1, none⟩ (.int .i64 ((x1 + 1) % 65536))) B s O base wd b x H (if befB ((x1 + 1) % 65536) b = true then (dst ((x1 + 1) % 65536) b).toNat else 0) (.slice A1 N1 c1) from ⟨A1, c1, N1, _, _, (o1 ++ (H1 x1).toList), O2, rfl, (by have h7 := own_chg HO2.out ((Chg.refl [s] _).setCell (p := ⟨s, 1, none⟩) (by simp) (.int .i64 ((x1 + 1) % 65536))) (fun g hg => by simp; rintro rfl; exact HA2.out.2 (mem_ownL.2 hg)); rw [hHN.out]; simpa using h7), HV2.out.setx (by omega), HBd.out.del hx1, fun x' H' o' h => HR.out x' H' o' (.go HB.out h), rfl, (by have h8 := HSt.out; have h9 := HG.out; omega), (by have := HZ2.out; simp [World.setCell]; omega), (HC2.out.setCell (by simp) _), HOO.out⟩)
        go_wp2_with fail
        go_roundg (if befB ((x1 + 1) % 65536) b = true then (dst ((x1 + 1) % 65536) b).toNat else 0)
        case measure => rw [HG.out]; exact HSt.out.1
        case rel => exact HREL.out
      | some v =>
        refine (tknext_c HV.out HBd.out hBw).mono ?_
        rintro e w2 ⟨rfl, O5, hV5, hO5, hc2⟩
        have hHN := Lib.hid hH
        have hv1 : 1 ≤ v := (HBd.out _ _ hH).2.2
        rw [hH]
        clear hH
        have HO2 := Lib.hid (own_chg HO.out hc2 (fun g hg => by simp; rintro rfl; exact hsO (mem_ownL.2 hg)))
        obtain ⟨O2, hO25, hV2, hA2, hsO2⟩ := hV5.apart HO2.out
        have hO2 : ∀ j ∈ O2, j ∈ O3 ∨ wr.heap.size ≤ j := fun j hj => hO5 j (hO25 j hj)
        have hg1 := (hV2.blk1).1
        have hg2 := (hV2.blk1).2
        have HV2 := Lib.hid hV2
        have HA2 := Lib.hid (And.intro hA2 hsO2)
        have HC2 := Lib.hid (HC.out.trans hc2 (by simp))
        have HZ2 := Lib.hid (show base ≤ w2.heap.size from Nat.le_trans HZ.out hc2.size)
        have HOO := Lib.hid (show ∀ j ∈ O2, j ∈ O ∨ w.heap.size ≤ j from fun j hj => by
          rcases hO2 j hj with h | h
          · exact HOs.out j h
          · exact .inr (by have := HC.out.size; omega))
        clear hV2 hO2 hc2 hV5 hO5 hO25 hA2 hsO2
        go_wp2_with (at_builtin; refine list_app (P := Try.prog) (t := 22) Try.underlying22 rint_info rfl (by omega) (.tmp 22) (.tmp 24) base (n := N1) (m := 1) (N := N1 + 1) rfl (by omega) (rint_one v) (by omega) (own_chg HO2.out ((Chg.refl [] w2).alloc _) (by simp)) (reads_lit1 w2 3 (.int .i64 v)) (by simp; have := HZ2.out; omega) (by rfl) (by rfl) (by rfl) (by rfl) ?_; intro A2 d2 W2 hown2 hgrow2 hat2; have HQ2 := Lib.hid (((Chg.refl (ownL (.slice A1 N1 c1)) w2).alloc (.cells #[.int .i64 v] 3)).grown hgrow2 (fun j hj => .inl (mem_ownL.2 hj))); have HO3 := Lib.hid hown2; have HV3 := Lib.hid (HV2.out.chg HQ2.out HA2.out.2 HA2.out.1); have g1 := (HV3.out.blk1).1; have g2 := (HV3.out.blk1).2; clear hown2 hgrow2 hat2)
        have hsW : s ∉ ownL (.slice A2 (N1 + 1) d2) := by
          obtain ⟨_, _, hb9, _⟩ := HV3.out.row
          exact ownL_blk HO3.out hb9 (by decide)
        have HREL := Lib.hid (show SfRel w (W2.setCell ⟨s, 1, none⟩ (.int .i64 ((x1 + 1) % 65536))) B s O base wd b x H (if befB ((x1 + 1) % 65536) b = true then (dst ((x1 + 1) % 65536) b).toNat else 0) (.slice A2 (N1 + 1) d2) from ⟨A2, d2, N1 + 1, _, _, (o1 ++ (H1 x1).toList), O2, rfl, (by have h7 := own_chg HO3.out ((Chg.refl [s] _).setCell (p := ⟨s, 1, none⟩) (by simp) (.int .i64 ((x1 + 1) % 65536))) (fun g hg => by simp; rintro rfl; exact hsW (mem_ownL.2 hg)); rw [hHN.out]; simpa using h7), HV3.out.setx (by omega), HBd.out.del hx1, fun x' H' o' h => HR.out x' H' o' (.go HB.out h), rfl, (by have h8 := HSt.out; have h9 := HG.out; omega), (by have := HZ2.out; have := HQ2.out.size; simp [World.setCell]; omega), ((HC2.out.trans HQ2.out (fun j hj => .inr (by have := (ownL_lt HO2.out j hj).1; have := HBase.out; omega))).setCell (by simp) _), HOO.out⟩)
        go_wp2_with fail
        go_roundg (if befB ((x1 + 1) % 65536) b = true then (dst ((x1 + 1) % 65536) b).toNat else 0)
        case measure => rw [HG.out]; exact HSt.out.1
        case rel => exact HREL.out

end Go.Proofs.Ytgkdlplocahnnaa
