/- The round of deficits: the walk of Next where a station sends. -/
import Derived.Test.YtmbmejobffpaoaaDx
namespace Go.Proofs.Ytmbmejobffpaoaa
open Go.RowKit
set_option linter.unusedVariables false
set_option linter.unusedSimpArgs false

theorem vw_cons (m : Nat × Sd) (R : List (Nat × Sd)) : vw (m :: R) = m.2 :: vw R := rfl
theorem vw_app (M N : List (Nat × Sd)) : vw (M ++ N) = vw M ++ vw N := by simp [vw]

/-- What stands at the head of Next's loop. -/
def NxRel (w w1 wr : World) (B r : Nat) (O : List Nat) (q K : Int) (rd : List Int) (L : List Sd) (x0 : Int) (sn : Option Addr) (gk : Nat) : Prop :=
  ∃ M A c O', DM wr B r O' q M A c sn ∧ DV q K (vw M) ∧ (∀ L', Nxt q rd (vw M) L' → Nxt q rd L L') ∧ (∃ k, sid x0 (vw M) = some k) ∧ gk = meas x0 (vw M) ∧ (∀ j ∈ O', j ∈ O ∨ w1.heap.size ≤ j) ∧ Chg (r :: O) w1 wr

theorem sid_rot {q x : Int} {s : Sd} {r : List Sd} (h : ∃ k, sid x (s :: r) = some k) : ∃ k, sid x (r ++ [rot q s]) = some k := by
  refine sid_mem ?_
  obtain ⟨k, hk⟩ := h
  obtain ⟨h1, h2⟩ := sid_spec hk
  have hm := List.getElem_mem h1
  rcases List.mem_cons.1 hm with he | hm
  · refine ⟨rot q s, by simp, ?_⟩
    rw [rot_i, ← he, h2]
  · exact ⟨_, by simp [hm], h2⟩

/-- One turn: the relation goes on. -/
theorem nx_turn {w w1 wr : World} {B r c' gk : Nat} {O O' O2 : List Nat} {q K x0 : Int} {rd : List Int} {L : List Sd} {sn A2 : Option Addr} {m : Nat × Sd} {R : List (Nat × Sd)} {W : World}
    (hv : DV q K (vw (m :: R))) (hL : ∀ L', Nxt q rd (vw (m :: R)) L' → Nxt q rd L L') (hx : ∃ k, sid x0 (vw (m :: R)) = some k) (hx0 : x0 ∈ rd) (hgk : gk = meas x0 (vw (m :: R))) (hO : ∀ j ∈ O', j ∈ O ∨ w1.heap.size ≤ j) (hc : Chg (r :: O) w1 wr)
    (hn : ¬ elig rd m.2) (hD : DM W B r O2 q (R ++ [(m.1, rot q m.2)]) A2 c' sn) (hO2 : ∀ j ∈ O2, j ∈ O' ∨ wr.heap.size ≤ j) (hc2 : Chg (r :: O') wr W) :
    ∃ k, k < gk ∧ NxRel w w1 W B r O q K rd L x0 sn k := by
  have hv' : vw (R ++ [(m.1, rot q m.2)]) = vw R ++ [rot q m.2] := by rw [vw_app]; rfl
  have hz := hc.size
  refine ⟨meas x0 (vw R ++ [rot q m.2]), ?_, R ++ [(m.1, rot q m.2)], A2, c', O2, hD, ?_, ?_, ?_, ?_, ?_, ?_⟩
  · rw [hgk]
    exact meas_lt hv.hq (hv.ok m.2 (by simp [vw])) hv.u hx0 hx hn
  · rw [hv']; exact hv.rot
  · intro L' h
    rw [hv'] at h
    exact hL L' (.go hn h)
  · rw [hv']; exact sid_rot hx
  · rw [hv']
  · intro j hj
    rcases hO2 j hj with h | h
    · exact hO j h
    · exact .inr (by omega)
  · refine hc.trans hc2 (fun j hj => ?_)
    rcases List.mem_cons.1 hj with rfl | hj
    · exact .inl (by simp)
    · rcases hO j hj with h | h
      · exact .inl (by simp [h])
      · exact .inr h

set_option maxRecDepth 100000 in
set_option maxHeartbeats 4000000 in
theorem dnext_c {w : World} {B r g n d : Nat} {O : List Nat} {q K now : Int} {L : List Sd} {a : Option Addr} {rd : List Int} (h : DA w B r O q L now) (hv : DV q K L) (hB : B ≤ w.heap.size) (hn : rd.length = n) (hR : Rd w g a rd) (hg : g ≠ r ∧ g ∉ O) (hok : rdOK (-1) rd = true) (hany : anyB rd L = true) :
    Calls Try.prog 11 #[.pointer (some ⟨r, 0, none⟩), .slice a n d] w fun e w' => ∃ s R O', e = .returned (.tuple #[.int .i64 s.i, .int .i64 0]) ∧ Nxt q rd L (s :: R) ∧ DA w' B r O' q (s :: R) s.i ∧ (∀ j ∈ O', j ∈ O ∨ w.heap.size ≤ j) ∧ Chg (r :: O) w w' := by
  have hmf : ∀ (fn : Fn) (first cap : Array Value) (w : World), (Instr.makeFunc fn first cap).run Try.prog w = .ok (.func fn first cap) w := fun _ _ _ _ => rfl
  obtain ⟨x0, hx0, hk0⟩ := anyB_spec hany
  have hn6 := hR.1
  rw [hn] at hn6
  have HV := Lib.hid hv
  have HN := Lib.hid hn
  have hrl := h.lt
  have HR0 := Lib.hid hR
  have H0 := Lib.hid h
  have HH := Lib.hid (hR.chg ((Chg.refl [] w).alloc (.cells #[.pointer (some ⟨r, 0, none⟩)] 25)) (by simp))
  have HD := Lib.hid (h.chg ((Chg.refl [] w).alloc (.cells #[.pointer (some ⟨r, 0, none⟩)] 25)) (by simp) (by simp))
  have HB := Lib.hid (Blk.new w 25 #[.pointer (some ⟨r, 0, none⟩)])
  have HC := Lib.hid (fcon_c (d := d) hn HH.out HD.out (by have := hv.hl; omega) ((HB.out.cell 0).trans rfl))
  rw [hany] at HC
  have HK := Lib.hid hok
  have HX0 := Lib.hid hx0
  have HK0 := Lib.hid hk0
  have HG := Lib.hid hg
  clear hn hR hok h hany hv hx0 hk0 hg
  go_enter Try.func11, Try.ntmps11
  go_wp2_with fail
  go_loop [6, 12] (fun l i => ∃ (k : Nat) (v : Int), k ≤ n ∧ i = .int .i64 k ∧ l = .int .i64 v ∧ Hid (rdOK v (rd.drop k) = true)) (fun l i => n - (intOf i).toNat)
  case atStart => exact ⟨0, -1, Nat.zero_le _, rfl, rfl, Lib.hid (by simpa using HK.out)⟩
  case round =>
    obtain ⟨k, v, hk, rfl, rfl, HP⟩ := hrel
    by_cases hlt : k < n
    · have hkl : k < rd.length := by have := HN.out; omega
      obtain ⟨off, rfl, c0⟩ := HH.out.2 k hkl
      rw [getD_get hkl] at c0
      have HQ := Lib.hid (HP.out)
      rw [drop_cons hkl] at HQ
      obtain ⟨⟨h1, h2⟩, h3⟩ := rdOK_true HQ.out
      have HZ := Lib.hid h3
      clear HQ HP h3
      generalize hx : rd[k] = x at c0 h1 h2 HZ
      clear hx
      have hI : (k : Int) < (n : Int) := by omega
      have hJ : (0 : Int) ≤ (k : Int) := by omega
      go_wp2_with fail
      go_round
      case rel => exact ⟨k + 1, x, by omega, by go_num, rfl, HZ⟩
      case measure => simp [intOf]; omega
    · clear HP
      go_wp2_with fail
      refine HC.out.mono ?_
      rintro e w1 ⟨rfl, hc1⟩
      have hb1 := HB.out.chg hc1 (by simp)
      have k1 : Chg [] w w1 := ((Chg.refl [] w).alloc _).trans hc1 (by simp)
      have HB1 := Lib.hid hb1
      have HK1 := Lib.hid k1
      have hz1 := k1.size
      have hz2 := hb1.lt
      obtain ⟨M0, A0, c0, sn, hM0, hvw, hnow⟩ := H0.out.chg k1 (by simp) (by simp)
      clear hnow
      have HI := Lib.hid (show NxRel w w1 w1 B r O q K rd L x0 sn (meas x0 L) from ⟨M0, A0, c0, O, hM0, by rw [hvw]; exact HV.out, by rw [hvw]; exact fun _ h => h, by rw [hvw]; exact HK0.out, by rw [hvw], fun j hj => .inl hj, Chg.refl _ _⟩)
      clear hM0 hvw HC HD hb1 k1 hc1
      go_wp2_with fail
      go_loopg [9] (meas x0 L) (fun gk v wr => NxRel w w1 wr B r O q K rd L x0 sn gk)
      case atStart => exact HI.out
      case round =>
        obtain ⟨M, A, c, O', hD, hvv, hL, hkx, hgk, hO, hc⟩ := hrel
        have HHc := Lib.hid hc
        have hb2 := HB1.out.chg hc (by
          simp
          refine ⟨by omega, fun hj => ?_⟩
          have := (H0.out.BO _ hj).2
          omega)
        have hrd := (HR0.out.chg HK1.out (by simp)).chg hc (by simp; exact HG.out)
        have e0 := (hb2.cell 0).trans rfl
        have hz3 := hc.size
        obtain ⟨m, R, rfl⟩ : ∃ m R, M = m :: R := by
          obtain ⟨k, hk⟩ := hkx
          cases M with
          | nil => cases hk
          | cons m R => exact ⟨m, R, rfl⟩
        have hDr := hD.hr
        rw [show (m :: R).length = R.length + 1 from rfl] at hDr
        have e1 := (hDr.cell 1).trans rfl
        have f1 := hDr.frozen 1
        have eq0 := (hDr.cell 0).trans rfl
        have e2 := (hDr.cell 2).trans rfl
        have f2 := hDr.frozen 2
        obtain ⟨g0, off, rfl, hg0, p0⟩ := hD.cell (k := 0) (by simp)
        obtain ⟨mb, s⟩ := m
        have hst := (hD.st (mb, s) (by simp)).2
        have s0 : wr.cell? ⟨mb, 0, none⟩ = some (.int .i64 s.i) := (hst.cell 0).trans rfl
        have s1 : wr.cell? ⟨mb, 1, none⟩ = some (.int .i64 s.w) := (hst.cell 1).trans rfl
        have s2 : wr.cell? ⟨mb, 2, none⟩ = some (.int .i64 s.d) := (hst.cell 2).trans rfl
        have s3 : wr.cell? ⟨mb, 3, none⟩ = some (.int .i64 s.t) := (hst.cell 3).trans rfl
        have t2 := hst.frozen 2
        have t3 := hst.frozen 3
        have hmr : mb ≠ r := hD.rM (m := (mb, s)) (by simp)
        have hrm : r ≠ mb := Ne.symm hmr
        simp only [List.getElem_cons_zero, Nat.add_zero] at p0
        have hcc := hD.row.1.le
        have hcut := hD.row.1.cut rfl (by simp)
        have hbm : w.heap.size ≠ mb := by
          rintro rfl
          rcases hO _ (hD.st (w.heap.size, s) (by simp)).1 with h | h
          · have := (H0.out.BO _ h).2
            omega
          · omega
        have hmb := Ne.symm hbm
        have hml := hst.lt
        have hbr : w.heap.size ≠ r := by omega
        have hrb := Ne.symm hbr
        have HDD := Lib.hid hD
        have HCU := Lib.hid hcut
        have HVV := Lib.hid hvv
        have HLL := Lib.hid hL
        have HKX := Lib.hid hkx
        have HGK := Lib.hid hgk
        have HOO := Lib.hid hO
        have hokk := hvv.ok s (by simp [vw])
        have hqw := qw_bd hvv.hq hokk.2.1
        have htl := hokk.t_le hvv.hq
        have hkk := hvv.hK
        obtain ⟨⟨i0, i1⟩, ⟨w0, w1'⟩, ⟨d0, d1⟩, t0, hh5⟩ := hokk
        obtain ⟨hcc1, hcc2⟩ := hcc
        obtain ⟨q0, q1⟩ := hvv.hq
        obtain ⟨qw0, qw1⟩ := hqw
        obtain ⟨kk0, kk1⟩ := hkk
        have hmO := (hD.st (mb, s) (by simp)).1
        have hbg : w.heap.size ∉ blkL (some (⟨g0, off, none⟩ : Addr)) := by
          simp [blkL]
          rintro rfl
          rcases hO _ hg0 with h | h
          · have := (H0.out.BO _ h).2
            omega
          · omega
        have HBG := Lib.hid hbg
        clear hbg
        have HBW := Lib.hid (fun (W : World) (k : Chg (r :: O') wr W) => (((hb2.chg k (by
          simp
          refine ⟨by omega, fun hj => ?_⟩
          rcases hO _ hj with h | h
          · have := (H0.out.BO _ h).2
            omega
          · omega)).cell 0).trans rfl : W.cell? ⟨w.heap.size, 0, none⟩ = some (.pointer (some ⟨r, 0, none⟩))))
        clear hD hcut hvv hL hkx hgk hO hst hDr hc hb2 hh5
        by_cases hd : 0 < s.d
        · have HCt := Lib.hid (icon_c (d := d) HN.out hrd s.i)
          by_cases hin : s.i ∈ rd
          · rw [decide_eq_true hin] at HCt
            have HIN := Lib.hid hin
            clear hrd hin
            go_wp2_with fail
            refine HCt.out.mono ?_
            rintro e w2 ⟨rfl, m2, rfl⟩
            go_wp2_with fail
            go_ret2
            have hE : elig rd s := ⟨hd, HIN.out⟩
            have hDD := (HDD.out.chg ((Chg.refl [] wr).drewN m2) (by simp) (by simp)).setsn (sn' := some ⟨mb, 0, none⟩)
            refine ⟨s, vw R, O', rfl, HLL.out _ (by rw [vw_cons]; exact .stop hE), ⟨(mb, s) :: R, _, c, _, hDD, rfl, .inr ⟨0, by simp, by simp [vw, sid], rfl⟩⟩, fun j hj => ?_, ?_⟩
            · rcases HOO.out j hj with h | h
              · exact .inl h
              · exact .inr (by omega)
            · exact (((HK1.out.mono (S' := r :: O) (by simp)).trans HHc.out (fun j hj => .inl hj)).drewN m2).setCell (by simp) _
          · rw [decide_eq_false hin] at HCt
            have HIN := Lib.hid hin
            clear hrd hin
            go_wp2_with fail
            refine HCt.out.mono ?_
            rintro e w2 ⟨rfl, m2, rfl⟩
            go_wp2_with fail
            have hDx := (HDD.out.chg ((Chg.refl [] wr).drewN m2) (by simp) (by simp))
            have hCx : Chg (r :: O') wr (wr.drewN m2) := ((Chg.refl _ wr).drewN m2)
            have hlx : wr.heap.size ≤ (wr.drewN m2).heap.size := hCx.size
            have hbx := HBW.out (wr.drewN m2) hCx
            generalize wr.drewN m2 = wx at *
            have hDr := hDx.hr
            rw [show (((mb, s) : Nat × Sd) :: R).length = R.length + 1 from rfl] at hDr
            have e1x := (hDr.cell 1).trans rfl
            have HE := Lib.hid (fun (W W' : World) (k1 : Chg [] wx W) (k2 : Chg (blkL (some ⟨g0, off, none⟩)) W W') => (hDr.chg ((k1.mono (S' := blkL (some ⟨g0, off, none⟩)) (by simp)).trans k2 (fun j hj => .inl hj)) hDx.rA))
            obtain ⟨A1, hA1, hA1b, hS1⟩ : ∃ A1, (if c = 1 then some ({ block := g0, off := off } : Addr) else some { block := g0, off := off + 1 }) = A1 ∧ blkL A1 = blkL (some ⟨g0, off, none⟩) ∧ SR wx 52 A1 R.length (c - 1) (ptrs R) := by
              refine ⟨_, rfl, by split <;> rfl, ?_⟩
              have := hDx.row.1.cut rfl (by simp)
              simpa [ptrs_cons] using this
            have HS1 := Lib.hid (fun (W : World) (hW : Chg [] wx W) => hS1.chg hW (by simp))
            rw [← hA1b] at HE
            have HA1b := Lib.hid hA1b
            have HDx := Lib.hid hDx
            have HCx := Lib.hid hCx
            have hrx : r < wx.heap.size := hDr.lt
            have hbl : w.heap.size < wx.heap.size := by omega
            have b1 : (1 : Int) ≤ (R.length : Int) + 1 := by omega
            have b2 : (1 : Int) ≤ (c : Int) := by simp at hcc1; omega
            have b3 : (R.length : Int) + 1 ≤ (c : Int) := by simp at hcc1; omega
            have HBX := Lib.hid (fun (W W' : World) (k1 : Chg [] wx W) (k2 : Chg (blkL A1) W W') => ((((k1.mono (S' := blkL A1) (by simp)).trans k2 (fun j hj => .inl hj)).cell (p := ⟨w.heap.size, 0, none⟩) hbl (by rw [hA1b]; exact HBG.out)).trans hbx : W'.cell? ⟨w.heap.size, 0, none⟩ = some (.pointer (some ⟨r, 0, none⟩))))
            clear hDx hCx hDr hS1 hA1b
            go_region_law ((refine step_sr (P := Try.prog) (t := 51) Try.underlying51 st_info rfl (by omega) (.tmp 89) (.tmp 91) (n := R.length) (N := R.length + 1) (m := 1) rfl (HS1.out _ (by repeat (first | exact Chg.refl _ _ | apply Chg.drew | apply Chg.drewN | apply Chg.alloc))) (by have := HVV.out.hl; simp [vw] at this; omega) (ad := ⟨wx.heap.size, 0, none⟩) (u := .pointer (some ⟨mb, 0, none⟩)) (by go_simp) rfl (by rfl) (by rfl) (by rfl) (by rfl) ?_; intro A2 c2 W2 hS2 hc2 hn2; have hE := HE.out _ _ (by repeat (first | exact Chg.refl _ _ | apply Chg.drew | apply Chg.drewN | apply Chg.alloc)) hc2; have g1 := (hE.cell 1).trans rfl; have g2 := hE.frozen 1; have g5 := HBX.out _ _ (by repeat (first | exact Chg.refl _ _ | apply Chg.drew | apply Chg.drewN | apply Chg.alloc)) hc2))
            all_goals
              go_wp2_with fail
              obtain ⟨O2, r1, r2, r3⟩ := drot_fin HDx.out HA1b.out (X := (wx.alloc (.cells #[.pointer (some ⟨mb, 0, none⟩)] 52)).drew) (((Chg.refl [] wx).alloc _).drew) hc2 rfl hS2 hn2 (by omega)
              obtain ⟨kk, hkl, hrel⟩ := nx_turn (W := (W2.setCell ⟨r, 1, none⟩ (.slice A2 (R.length + 1) c2))) (w := w) HVV.out HLL.out HKX.out HX0.out HGK.out HOO.out HHc.out (fun h => HIN.out h.2) (by rw [show rot q s = s from by unfold rot; rw [if_neg (by omega)]]; exact r1) (fun j hj => (r2 j hj).imp_right (Nat.le_trans hlx)) (HCx.out.trans r3 (fun j hj => .inl hj))
              have HREL := Lib.hid hrel
              clear hrel r1 r2 r3
              go_roundg kk
              case measure => exact hkl
              case rel => exact HREL.out
        · have hd' : s.d ≤ 0 := by omega
          have HNE := Lib.hid (show ¬ elig rd s from fun h => by have h1 : 0 < s.d := h.1; omega)
          have hw1 : IntKind.i64.wrap (q * s.w) = q * s.w := by rw [IntKind.wrap_i64]; omega
          have hw2 : IntKind.i64.wrap (s.d + q * s.w) = s.d + q * s.w := by rw [IntKind.wrap_i64]; omega
          have hw3 : IntKind.i64.wrap (s.t + 1) = s.t + 1 := by rw [IntKind.wrap_i64]; omega
          clear hrd
          go_wp2_with fail
          go_region
          go_wp2_with fail
          have hDx := ((drep_fin HDD.out hd').chg ((Chg.refl [] _).drew) (by simp) (by simp))
          have hCx : Chg (r :: O') wr ((((wr.setCell ⟨mb, 2, none⟩ (.int .i64 (s.d + q * s.w))).setCell ⟨mb, 3, none⟩ (.int .i64 (s.t + 1))).drew)) := ((((Chg.refl (r :: O') wr).setCell (by simp [hmO]) _).setCell (by simp [hmO]) _).drew)
          have hlx : wr.heap.size ≤ ((((wr.setCell ⟨mb, 2, none⟩ (.int .i64 (s.d + q * s.w))).setCell ⟨mb, 3, none⟩ (.int .i64 (s.t + 1))).drew)).heap.size := hCx.size
          have hbx := HBW.out ((((wr.setCell ⟨mb, 2, none⟩ (.int .i64 (s.d + q * s.w))).setCell ⟨mb, 3, none⟩ (.int .i64 (s.t + 1))).drew)) hCx
          generalize (((wr.setCell ⟨mb, 2, none⟩ (.int .i64 (s.d + q * s.w))).setCell ⟨mb, 3, none⟩ (.int .i64 (s.t + 1))).drew) = wx at *
          have hDr := hDx.hr
          rw [show (((mb, rot q s) : Nat × Sd) :: R).length = R.length + 1 from rfl] at hDr
          have e1x := (hDr.cell 1).trans rfl
          have HE := Lib.hid (fun (W W' : World) (k1 : Chg [] wx W) (k2 : Chg (blkL (some ⟨g0, off, none⟩)) W W') => (hDr.chg ((k1.mono (S' := blkL (some ⟨g0, off, none⟩)) (by simp)).trans k2 (fun j hj => .inl hj)) hDx.rA))
          obtain ⟨A1, hA1, hA1b, hS1⟩ : ∃ A1, (if c = 1 then some ({ block := g0, off := off } : Addr) else some { block := g0, off := off + 1 }) = A1 ∧ blkL A1 = blkL (some ⟨g0, off, none⟩) ∧ SR wx 52 A1 R.length (c - 1) (ptrs R) := by
            refine ⟨_, rfl, by split <;> rfl, ?_⟩
            have := hDx.row.1.cut rfl (by simp)
            simpa [ptrs_cons] using this
          have HS1 := Lib.hid (fun (W : World) (hW : Chg [] wx W) => hS1.chg hW (by simp))
          rw [← hA1b] at HE
          have HA1b := Lib.hid hA1b
          have HDx := Lib.hid hDx
          have HCx := Lib.hid hCx
          have hrx : r < wx.heap.size := hDr.lt
          have hbl : w.heap.size < wx.heap.size := by omega
          have b1 : (1 : Int) ≤ (R.length : Int) + 1 := by omega
          have b2 : (1 : Int) ≤ (c : Int) := by simp at hcc1; omega
          have b3 : (R.length : Int) + 1 ≤ (c : Int) := by simp at hcc1; omega
          have HBX := Lib.hid (fun (W W' : World) (k1 : Chg [] wx W) (k2 : Chg (blkL A1) W W') => ((((k1.mono (S' := blkL A1) (by simp)).trans k2 (fun j hj => .inl hj)).cell (p := ⟨w.heap.size, 0, none⟩) hbl (by rw [hA1b]; exact HBG.out)).trans hbx : W'.cell? ⟨w.heap.size, 0, none⟩ = some (.pointer (some ⟨r, 0, none⟩))))
          clear hDx hCx hDr hS1 hA1b
          go_region_law ((refine step_sr (P := Try.prog) (t := 51) Try.underlying51 st_info rfl (by omega) (.tmp 89) (.tmp 91) (n := R.length) (N := R.length + 1) (m := 1) rfl (HS1.out _ (by repeat (first | exact Chg.refl _ _ | apply Chg.drew | apply Chg.drewN | apply Chg.alloc))) (by have := HVV.out.hl; simp [vw] at this; omega) (ad := ⟨wx.heap.size, 0, none⟩) (u := .pointer (some ⟨mb, 0, none⟩)) (by go_simp) rfl (by rfl) (by rfl) (by rfl) (by rfl) ?_; intro A2 c2 W2 hS2 hc2 hn2; have hE := HE.out _ _ (by repeat (first | exact Chg.refl _ _ | apply Chg.drew | apply Chg.drewN | apply Chg.alloc)) hc2; have g1 := (hE.cell 1).trans rfl; have g2 := hE.frozen 1; have g5 := HBX.out _ _ (by repeat (first | exact Chg.refl _ _ | apply Chg.drew | apply Chg.drewN | apply Chg.alloc)) hc2))
          all_goals
            go_wp2_with fail
            obtain ⟨O2, r1, r2, r3⟩ := drot_fin HDx.out HA1b.out (X := (wx.alloc (.cells #[.pointer (some ⟨mb, 0, none⟩)] 52)).drew) (((Chg.refl [] wx).alloc _).drew) hc2 rfl hS2 hn2 (by omega)
            obtain ⟨kk, hkl, hrel⟩ := nx_turn (W := (W2.setCell ⟨r, 1, none⟩ (.slice A2 (R.length + 1) c2))) (w := w) HVV.out HLL.out HKX.out HX0.out HGK.out HOO.out HHc.out HNE.out r1 (fun j hj => (r2 j hj).imp_right (Nat.le_trans hlx)) (HCx.out.trans r3 (fun j hj => .inl hj))
            have HREL := Lib.hid hrel
            clear hrel r1 r2 r3
            go_roundg kk
            case measure => exact hkl
            case rel => exact HREL.out

end Go.Proofs.Ytmbmejobffpaoaa
