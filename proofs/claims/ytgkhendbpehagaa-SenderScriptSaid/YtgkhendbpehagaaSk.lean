/- The reference's sender: Ack, where it is taken. -/
import Derived.Test.YtgkhendbpehagaaSq
import Derived.Deep.RegionHeld3
import Derived.Deep.DeepCutAuto
import Derived.Deep.CutBlock
namespace Go.Proofs.Ytgkhendbpehagaa
open Go.RowKit
set_option linter.unusedVariables false
set_option linter.unusedSimpArgs false

set_option maxRecDepth 100000 in
set_option maxHeartbeats 8000000 in
theorem rack_c {w : World} {B s : Nat} {O : List Nat} {wd tr nx : Int} {ps : List Sn} (h : RA w B s O wd tr nx ps) (hB : B ≤ w.heap.size) (base bits : Int) (hb : ackOk nx base ps) (hb0 : 0 ≤ bits) (hb1 : bits < 18446744073709551616) :
    Calls Try.prog 36 #[.pointer (some ⟨s, 0, none⟩), .agg #[.int .i64 base, .int .u64 bits]] w fun e w' =>
      ∃ A' c' O', e = .returned (.slice A' (acked base bits ps).length c') ∧ w'.ownsRow w.heap.size 3 1 (.slice A' (acked base bits ps).length c') (acked base bits ps).length ((acked base bits ps).map fun p => .int .i64 p.i) ∧
        RA w' B s O' wd tr nx (kept base bits ps) ∧ (∀ j ∈ O', w.heap.size ≤ j) ∧ Chg [s] w w' := by
  obtain ⟨hv, hs1, hs2⟩ := hb
  have hn := h.hn
  have hbs := h.bs
  have HB := Lib.hid (fun (W : World) (hW : Chg [] w W) => rbase_c (h.chg hW (by simp) (by simp)))
  have HBQ := Lib.hid (fun m => rbase_c ((h.chg ((Chg.refl [] w).alloc (.cells #[.int .i64 base, .int .u64 bits] 37)) (by simp) (by simp)).drewN m))
  have HBR := Lib.hid (fun m m' => rbase_c (((h.chg ((Chg.refl [] w).alloc (.cells #[.int .i64 base, .int .u64 bits] 37)) (by simp) (by simp)).drewN m).drewN m'))
  have HBS := Lib.hid (fun m m' => rbase_c (((h.drewN m).chg ((Chg.refl [] _).alloc (.cells #[.int .i64 base, .int .u64 bits] 37)) (by simp) (by simp)).drewN m'))
  have HD1 := Lib.hid (rdist (bs nx ps) base)
  rw [show distV (bs nx ps) base = dst (bs nx ps) base from if_pos ⟨hbs.1, hbs.2, hv.1, hv.2⟩, show distE (bs nx ps) base = 0 from if_pos ⟨hbs.1, hbs.2, hv.1, hv.2⟩] at HD1
  have HD2 := Lib.hid (rdist (bs nx ps) nx)
  rw [show distV (bs nx ps) nx = dst (bs nx ps) nx from if_pos ⟨hbs.1, hbs.2, hn.1, hn.2⟩, show distE (bs nx ps) nx = 0 from if_pos ⟨hbs.1, hbs.2, hn.1, hn.2⟩] at HD2
  obtain ⟨A0, c0, h9, h10⟩ := h.split
  have hsl := h.lt
  have hl := h.hl
  have HH := Lib.hid h
  obtain ⟨n, hnn⟩ : ∃ n, ps.length = n := ⟨_, rfl⟩
  rw [hnn] at hl h9
  have e2 := (h9.cell 2).trans rfl
  have e3 := (h9.cell 3).trans rfl
  have HN := Lib.hid hnn
  have H9 := Lib.hid h9
  clear h h9 hnn hv hbs
  generalize dst (bs nx ps) base = d1 at hs1 hs2 HD1
  generalize dst (bs nx ps) nx = d2 at hs2 HD2
  have g1 : ¬ 32768 ≤ d1 := by omega
  have g2 : ¬ d2 < d1 := by omega
  go_enter Try.func36, Try.ntmps36
  go_wp2_with fail
  go_quiet (first | (go_at_call 20; first | exact Calls.quiet_of (HBQ.out _) | exact Calls.quiet_of (HBR.out _ _) | exact Calls.quiet_of (HBS.out _ _)) | (go_at_call 46; exact Calls.quiet_of ((HD1.out _).mono (by rintro e w' ⟨rfl, rfl⟩; exact ⟨rfl, 0, rfl⟩))))
  go_wp2_with fail
  have k1 : Chg [] w ((w.alloc (.cells #[.int .i64 base, .int .u64 bits] 37)).drewN nq) := ((Chg.refl [] w).alloc _).drewN _
  have hm1 : Blk ((w.alloc (.cells #[.int .i64 base, .int .u64 bits] 37)).drewN nq) w.heap.size 37 #[.int .i64 base, .int .u64 bits] := (Blk.new _ _ _).drewN _
  generalize (w.alloc (.cells #[.int .i64 base, .int .u64 bits] 37)).drewN nq = W1 at k1 hm1 ⊢
  have HB1 := Lib.hid (fun m => rbase_c ((HH.out.chg k1 (by simp) (by simp)).drewN m))
  have e2' := (k1.cell (p := ⟨s, 2, none⟩) hsl (by simp)).trans e2
  have e3' := (k1.cell (p := ⟨s, 3, none⟩) hsl (by simp)).trans e3
  go_quiet (first | (go_at_call 20; exact Calls.quiet_of (HB1.out _)) | (go_at_call 46; exact Calls.quiet_of ((HD2.out _).mono (by rintro e w' ⟨rfl, rfl⟩; exact ⟨rfl, 0, rfl⟩))))
  go_wp2_with fail
  go_loopw [9, 10, 11] (fun vo vl vi wr => ∃ (k m1 m2 : Nat) (A1 A2 : Option Addr) (c1 c2 : Nat), k ≤ n ∧ vi = .int .i64 k ∧ m1 = (acked base bits (ps.take k)).length ∧ m2 = (kept base bits (ps.take k)).length ∧ vo = .slice A1 m1 c1 ∧ vl = .slice A2 m2 c2 ∧
        wr.ownsRow (w.heap.size + 1) 3 1 (.slice A1 m1 c1) m1 ((acked base bits (ps.take k)).map fun p => .int .i64 p.i) ∧ wr.ownsRow (w.heap.size + 1) 39 3 (.slice A2 m2 c2) m2 ((kept base bits (ps.take k)).flatMap snC) ∧
        Chg [] w wr ∧ Blk wr w.heap.size 37 #[.int .i64 base, .int .u64 bits]) (fun _ _ vi _ => n - (intOf vi).toNat)
  case atStart => exact ⟨0, 0, 0, none, none, 0, 0, Nat.zero_le _, rfl, by simp [acked], by simp [kept], rfl, rfl, by simpa [acked] using World.ownsRow_nil _ _ _ _, by simpa [kept] using World.ownsRow_nil _ _ _ _, by repeat (first | exact k1 | (refine Chg.drewN ?_ _) | (refine Chg.drew ?_)), by repeat (first | exact hm1 | (refine Blk.drewN ?_ _) | (refine Blk.drew ?_))⟩
  case round =>
    clear g1 g2 hs1 hs2
    obtain ⟨k, m1, m2, A1, A2, c1, c2, hk, rfl, hm1, hm2, rfl, rfl, ho1, ho2, kr, hmr⟩ := hrel
    have hb9 := H9.out.chg kr (by simp)
    have y3 := (hb9.cell 3).trans rfl
    have f3 := hb9.frozen 3
    have hsl3 := hb9.lt
    have hws := kr.size
    have ml1 : m1 ≤ k := by rw [hm1]; exact Nat.le_trans (acked_le _ _ _) (by simp; omega)
    have ml2 : m2 ≤ k := by rw [hm2]; exact Nat.le_trans (kept_le _ _ _) (by simp; omega)
    have HM1 := Lib.hid hm1
    have HM2 := Lib.hid hm2
    have HO1 := Lib.hid ho1
    have HO2 := Lib.hid ho2
    clear hm1 hm2 ho1 ho2 hb9
    by_cases hlt : k < n
    · have hkl : k < ps.length := by have := HN.out; omega
      rcases h10 with ⟨_, _, h0⟩ | ⟨g, rfl, hg, hgO, hgs, hr⟩
      · exact absurd hkl (by rw [h0]; simp)
      · have hr' := hr.chg kr (by simp)
        obtain ⟨x0, x1, x2⟩ := row_sn hr' hkl
        have HT1 := Lib.hid (acked_snoc (base := base) (bits := bits) hkl)
        have HT2 := Lib.hid (kept_snoc (base := base) (bits := bits) hkl)
        have HRW := Lib.hid hr
        obtain ⟨p, hpk⟩ : ∃ p, ps[k] = p := ⟨_, rfl⟩
        rw [hpk] at x0 x1 x2 HT1 HT2
        have HPK := Lib.hid hpk
        clear hpk
        have hI : (k : Int) < (n : Int) := by omega
        have hJ : (0 : Int) ≤ (k : Int) := by omega
        have hgl := hr'.lt
        have z0 := (hmr.cell 0).trans rfl
        have z1 := (hmr.cell 1).trans rfl
        have hml := hmr.lt
        have HMR := Lib.hid hmr
        have HBF := Lib.hid (fun W : World => rbef p.q base W)
        have HHS := Lib.hid (fun W : World => rhas base bits p.q W ‹_› ‹_›)
        have HK := Lib.hid (fun (W : World) (hW : Chg [] wr W) => show W.cell? ⟨s, 3, none⟩ = some (.slice (some ⟨g, 0, none⟩) n c0) ∧ W.cell? ⟨g, k * 3, none⟩ = some (.int .i64 p.q) ∧ W.cell? ⟨w.heap.size, 0, none⟩ = some (.int .i64 base) ∧ W.cell? ⟨w.heap.size, 1, none⟩ = some (.int .u64 bits) from ⟨(hW.cell (p := ⟨s, 3, none⟩) hsl3 (by simp)).trans y3, (hW.cell (p := ⟨g, k * 3, none⟩) hgl (by simp)).trans x0, (hW.cell (p := ⟨w.heap.size, 0, none⟩) hml (by simp)).trans z0, (hW.cell (p := ⟨w.heap.size, 1, none⟩) hml (by simp)).trans z1⟩)
        have HAB := Lib.hid (show ackB base bits p = (befB p.q base || hasB base bits p.q) from rfl)
        obtain ⟨t1, ht1⟩ : ∃ t1, befB p.q base = t1 := ⟨_, rfl⟩
        obtain ⟨t2, ht2⟩ : ∃ t2, hasB base bits p.q = t2 := ⟨_, rfl⟩
        rw [ht1] at HBF HAB
        rw [ht2] at HHS HAB
        clear hr hr' hmr ht1 ht2
        go_upto_region 10 with fail
        go_cut [72] (fun v wx => ∃ t : Bool, v = .bool t ∧ Hid (ackB base bits p = t) ∧ Chg [] wr wx)
        case first =>
          have hS0 := HK.out _ (Chg.refl [] wr).drew
          cases t1 with
          | true =>
            clear hS0
            go_quiet ((go_at_call 47; exact Calls.quiet_of ((HBF.out _).mono (by rintro e w' ⟨rfl, rfl⟩; exact ⟨rfl, 0, rfl⟩))))
            go_wp2_with fail
            go_meet
            exact ⟨true, rfl, Lib.hid (by rw [HAB.out]; rfl), (Chg.refl [] wr).drewN _⟩
          | false =>
            go_region_held3 (fun w' => w'.cell? ⟨s, 3, none⟩ = some (.slice (some ⟨g, 0, none⟩) n c0) ∧ w'.cell? ⟨g, k * 3, none⟩ = some (.int .i64 p.q) ∧ w'.cell? ⟨w.heap.size, 0, none⟩ = some (.int .i64 base) ∧ w'.cell? ⟨w.heap.size, 1, none⟩ = some (.int .u64 bits)) (first | exact hS1 | exact hS0 | go_keep) (first
              | (go_at_call 47; refine (HBF.out _).mono ?_; rintro e w' ⟨rfl, rfl⟩)
              | (go_at_call 48; refine (HHS.out _).mono ?_; rintro e w3 ⟨rfl, hc3⟩; have C3 := Lib.hid (((Chg.refl [] wr).drew).trans hc3 (by simp)); have hS1 := HK.out _ C3.out; clear hc3))
            all_goals
              go_wp2_with fail
              go_meet
              exact ⟨t2, rfl, Lib.hid (by rw [HAB.out]; rfl), C3.out⟩
        case rest =>
          obtain ⟨t, rfl, HT, hcx⟩ := hcut
          have kx := kr.trans hcx (by simp)
          have h9x := H9.out.chg kx (by simp)
          have u3 := (h9x.cell 3).trans rfl
          have hrx := HRW.out.chg kx (by simp)
          obtain ⟨v0, v1, v2⟩ := row_sn hrx hkl
          rw [HPK.out] at v0 v1 v2
          have HKX := Lib.hid kx
          have HO1x := Lib.hid (own_chg HO1.out hcx (by simp))
          have HO2x := Lib.hid (own_chg HO2.out hcx (by simp))
          have HMX := Lib.hid (HMR.out.chg hcx (by simp))
          have hzx := kx.size
          have hgx := hrx.lt
          clear h9x hrx kx hcx HO1 HO2 HMR y3 x0 x1 x2 z0 z1
          cases t with
          | true =>
            go_wp2_with (at_builtin; refine list_app (P := Try.prog) (t := 22) Try.underlying22 int_info rfl (by omega) (.tmp 73) (.tmp 82) (w.heap.size + 1) (n := m1) (m := 1) (N := m1 + 1) rfl (by omega) (by intro u hu; simp at hu; subst hu; rfl) (by omega) (own_chg HO1x.out ((Chg.refl [] wc).alloc _) (by simp)) (reads_lit1 wc 3 (.int .i64 p.i)) (by have := HMX.out.lt; simp; omega) (by rfl) (by rfl) (by rfl) (by rfl) ?_; intro A3 d3 W2 hown2 hgrow2 hat2; have HQ2 := Lib.hid (((Chg.refl (ownL (.slice A1 m1 c1)) wc).alloc (.cells #[.int .i64 p.i] 3)).grown hgrow2 (fun j hj => .inl (mem_ownL.2 hj))); have HO3 := Lib.hid hown2; clear hown2 hgrow2 hat2)
            have hol := ownL_lt HO1x.out
            have HE2 := Lib.hid (own_chg HO2x.out HQ2.out (own_ne_own HO2x.out HO1x.out (by decide)))
            have HKE := Lib.hid (HKX.out.trans HQ2.out (fun j hj => .inr (by have := (hol j hj).1; omega)))
            have HME := Lib.hid (HMX.out.chg HQ2.out (fun hj => by have := (hol _ hj).1; omega))
            clear hol
            go_roundw
            case rel =>
              refine ⟨k + 1, m1 + 1, m2, A3, A2, d3, c2, by omega, by go_num, ?_, ?_, rfl, rfl, ?_, ?_, HKE.out, HME.out⟩
              · rw [HT1.out, HT.out, if_pos rfl, List.length_append, ← HM1.out]; rfl
              · rw [HT2.out, HT.out, if_pos rfl]; exact HM2.out
              · rw [HT1.out, HT.out, if_pos rfl, List.map_append]; exact HO3.out
              · rw [HT2.out, HT.out, if_pos rfl]; exact HE2.out
            case measure => simp [intOf]; omega
          | false =>
            have hone : ∀ u ∈ ([.int .i64 p.q, .int .i64 p.i, .int .i64 p.t] : List Value), u.oneCell' = true := by intro u hu; simp at hu; rcases hu with rfl | rfl | rfl <;> rfl
            go_wp2_with (at_builtin; refine list_app (P := Try.prog) (t := 33) Try.underlying33 sn_info rfl (by omega) (.tmp 84) (.tmp 92) (w.heap.size + 1) (n := m2) (m := 1) (N := m2 + 1) rfl (by omega) hone (by omega) (own_chg HO2x.out ((Chg.refl [] wc).alloc _) (by simp)) (reads_lit wc 39 #[.int .i64 p.q, .int .i64 p.i, .int .i64 p.t] 3 rfl) (by have := HMX.out.lt; simp; omega) (by rfl) (by rfl) (by rfl) (by rfl) ?_; intro A3 d3 W2 hown2 hgrow2 hat2; have HQ2 := Lib.hid (((Chg.refl (ownL (.slice A2 m2 c2)) wc).alloc (.cells #[.int .i64 p.q, .int .i64 p.i, .int .i64 p.t] 39)).grown hgrow2 (fun j hj => .inl (mem_ownL.2 hj))); have HO3 := Lib.hid hown2; clear hown2 hgrow2 hat2)
            have hol := ownL_lt HO2x.out
            have HE1 := Lib.hid (own_chg HO1x.out HQ2.out (own_ne_own HO1x.out HO2x.out (by decide)))
            have HKE := Lib.hid (HKX.out.trans HQ2.out (fun j hj => .inr (by have := (hol j hj).1; omega)))
            have HME := Lib.hid (HMX.out.chg HQ2.out (fun hj => by have := (hol _ hj).1; omega))
            clear hol
            go_roundw
            case rel =>
              refine ⟨k + 1, m1, m2 + 1, A1, A3, c1, d3, by omega, by go_num, ?_, ?_, rfl, rfl, ?_, ?_, HKE.out, HME.out⟩
              · rw [HT1.out, HT.out, if_neg (by simp)]; exact HM1.out
              · rw [HT2.out, HT.out, if_neg (by simp), List.length_append, ← HM2.out]; rfl
              · rw [HT1.out, HT.out, if_neg (by simp)]; exact HE1.out
              · rw [HT2.out, HT.out, if_neg (by simp), List.flatMap_append]; simpa [snC] using HO3.out
            case measure => simp [intOf]; omega
    · have hge : (n : Int) ≤ (k : Int) := by omega
      have htk : ps.take k = ps := List.take_of_length_le (by have := HN.out; omega)
      have hm1 := HM1.out
      have hm2 := HM2.out
      have ho1 := HO1.out
      have ho2 := HO2.out
      rw [htk] at hm1 hm2 ho1 ho2
      have HE1 := Lib.hid hm1
      have HE2 := Lib.hid hm2
      have HF1 := Lib.hid ho1
      have HF2 := Lib.hid ho2
      have HKR := Lib.hid kr
      clear htk hm1 hm2 ho1 ho2 HM1 HM2 HO1 HO2 kr
      go_wp2_with fail
      go_ret
      have e1 := HE1.out
      have e2 := HE2.out
      subst e1
      subst e2
      obtain ⟨r1, r2, r3⟩ := HH.out.put (ps' := kept base bits ps) hB HKR.out (own_base HF2.out (by omega)) (by have := kept_le base bits ps; have := HN.out; omega) (fun p hp => HH.out.ok p (List.mem_filter.1 hp).1)
      exact ⟨A1, c1, _, rfl, own_chg (own_base HF1.out (by omega)) ((Chg.refl [s] wr).setCell (by simp) _) (fun g hg => by simp; rintro rfl; have := (ownL_lt HF1.out _ (mem_ownL.2 hg)).1; omega), r1, r2, r3⟩

end Go.Proofs.Ytgkhendbpehagaa
