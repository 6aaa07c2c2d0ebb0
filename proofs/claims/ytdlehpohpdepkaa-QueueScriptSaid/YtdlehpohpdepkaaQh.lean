/- The reference's queue: Expire. Printed by gen/xqh.py. -/
import Derived.Test.YtdlehpohpdepkaaQd
namespace Go.Proofs.Ytdlehpohpdepkaa
open Go.RowKit
set_option linter.unusedVariables false
set_option linter.unusedSimpArgs false

set_option maxRecDepth 100000 in
set_option maxHeartbeats 8000000 in
theorem qfexpire_c {w : World} {B r : Nat} {O : List Nat} {most mb : Int} {ps : List Pk} (h : QF w B r O most mb ps) (hB : B ≤ w.heap.size) (s : Int) :
    Calls Try.prog 36 #[.pointer (some ⟨r, 0, none⟩), .int .i64 s] w fun e w' => ∃ A' c', e = .returned (.slice A' (lates s ps).length c') ∧ RdP w' (ownL (.slice A' (lates s ps).length c')) A' (lates s ps) ∧
      ∃ O', QF w' B r O' most mb (stays s ps) ∧ (∀ j ∈ O', w.heap.size ≤ j) ∧ Chg [r] w w' := by
  obtain ⟨A, c, h9, h10, h11, h12⟩ := h.row
  have hl := h.hl
  obtain ⟨n, hn⟩ : ∃ n, ps.length = n := ⟨_, rfl⟩
  rw [hn] at h9 hl
  have e2 := (h9.cell 2).trans rfl
  have f2 := h9.frozen 2
  have hrl := h9.lt
  have HN := Lib.hid hn
  have HR := Lib.hid h12
  have H9 := Lib.hid h9
  have HH := Lib.hid h
  clear h h9 h10 h11 h12 hn
  go_enter Try.func36, Try.ntmps36
  go_wp2_with fail
  go_loopw [5, 6, 7] (fun vo vl vi wr => ∃ (k m1 m2 : Nat) (A1 A2 : Option Addr) (c1 c2 : Nat), k ≤ n ∧ vi = .int .i64 k ∧ m1 = (lates s (ps.take k)).length ∧ m2 = (stays s (ps.take k)).length ∧ vo = .slice A1 m1 c1 ∧ vl = .slice A2 m2 c2 ∧
        Hid (wr.ownsRow w.heap.size 24 5 (.slice A1 m1 c1) m1 ((lates s (ps.take k)).flatMap pkC)) ∧ Hid (wr.ownsRow w.heap.size 24 5 (.slice A2 m2 c2) m2 ((stays s (ps.take k)).flatMap pkC)) ∧
        Hid (∀ j ∈ ownL (.slice A1 m1 c1), j ∉ ownL (.slice A2 m2 c2)) ∧ Chg [] w wr) (fun _ _ vi _ => n - (intOf vi).toNat)
  case atStart => exact ⟨0, 0, 0, none, none, 0, 0, Nat.zero_le _, rfl, by simp [lates], by simp [stays], rfl, rfl, Lib.hid (by simpa [lates] using World.ownsRow_nil _ _ _ _), Lib.hid (by simpa [stays] using World.ownsRow_nil _ _ _ _), Lib.hid (by simp [ownL, Value.ownBlock]), Chg.refl _ _⟩
  case round =>
    obtain ⟨k, m1, m2, A1, A2, c1, c2, hk, rfl, hm1, hm2, rfl, rfl, HO1, HO2, HDj, kr⟩ := hrel
    have e3 := (kr.cell (p := ⟨r, 2, none⟩) (block_lt_of_cell e2) (by simp)).trans e2
    have ml1 : m1 ≤ k := by rw [hm1]; exact Nat.le_trans (lates_le _ _) (by simp; omega)
    have ml2 : m2 ≤ k := by rw [hm2]; exact Nat.le_trans (stays_le _ _) (by simp; omega)
    have HM1 := Lib.hid hm1
    have HM2 := Lib.hid hm2
    have hz := kr.size
    have HKR := Lib.hid kr
    clear hm1 hm2
    by_cases hlt : k < n
    · have hkl : k < ps.length := by have := HN.out; omega
      obtain ⟨g, off, rfl, _, hgl, x0, x1, x2, x3, x4⟩ := (HR.out.chg kr (by simp)).at_ hkl
      have HT1 := Lib.hid (lates_snoc2 (s := s) hkl)
      have HT2 := Lib.hid (stays_snoc (s := s) hkl)
      generalize pkAt ps k = p at x0 x1 x2 x3 x4 HT1 HT2
      have hI : (k : Int) < (n : Int) := by omega
      have hJ : (0 : Int) ≤ (k : Int) := by omega
      have hone : ∀ u ∈ ([.int .i64 p.i, .int .i64 p.f, .int .i64 p.l, .int .i64 p.a, .int .i64 p.d] : List Value), u.oneCell' = true := by intro u hu; simp at hu; rcases hu with rfl | rfl | rfl | rfl | rfl <;> rfl
      clear kr
      by_cases hd : p.d = -1
      · have hdb : (p.d != -1) = false := by simp [hd]
        have HL := Lib.hid (show lateB p.d s = false from decide_eq_false (fun h => h.1 hd))
        clear hd
        go_wp2_with (at_builtin; refine list_app (P := Try.prog) (t := 42) Try.underlying42 pk_info rfl (by omega) (.tmp 48) (.tmp 56) w.heap.size (n := m2) (m := 1) (N := m2 + 1) rfl (by omega) hone (by omega) (own_chg HO2.out ((Chg.refl [] wr).alloc _) (by simp)) (reads_lit wr 24 #[.int .i64 p.i, .int .i64 p.f, .int .i64 p.l, .int .i64 p.a, .int .i64 p.d] 5 rfl) (by simp; omega) (by rfl) (by rfl) (by rfl) (by rfl) ?_; intro A3 d3 W2 hown2 hgrow2 hat2; have HQ2 := Lib.hid (((Chg.refl (ownL (.slice A2 m2 c2)) wr).alloc (.cells #[.int .i64 p.i, .int .i64 p.f, .int .i64 p.l, .int .i64 p.a, .int .i64 p.d] 24)).grown hgrow2 (fun j hj => .inl (mem_ownL.2 hj))); have HO3 := Lib.hid hown2; have HAt := Lib.hid hat2; clear hown2 hgrow2 hat2)
        have hol := ownL_lt HO2.out
        have hol2 := ownL_lt HO1.out
        have HE2 := Lib.hid (own_chg HO1.out HQ2.out (fun g hg hm => HDj.out g (mem_ownL.2 hg) hm))
        have HKE := Lib.hid (HKR.out.trans HQ2.out (fun j hj => .inr (hol j hj).1))
        have HDn := Lib.hid (show ∀ j ∈ ownL (.slice A3 (m2 + 1) d3), j ∉ ownL (.slice A1 m1 c1) from fun j hj hm => by
          rcases HAt.out with e | e
          · have hj2 := mem_ownL.2 (e ▸ mem_ownL.1 hj)
            exact HDj.out j hm hj2
          · have := mem_ownL.1 hj
            rw [e] at this
            simp at this
            have := (hol2 j hm).2
            omega)
        clear hol hol2
        go_roundw
        case rel =>
          refine ⟨k + 1, m1, m2 + 1, A1, A3, c1, d3, by omega, by go_num, ?_, ?_, rfl, rfl, ?_, ?_, Lib.hid (fun j hj hm => HDn.out j hm hj), HKE.out⟩
          · rw [HT1.out, if_neg (by rw [HL.out]; simp)]; exact HM1.out
          · rw [HT2.out, if_neg (by rw [HL.out]; simp), List.length_append, ← HM2.out]; rfl
          · refine Lib.hid ?_; rw [HT1.out, if_neg (by rw [HL.out]; simp)]; exact HE2.out
          · refine Lib.hid ?_; rw [HT2.out, if_neg (by rw [HL.out]; simp), List.flatMap_append]; simpa [pkC] using HO3.out
        case measure => simp [intOf]; omega
      · have hdb : (p.d != -1) = true := by rw [bne_iff_ne]; exact hd
        by_cases hds : p.d < s
        · have HL := Lib.hid (show lateB p.d s = true from decide_eq_true ⟨hd, hds⟩)
          clear hd
          go_wp2_with (at_builtin; refine list_app (P := Try.prog) (t := 42) Try.underlying42 pk_info rfl (by omega) (.tmp 38) (.tmp 46) w.heap.size (n := m1) (m := 1) (N := m1 + 1) rfl (by omega) hone (by omega) (own_chg HO1.out ((Chg.refl [] wr).alloc _) (by simp)) (reads_lit wr 24 #[.int .i64 p.i, .int .i64 p.f, .int .i64 p.l, .int .i64 p.a, .int .i64 p.d] 5 rfl) (by simp; omega) (by rfl) (by rfl) (by rfl) (by rfl) ?_; intro A3 d3 W2 hown2 hgrow2 hat2; have HQ2 := Lib.hid (((Chg.refl (ownL (.slice A1 m1 c1)) wr).alloc (.cells #[.int .i64 p.i, .int .i64 p.f, .int .i64 p.l, .int .i64 p.a, .int .i64 p.d] 24)).grown hgrow2 (fun j hj => .inl (mem_ownL.2 hj))); have HO3 := Lib.hid hown2; have HAt := Lib.hid hat2; clear hown2 hgrow2 hat2)
          have hol := ownL_lt HO1.out
          have hol2 := ownL_lt HO2.out
          have HE2 := Lib.hid (own_chg HO2.out HQ2.out (fun g hg hm => HDj.out g hm (mem_ownL.2 hg)))
          have HKE := Lib.hid (HKR.out.trans HQ2.out (fun j hj => .inr (hol j hj).1))
          have HDn := Lib.hid (show ∀ j ∈ ownL (.slice A3 (m1 + 1) d3), j ∉ ownL (.slice A2 m2 c2) from fun j hj hm => by
            rcases HAt.out with e | e
            · have hj2 := mem_ownL.2 (e ▸ mem_ownL.1 hj)
              exact HDj.out j hj2 hm
            · have := mem_ownL.1 hj
              rw [e] at this
              simp at this
              have := (hol2 j hm).2
              omega)
          clear hol hol2
          go_roundw
          case rel =>
            refine ⟨k + 1, m1 + 1, m2, A3, A2, d3, c2, by omega, by go_num, ?_, ?_, rfl, rfl, ?_, ?_, Lib.hid HDn.out, HKE.out⟩
            · rw [HT1.out, if_pos HL.out, List.length_append, ← HM1.out]; rfl
            · rw [HT2.out, if_pos HL.out]; exact HM2.out
            · refine Lib.hid ?_; rw [HT1.out, if_pos HL.out, List.flatMap_append]; simpa [pkC] using HO3.out
            · refine Lib.hid ?_; rw [HT2.out, if_pos HL.out]; exact HE2.out
          case measure => simp [intOf]; omega
        · have HL := Lib.hid (show lateB p.d s = false from decide_eq_false (fun h => hds h.2))
          have hge : s ≤ p.d := by omega
          clear hd
          go_wp2_with (at_builtin; refine list_app (P := Try.prog) (t := 42) Try.underlying42 pk_info rfl (by omega) (.tmp 48) (.tmp 56) w.heap.size (n := m2) (m := 1) (N := m2 + 1) rfl (by omega) hone (by omega) (own_chg HO2.out ((Chg.refl [] wr).alloc _) (by simp)) (reads_lit wr 24 #[.int .i64 p.i, .int .i64 p.f, .int .i64 p.l, .int .i64 p.a, .int .i64 p.d] 5 rfl) (by simp; omega) (by rfl) (by rfl) (by rfl) (by rfl) ?_; intro A3 d3 W2 hown2 hgrow2 hat2; have HQ2 := Lib.hid (((Chg.refl (ownL (.slice A2 m2 c2)) wr).alloc (.cells #[.int .i64 p.i, .int .i64 p.f, .int .i64 p.l, .int .i64 p.a, .int .i64 p.d] 24)).grown hgrow2 (fun j hj => .inl (mem_ownL.2 hj))); have HO3 := Lib.hid hown2; have HAt := Lib.hid hat2; clear hown2 hgrow2 hat2)
          have hol := ownL_lt HO2.out
          have hol2 := ownL_lt HO1.out
          have HE2 := Lib.hid (own_chg HO1.out HQ2.out (fun g hg hm => HDj.out g (mem_ownL.2 hg) hm))
          have HKE := Lib.hid (HKR.out.trans HQ2.out (fun j hj => .inr (hol j hj).1))
          have HDn := Lib.hid (show ∀ j ∈ ownL (.slice A3 (m2 + 1) d3), j ∉ ownL (.slice A1 m1 c1) from fun j hj hm => by
            rcases HAt.out with e | e
            · have hj2 := mem_ownL.2 (e ▸ mem_ownL.1 hj)
              exact HDj.out j hm hj2
            · have := mem_ownL.1 hj
              rw [e] at this
              simp at this
              have := (hol2 j hm).2
              omega)
          clear hol hol2
          go_roundw
          case rel =>
            refine ⟨k + 1, m1, m2 + 1, A1, A3, c1, d3, by omega, by go_num, ?_, ?_, rfl, rfl, ?_, ?_, Lib.hid (fun j hj hm => HDn.out j hm hj), HKE.out⟩
            · rw [HT1.out, if_neg (by rw [HL.out]; simp)]; exact HM1.out
            · rw [HT2.out, if_neg (by rw [HL.out]; simp), List.length_append, ← HM2.out]; rfl
            · refine Lib.hid ?_; rw [HT1.out, if_neg (by rw [HL.out]; simp)]; exact HE2.out
            · refine Lib.hid ?_; rw [HT2.out, if_neg (by rw [HL.out]; simp), List.flatMap_append]; simpa [pkC] using HO3.out
          case measure => simp [intOf]; omega
    · have hge : (n : Int) ≤ (k : Int) := by omega
      have htk : ps.take k = ps := List.take_of_length_le (by have := HN.out; omega)
      have hm1 := HM1.out
      have hm2 := HM2.out
      have ho1 := HO1.out
      have ho2 := HO2.out
      rw [htk] at hm1 hm2 ho1 ho2
      have HE1 := Lib.hid hm1
      have HE2 := Lib.hid hm2
      have HF1 := Lib.hid ho1
      have HF2 := Lib.hid ho2
      have f3 := (H9.out.chg kr (by simp)).frozen 2
      have hrl3 : r < wr.heap.size := by omega
      clear htk hm1 hm2 ho1 ho2 HM1 HM2 HO1 HO2 kr
      go_wp2_with fail
      go_ret
      have e1 := HE1.out
      have e2 := HE2.out
      subst e1
      subst e2
      obtain ⟨r1, r2, r3⟩ := HH.out.put (ps' := stays s ps) hB HKR.out HF2.out (by have := stays_le s ps; have := HN.out; omega) (stays_vld HH.out.ok)
      have hR1 := (RdP.of_own HF1.out).1
      exact ⟨A1, c1, rfl, hR1.chg ((Chg.refl [r] wr).setCell (p := ⟨r, 2, none⟩) (by simp) (.slice A2 (stays s ps).length c2)) (fun j hj => by simp; rintro rfl; have := (ownL_lt HF1.out _ hj).1; omega), _, r1, r2, r3⟩

end Go.Proofs.Ytdlehpohpdepkaa
