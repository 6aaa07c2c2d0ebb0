/- Skip, of the receiver and of its reference. -/
import Derived.Test.YtgkdlplocahnnaaRu
namespace Go.Proofs.Ytgkdlplocahnnaa
open Go.RowKit Go.Maps
set_option linter.unusedVariables false
set_option linter.unusedSimpArgs false

theorem mvE_cases (x wd b : Int) : mvE x wd b = 0 ∨ mvE x wd b = 1 ∨ mvE x wd b = 2 := by
  unfold mvE
  split
  · split <;> simp
  · simp

/-- What Skip leaves, where it is taken. -/
def RvSkPost (w : World) (B r m n : Nat) (wd b x : Int) (H : Int → Option Int) (w' : World) (A : Option Addr) (N c : Nat) : Prop :=
  ∃ x1 H1 o1 x2 H2 o2, w'.ownsRow w.heap.size 3 1 (.slice A N c) N (o2.map (Value.int .i64)) ∧ N ≤ 100000 ∧ Skp b x H [] x1 H1 o1 ∧ Rls x1 H1 o1 x2 H2 o2 ∧ RV w' B r m n wd x2 H2 ∧ Frm w w' r m w.heap.size

set_option maxHeartbeats 2000000 in
theorem rvskip_bad {w : World} {B r m n : Nat} {wd x b : Int} {H : Int → Option Int} (h : RV w B r m n wd x H) (hb : mvE x wd b ≠ 0) :
    Calls Try.prog 19 #[.pointer (some ⟨r, 0, none⟩), .int .i64 b] w fun e w' => e = .returned (.tuple #[.slice none 0 0, .int .i64 (mvE x wd b)]) ∧ Chg [] w w' := by
  have HM := Lib.hid (moves_c h b)
  have hmb : (mvE x wd b != 0) = true := by rw [bne_iff_ne]; exact hb
  generalize mvE x wd b = me at HM hmb ⊢
  clear h hb
  go_enter Try.func19, Try.ntmps19
  go_wp2_with fail
  refine HM.out.mono ?_
  rintro e w' ⟨rfl, hc⟩
  go_wp2_with fail
  go_ret2
  exact ⟨rfl, hc⟩

set_option maxHeartbeats 2000000 in
theorem rvskip_ok {w : World} {B r m n : Nat} {wd x b : Int} {H : Int → Option Int} (h : RV w B r m n wd x H) (hb : mvE x wd b = 0) :
    Calls Try.prog 19 #[.pointer (some ⟨r, 0, none⟩), .int .i64 b] w fun e w' => ∃ A N c, e = .returned (.tuple #[.slice A N c, .int .i64 0]) ∧ RvSkPost w B r m n wd b x H w' A N c := by
  have HM := Lib.hid (moves_c h b)
  rw [hb] at HM
  have HH := Lib.hid h
  have hrl := h.lt
  have hml := h.mlt
  clear h hb
  go_enter Try.func19, Try.ntmps19
  go_wp2_with fail
  refine HM.out.mono ?_
  rintro e w1 ⟨rfl, hc⟩
  have HV1 := Lib.hid (HH.out.chg hc (by simp) (by simp))
  have HF1 := Lib.hid (Frm.quiet (r := r) (m := m) (base := w.heap.size) hc)
  have hz1 := hc.size
  clear hc
  go_wp2_with fail
  refine (skip_c (base := w.heap.size) HV1.out hz1 hrl hml).mono ?_
  rintro e w2 ⟨A2, c2, N2, x1, H1, o1, rfl, ho2, hN2, hV2, hS2, hF2⟩
  have HV2 := Lib.hid hV2
  have HO2 := Lib.hid ho2
  have HSK := Lib.hid hS2
  have HF2 := Lib.hid (HF1.out.trans hF2)
  have hz2 := hF2.size
  clear hV2 ho2 hS2 hF2
  go_wp2_with fail
  refine (release_c (base := w.heap.size) HV2.out HO2.out (by omega) (Nat.le_refl 100000) (by omega) hrl hml).mono ?_
  rintro e w3 ⟨A3, c3, N3, x2, H2, o2, rfl, ho3, hN3, hV3, hR3, hF3⟩
  go_wp2_with fail
  go_ret2
  exact ⟨A3, N3, c3, rfl, x1, H1, o1, x2, H2, o2, ho3, hN3, HSK.out, hR3, hV3, HF2.out.trans hF3⟩

set_option maxHeartbeats 2000000 in
theorem rskip_bad {w : World} {B s : Nat} {O : List Nat} {wd x b : Int} {ps : List Hd} (h : RF w B s O wd x ps) (hb : mvE x wd b ≠ 0) :
    Calls Try.prog 20 #[.pointer (some ⟨s, 0, none⟩), .int .i64 b] w fun e w' => e = .returned (.tuple #[.slice none 0 0, .int .i64 (mvE x wd b)]) ∧ Chg [] w w' := by
  obtain ⟨A, c, h9, _⟩ := h.row
  have e0 := (h9.cell 0).trans rfl
  have e1 := (h9.cell 1).trans rfl
  have hx := h.hx
  by_cases hs : seqP b
  · have h2 : mvE x wd b = 2 ∧ 32768 ≤ dst x b ∧ wd < dst b x := by
      unfold mvE at hb ⊢
      rw [if_pos hs] at hb ⊢
      split at hb
      · rename_i hq
        rw [if_pos hq]
        refine ⟨rfl, hq.1, ?_⟩
        unfold dst seqP at *
        omega
      · exact absurd rfl hb
    rw [h2.1]
    have HD1 := Lib.hid (fun W : World => rdist_ok x b W hx hs)
    have HD2 := Lib.hid (fun W : World => rdist_ok b x W hs hx)
    obtain ⟨_, hq1, hq2⟩ := h2
    generalize dst x b = d1 at HD1 hq1
    generalize dst b x = d2 at HD2 hq2
    clear h h9 hb hs
    go_enter Try.func20, Try.ntmps20
    go_wp2_with fail
    refine (HD1.out _).mono ?_
    rintro e w' ⟨rfl, rfl⟩
    go_wp2_with fail
    refine (HD2.out _).mono ?_
    rintro e w' ⟨rfl, rfl⟩
    go_wp2_with fail
    go_ret2
    exact ⟨rfl, Chg.refl _ _⟩
  · rw [show mvE x wd b = 1 from if_neg hs]
    have HD1 := Lib.hid (rdist x b)
    rw [show distE x b = 1 from if_neg (fun h => hs ⟨h.2.2.1, h.2.2.2⟩)] at HD1
    have HD2 := Lib.hid (rdist b x)
    generalize distV x b = d1 at HD1
    generalize distV b x = d2 at HD2
    generalize distE b x = d3 at HD2
    clear h h9 hb hs
    go_enter Try.func20, Try.ntmps20
    go_wp2_with fail
    refine (HD1.out _).mono ?_
    rintro e w' ⟨rfl, rfl⟩
    go_wp2_with fail
    refine (HD2.out _).mono ?_
    rintro e w' ⟨rfl, rfl⟩
    go_wp2_with fail
    go_ret2
    exact ⟨rfl, Chg.refl _ _⟩

theorem mv_ok {x wd b : Int} (h : mvE x wd b = 0) : seqP b ∧ ¬ (32768 ≤ dst x b ∧ wd < 65536 - dst x b) := by
  unfold mvE at h
  by_cases hs : seqP b
  · rw [if_pos hs] at h
    exact ⟨hs, fun hq => by rw [if_pos hq] at h; cases h⟩
  · rw [if_neg hs] at h; cases h

set_option maxHeartbeats 2000000 in
theorem rskip_ok {w : World} {B s : Nat} {O : List Nat} {wd x b : Int} {H : Int → Option Int} (h : RF w B s O wd x (lst x H)) (hBd : Bd x wd H) (hB : B ≤ w.heap.size) (hb : mvE x wd b = 0) :
    Calls Try.prog 20 #[.pointer (some ⟨s, 0, none⟩), .int .i64 b] w fun e w' => ∃ A N c, e = .returned (.tuple #[.slice A N c, .int .i64 0]) ∧ RfPost w B s O wd b x H w' A N c := by
  obtain ⟨A, c, h9, _⟩ := h.row
  have e0 := (h9.cell 0).trans rfl
  have e1 := (h9.cell 1).trans rfl
  have hx := h.hx
  obtain ⟨hs, hq⟩ := mv_ok hb
  have hq2 : ¬ (32768 ≤ dst x b ∧ wd < dst b x) := by unfold dst seqP at *; omega
  have HD1 := Lib.hid (fun W : World => rdist_ok x b W hx hs)
  have HD2 := Lib.hid (fun W : World => rdist_ok b x W hs hx)
  have HR := Lib.hid (rrelease_c (b := b) h hBd hB)
  generalize dst x b = d1 at HD1 hq2
  generalize dst b x = d2 at HD2 hq2
  clear h h9 hb hs hq hBd
  by_cases hq3 : 32768 ≤ d1
  · have hq4 : d2 ≤ wd := by omega
    clear hq2
    go_enter Try.func20, Try.ntmps20
    go_wp2_with fail
    refine (HD1.out _).mono ?_
    rintro e w' ⟨rfl, rfl⟩
    go_wp2_with fail
    refine (HD2.out _).mono ?_
    rintro e w' ⟨rfl, rfl⟩
    go_wp2_with fail
    refine HR.out.mono ?_
    rintro e w3 ⟨A3, N3, c3, rfl, hP⟩
    go_wp2_with fail
    go_ret2
    exact ⟨A3, N3, c3, rfl, hP⟩
  · have hq4 : d1 < 32768 := by omega
    clear hq2 hq3
    go_enter Try.func20, Try.ntmps20
    go_wp2_with fail
    refine (HD1.out _).mono ?_
    rintro e w' ⟨rfl, rfl⟩
    go_wp2_with fail
    refine (HD2.out _).mono ?_
    rintro e w' ⟨rfl, rfl⟩
    go_wp2_with fail
    refine HR.out.mono ?_
    rintro e w3 ⟨A3, N3, c3, rfl, hP⟩
    go_wp2_with fail
    go_ret2
    exact ⟨A3, N3, c3, rfl, hP⟩

end Go.Proofs.Ytgkdlplocahnnaa
