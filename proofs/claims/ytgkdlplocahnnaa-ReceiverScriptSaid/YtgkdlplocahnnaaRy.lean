/- The receiver: Receive where it is taken. -/
import Derived.Test.YtgkdlplocahnnaaRx
namespace Go.Proofs.Ytgkdlplocahnnaa
open Go.RowKit Go.Maps
set_option linter.unusedVariables false
set_option linter.unusedSimpArgs false

/-- What is held behind the store. -/
def stH (H : Int → Option Int) (x s id : Int) : Int → Option Int := if (H s).isSome = true ∨ befB s x = true then H else mPut H s id

/-- What Receive leaves, where it is taken. -/
def RcvPost (w : World) (B r m n : Nat) (wd x b s id : Int) (H : Int → Option Int) (e : Ending) (w' : World) : Prop :=
  ∃ A c N x1 H1 o1 x2 H2 o2, e = .returned (.tuple #[.slice A N c, .int .i64 0]) ∧ w'.ownsRow w.heap.size 3 1 (.slice A N c) N (o2.map (Value.int .i64)) ∧ N ≤ 100000 ∧ Skp b x H [] x1 H1 o1 ∧ Rls x1 (stH H1 x1 s id) o1 x2 H2 o2 ∧
    RV w' B r m (n + 1) wd x2 H2 ∧ Frm w w' r m w.heap.size

set_option maxRecDepth 100000 in
set_option maxHeartbeats 8000000 in
theorem receive_ok {w : World} {B r m n : Nat} {wd x b s id : Int} {H : Int → Option Int} (h : RV w B r m n wd x H) (hn : n ≤ 100000) (hb : seqP b ∧ seqP s ∧ 1 ≤ id) (hid2 : id ≤ 9223372036854775807) (hm0 : mvE x wd b = 0) (hi0 : insB b wd s = true) :
    Calls Try.prog 10 #[.pointer (some ⟨r, 0, none⟩), .int .i64 b, .int .i64 s, .int .i64 id] w (RcvPost w B r m n wd x b s id H) := by
  have HM := Lib.hid (moves_c h b)
  rw [hm0] at HM
  have HD := Lib.hid (fun W : World => dist_ok b s W hb.1.1 hb.1.2 hb.2.1.1 hb.2.1.2)
  have HI := Lib.hid (fun W : World => inside_c W b wd s h.hw)
  rw [hi0] at HI
  have hid := hb.2.2
  have HH := Lib.hid h
  have HS := Lib.hid hb.2.1
  have hrl := h.lt
  have hml := h.mlt
  clear h hb hm0 hi0
  go_enter Try.func10, Try.ntmps10
  go_wp2_with fail
  refine (HD.out _).mono ?_
  rintro e w' ⟨rfl, rfl⟩
  go_wp2_with fail
  refine HM.out.mono ?_
  rintro e w1 ⟨rfl, hc⟩
  have h0 := ((HH.out.hr.chg hc (by simp)).cell 0).trans rfl
  have HV1 := Lib.hid (HH.out.chg hc (by simp) (by simp))
  have HF1 := Lib.hid (Frm.quiet (r := r) (m := m) (base := w.heap.size) hc)
  have hz1 := hc.size
  clear hc
  go_wp2_with fail
  refine (HI.out _).mono ?_
  rintro e w' ⟨rfl, rfl⟩
  go_wp2_with fail
  refine (skip_c (base := w.heap.size) HV1.out hz1 hrl hml).mono ?_
  rintro e w2 ⟨A2, c2, N2, x1, H1, o1, rfl, ho2, hN2, hV2, hS2, hF2⟩
  have e2 := (hV2.hr.cell 2).trans rfl
  have e1 := (hV2.hr.cell 1).trans rfl
  have hlk := hV2.hm.look (wf_seq HS.out)
  have HV2 := Lib.hid hV2
  have HO2 := Lib.hid ho2
  have HSK := Lib.hid hS2
  have HF2 := Lib.hid (HF1.out.trans hF2)
  have HBf := Lib.hid (fun W : World => bef_raw s x1 W)
  have hz2 := hF2.size
  clear hV2 ho2 hS2 hF2 h0
  have hrA : r ∉ ownL (.slice A2 N2 c2) := fun hj => by have := (ownL_lt HO2.out r hj).1; omega
  have hmA : m ∉ ownL (.slice A2 N2 c2) := fun hj => by have := (ownL_lt HO2.out m hj).1; omega
  cases hHs : H1 s with
  | some u =>
    rw [hHs] at hlk
    have HST := Lib.hid (show stH H1 x1 s id = H1 from if_pos (.inl (by rw [hHs]; rfl)))
    clear hHs
    go_wp2_with fail
    refine (release_c (base := w.heap.size) HV2.out HO2.out (by omega) (Nat.le_refl 100000) (by omega) hrl hml).mono ?_
    rintro e w3 ⟨A3, c3, N3, x2, H2, o2, rfl, ho3, hN3, hV3, hR3, hF3⟩
    go_wp2_with fail
    go_ret2
    exact ⟨A3, c3, N3, x1, H1, o1, x2, H2, o2, rfl, ho3, hN3, HSK.out, by rw [HST.out]; exact hR3, hV3.mono (by omega), HF2.out.trans hF3⟩
  | none =>
    rw [hHs] at hlk
    cases hbf : befB s x1 with
    | true =>
      rw [hbf] at HBf
      have HST := Lib.hid (show stH H1 x1 s id = H1 from if_pos (.inr hbf))
      clear hHs hbf
      go_wp2_with fail
      refine (HBf.out _).mono ?_
      rintro e w' ⟨rfl, rfl⟩
      go_wp2_with fail
      refine (release_c (base := w.heap.size) HV2.out HO2.out (by omega) (Nat.le_refl 100000) (by omega) hrl hml).mono ?_
      rintro e w3 ⟨A3, c3, N3, x2, H2, o2, rfl, ho3, hN3, hV3, hR3, hF3⟩
      go_wp2_with fail
      go_ret2
      exact ⟨A3, c3, N3, x1, H1, o1, x2, H2, o2, rfl, ho3, hN3, HSK.out, by rw [HST.out]; exact hR3, hV3.mono (by omega), HF2.out.trans hF3⟩
    | false =>
      rw [hbf] at HBf
      have HST := Lib.hid (show stH H1 x1 s id = mPut H1 s id from if_neg (by rw [hHs, hbf]; simp))
      clear hHs hbf
      go_wp2_with fail
      refine (HBf.out _).mono ?_
      rintro e w' ⟨rfl, rfl⟩
      go_wp2_with (at_mapUpdate; refine list_store (k := s) (v := id) (.tmp 75) (.tmp 76) (.tmp 77) HV2.out.hm (wf_seq HS.out) (wfI_of (by omega) (by omega)) (by omega) (by rfl) (by rfl) (by rfl) (by rfl) (by rfl) ?_; intro W3 hM3 hc3)
      have hr3 := HV2.out.hr.chg hc3 (by simp; exact HV2.out.rm)
      have hV3 : RV W3 B r m (n + 1) wd x1 (mPut H1 s id) := ⟨HV2.out.Br, HV2.out.Bm, HV2.out.rm, HV2.out.hw, HV2.out.hx, hr3, hM3⟩
      have ho3 := own_chg HO2.out hc3 (fun g hg => by simp; rintro rfl; exact hmA (mem_ownL.2 hg))
      have HF3 := Lib.hid (HF2.out.trans (⟨[m], hc3, by simp⟩ : Frm w2 W3 r m w.heap.size))
      have hz3 := hc3.size
      refine (release_c (base := w.heap.size) hV3 ho3 (by omega) (Nat.le_refl 100000) (by omega) hrl hml).mono ?_
      rintro e w3 ⟨A3, c3, N3, x2, H2, o2, rfl, ho4, hN4, hV4, hR4, hF4⟩
      go_wp2_with fail
      go_ret2
      exact ⟨A3, c3, N3, x1, H1, o1, x2, H2, o2, rfl, ho4, hN4, HSK.out, by rw [HST.out]; exact hR4, hV4, HF3.out.trans hF4⟩

end Go.Proofs.Ytgkdlplocahnnaa
