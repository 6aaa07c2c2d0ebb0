/- The reference's receiver: insert. -/
import Derived.Test.YtgkdlplocahnnaaRq
import Derived.Test.YtgkdlplocahnnaaRs
import Derived.Deep.DeepCutAuto
import Derived.Deep.CutBlock
namespace Go.Proofs.Ytgkdlplocahnnaa
open Go.RowKit Go.Maps
set_option linter.unusedVariables false
set_option linter.unusedSimpArgs false

theorem rdist_ok (a b : Int) (w : World) (h : 0 ≤ a ∧ a < 65536) (h' : 0 ≤ b ∧ b < 65536) : Calls Try.prog 31 #[.int .i64 a, .int .i64 b] w fun e w' => e = .returned (.tuple #[.int .i64 (dst a b), .int .i64 0]) ∧ w = w' := by
  have h1 := rdist a b w
  rw [show distV a b = dst a b from if_pos ⟨h.1, h.2, h'.1, h'.2⟩, show distE a b = 0 from if_pos ⟨h.1, h.2, h'.1, h'.2⟩] at h1
  exact h1

set_option maxRecDepth 100000 in
set_option maxHeartbeats 8000000 in
theorem insert_c {w : World} {B s : Nat} {O : List Nat} {wd x : Int} {L1 L2 : List Hd} (h : RF w B s O wd x (L1 ++ L2)) (hB : B ≤ w.heap.size) (p : Hd) (hp : 0 ≤ p.q ∧ p.q < 65536) (hok : ∀ r ∈ L1 ++ L2, 0 ≤ r.q ∧ r.q < 65536)
    (h1 : ∀ r ∈ L1, dst x r.q < dst x p.q) (h2 : ∀ r ∈ L2, dst x p.q < dst x r.q) (hln : (L1 ++ L2).length < 1000) :
    Calls Try.prog 35 #[.pointer (some ⟨s, 0, none⟩), .agg #[.int .i64 p.q, .int .i64 p.i]] w fun e w' => e = .returned (.tuple #[]) ∧ ∃ O', RF w' B s O' wd x (L1 ++ p :: L2) ∧ (∀ j ∈ O', w.heap.size ≤ j) ∧ Chg [s] w w' := by
  have HH := Lib.hid h
  have hsl := h.lt
  have hx := h.hx
  obtain ⟨n, hn⟩ : ∃ n, (L1 ++ L2).length = n := ⟨_, rfl⟩
  obtain ⟨n1, hn1⟩ : ∃ n1, L1.length = n1 := ⟨_, rfl⟩
  have hnn : n1 ≤ n := by rw [← hn, ← hn1]; simp
  obtain ⟨A, c, h9, h10⟩ := h.split
  rw [hn] at h9 hln
  have e2 := (h9.cell 2).trans rfl
  have e1 := (h9.cell 1).trans rfl
  have H9 := Lib.hid h9
  have HN := Lib.hid hn
  have HN1 := Lib.hid hn1
  have HP1 := Lib.hid h1
  have HP2 := Lib.hid h2
  have HOK := Lib.hid hok
  obtain ⟨dp, hdp⟩ : ∃ dp, dst x p.q = dp := ⟨_, rfl⟩
  have HDP := Lib.hid hdp
  have HDC := Lib.hid (fun W : World => rdist_ok x p.q W hx hp)
  rw [hdp] at HDC
  have hb0 : Blk (w.alloc (.cells #[.int .i64 p.q, .int .i64 p.i] 70)) w.heap.size 70 #[.int .i64 p.q, .int .i64 p.i] := Blk.new _ _ _
  have HB0 := Lib.hid hb0
  clear h h9 hn hn1 h1 h2 hok hdp hb0
  go_enter Try.func35, Try.ntmps35
  go_wp2_with fail
  go_quiet ((go_at_call 31; exact Calls.quiet_of ((HDC.out _).mono (by rintro e w' ⟨rfl, rfl⟩; exact ⟨rfl, 0, rfl⟩))))
  have k0 : Chg [] w ((w.alloc (.cells #[.int .i64 p.q, .int .i64 p.i] 70)).drewN nq) := ((Chg.refl [] w).alloc _).drewN _
  have hb1 := HB0.out.drewN nq
  have K0 := Lib.hid k0
  have HB1 := Lib.hid hb1
  clear k0 hb1 HB0
  go_upto_block 0 with fail
  go_cut [6] (fun v wx => v = .int .i64 n1 ∧ Chg [] w wx ∧ Blk wx w.heap.size 70 #[.int .i64 p.q, .int .i64 p.i])
  case first =>
    go_wp2_with fail
    go_loopw [6, 7] (fun i _ wr => ∃ k : Nat, k ≤ n1 ∧ i = .int .i64 k ∧ Chg [] w wr ∧ Blk wr w.heap.size 70 #[.int .i64 p.q, .int .i64 p.i]) (fun i _ _ => n - (intOf i).toNat)
    case atStart => exact ⟨0, Nat.zero_le _, rfl, K0.out, HB1.out⟩
    case round =>
      clear K0 HB1
      obtain ⟨k, hk, rfl, hc, hbx⟩ := hrel
      have e3 := (hc.cell (p := ⟨s, 2, none⟩) (block_lt_of_cell e2) (by simp)).trans e2
      have e4 := (hc.cell (p := ⟨s, 1, none⟩) (block_lt_of_cell e1) (by simp)).trans e1
      have HC := Lib.hid hc
      have HBX := Lib.hid hbx
      clear hbx
      by_cases hkn : k < n
      · have hkl : k < (L1 ++ L2).length := by have := HN.out; omega
        rcases h10 with ⟨_, _, h0⟩ | ⟨g, rfl, hg, hgO, hgs, hr⟩
        · exact absurd hkl (by rw [h0]; simp)
        · obtain ⟨c0, c1⟩ := row_hd (hr.chg hc (by simp)) hkl
          have hok' := HOK.out (L1 ++ L2)[k] (by simp)
          have hd1 : k < n1 → dst x (L1 ++ L2)[k].q < dp := fun hlt => by
            have hk1 : k < L1.length := by have := HN1.out; omega
            rw [List.getElem_append_left hk1, ← HDP.out]
            exact HP1.out _ (by simp)
          have hd2 : ¬ k < n1 → dp < dst x (L1 ++ L2)[k].q := fun hlt => by
            have hk1 : L1.length ≤ k := by have := HN1.out; omega
            rw [List.getElem_append_right hk1, ← HDP.out]
            exact HP2.out _ (by simp)
          generalize (L1 ++ L2)[k] = r at c0 c1 hok' hd1 hd2
          have HDR := Lib.hid (fun W : World => rdist_ok x r.q W hx hok')
          generalize dst x r.q = dr at hd1 hd2 HDR
          have hI : (k : Int) < (n : Int) := by omega
          have hJ : (0 : Int) ≤ (k : Int) := by omega
          clear hr hc
          by_cases hlt : k < n1
          · have hd := hd1 hlt
            clear hd1 hd2
            go_wp2_with fail
            go_quiet ((go_at_call 31; exact Calls.quiet_of ((HDR.out _).mono (by rintro e w' ⟨rfl, rfl⟩; exact ⟨rfl, 0, rfl⟩))))
            go_wp2_with fail
            go_roundw
            case rel => exact ⟨k + 1, by omega, by go_num, HC.out.drewN _, HBX.out.drewN _⟩
            case measure => simp [intOf]; omega
          · have hd := hd2 hlt
            clear hd1 hd2
            obtain rfl : k = n1 := by omega
            go_wp2_with fail
            go_quiet ((go_at_call 31; exact Calls.quiet_of ((HDR.out _).mono (by rintro e w' ⟨rfl, rfl⟩; exact ⟨rfl, 0, rfl⟩))))
            go_wp2_with fail
            go_meet
            exact ⟨rfl, HC.out.drewN _, HBX.out.drewN _⟩
      · have hge : (n : Int) ≤ (k : Int) := by omega
        obtain rfl : k = n1 := by omega
        clear hc
        go_wp2_with fail
        go_meet
        exact ⟨rfl, HC.out, HBX.out⟩
  case rest =>
    clear K0 HB1 HDC
    obtain ⟨rfl, hc, hbx⟩ := hcut
    have hz := hc.size
    have e3 := (hc.cell (p := ⟨s, 2, none⟩) (block_lt_of_cell e2) (by simp)).trans e2
    have f3 := (H9.out.chg hc (by simp)).frozen 2
    have z0 := (hbx.cell 0).trans rfl
    have z1 := (hbx.cell 1).trans rfl
    have hzl := hbx.lt
    have HC := Lib.hid hc
    have HBX := Lib.hid hbx
    have hb1 : (n1 : Int) ≤ (n : Int) := by omega
    have hb3 : (0 : Int) ≤ (n1 : Int) := by omega
    have HH1 := Lib.hid (HH.out.chg hc (by simp) (by simp))
    have hws : s < wc.heap.size := by omega
    have hone1 : ∀ u ∈ ([.int .i64 p.q, .int .i64 p.i] : List Value), u.oneCell' = true := by intro u hu; simp at hu; rcases hu with rfl | rfl <;> rfl
    rcases h10 with ⟨rfl, rfl, h0⟩ | ⟨g, rfl, hg, hgO, hgs, hr⟩
    · obtain ⟨rfl, rfl⟩ := List.append_eq_nil_iff.1 h0
      have hn0 : n = 0 := by have := HN.out; simpa using this.symm
      obtain rfl : n1 = 0 := by omega
      subst hn0
      have tok0 : True := trivial
      have hrl : Reads ((wc.alloc (.cells #[] 70)).alloc (.cells #[.int .i64 p.q, .int .i64 p.i] 70)) (wc.heap.size + 1 + 1) 2 (some ⟨wc.heap.size + 1, 0, none⟩) 1 [.int .i64 p.q, .int .i64 p.i] := by simpa using reads_lit (wc.alloc (.cells #[] 70)) 70 #[.int .i64 p.q, .int .i64 p.i] 2 rfl
      clear hc hbx h0
      go_wp2_with (first | (at_builtin; have tok3 := hs2; refine list_app (P := Try.prog) (t := 46) Try.underlying46 hd_info rfl (by omega) (.tmp 61) (.tmp 67) wc.heap.size (B := 0) (news := []) (n := 1) (m := 0) (N := 1) rfl (by omega) (by simp) (by omega) HO2.out Reads.none_ (by omega) (by rfl) (by rfl) (by rfl) (by rfl) ?_; intro A4 d4 W3 hown3 hgrow3 hat3; have q3 := HQ2.out.grown hgrow3 (fun j hj => .inr (ownL_lt HO2.out j (mem_ownL.2 hj)).1); have HO3 := Lib.hid hown3; have HQ3 := Lib.hid q3; have v3 := (q3.cell (p := ⟨s, 2, none⟩) hws (by simp)).trans e3; have g3 := (q3.frozen (p := ⟨s, 2, none⟩) hws (by simp)).trans f3; have hs3 := q3.size; clear hown3 hgrow3 hat3 q3) | (at_builtin; have tok2 := tok0; refine list_app (P := Try.prog) (t := 46) Try.underlying46 hd_info rfl (by omega) (.tmp 56) (.tmp 58) wc.heap.size (n := 0) (m := 1) (N := 1) rfl (by omega) hone1 (by omega) (own_chg (own_empty wc 70 2 wc.heap.size (Nat.le_refl _)) ((Chg.refl [] (wc.alloc (.cells #[] 70))).alloc (.cells #[.int .i64 p.q, .int .i64 p.i] 70)) (by simp)) hrl (by simp; omega) (by rfl) (by rfl) (by rfl) (by rfl) ?_; intro A3 d3 W2 hown2 hgrow2 hat2; have q2 := ((((Chg.refl [] wc).alloc (.cells #[] 70)).alloc (.cells #[.int .i64 p.q, .int .i64 p.i] 70))).grown hgrow2 (by simp [Value.ownBlock]); have HO2 := Lib.hid hown2; have HQ2 := Lib.hid q2; have x3 := (q2.cell (p := ⟨s, 2, none⟩) hws (by simp)).trans e3; have hs2 := q2.size; clear hown2 hgrow2 hat2 q2))
      go_end0
      have ho := HO3.out
      have hx : ([] ++ [Value.int .i64 p.q, .int .i64 p.i]) ++ [] = ([] ++ p :: []).flatMap hdC := by simp [hdC]
      rw [hx] at ho
      obtain ⟨r1, r2, r3⟩ := HH1.out.put (ps' := [] ++ p :: []) (by omega) HQ3.out ho (by simp)
      exact ⟨rfl, _, r1, fun i hi => by have := r2 i hi; omega, (HC.out.mono (S' := [s]) (by simp)).trans r3 (by simp)⟩
    · have hr' := hr.chg hc (by simp)
      have hcn : n ≤ c := by have := hr'.1; have := HN.out; omega
      have hRds := Reads.of_own (hr'.own (B := 0) hdCells (Nat.zero_le _))
      rw [HN.out] at hRds
      have hb6 : (n1 : Int) ≤ (c : Int) := by omega
      obtain ⟨A2, hA2, hr2⟩ : ∃ A2, (if c = n1 then some ({ block := g, off := 0 } : Addr) else some { block := g, off := n1 * 2 }) = A2 ∧ Reads wc wc.heap.size 2 A2 (n - n1) (L2.flatMap hdC) := by
        refine ⟨_, rfl, ?_⟩
        have := hRds.cut (k := n1) (cap := c) (by omega) hcn
        rw [hflat_drop, List.drop_append_of_le_length (by have := HN1.out; omega), List.drop_of_length_le (by have := HN1.out; omega)] at this
        have ha : ({ block := g, off := 0 } : Addr).add (n1 * 2) = { block := g, off := n1 * 2 } := by
          unfold Addr.add
          split
          · rename_i h0; rw [h0]
          · simp
        simpa [ha] using this
      have hr1 : Reads wc wc.heap.size 2 (some ({ block := g, off := 0 } : Addr)) n1 (L1.flatMap hdC) := by
        have := hRds.pre (k := n1) (by omega)
        rw [hflat_take, List.take_append_of_le_length (by have := HN1.out; omega), List.take_of_length_le (by have := HN1.out; omega)] at this
        simpa using this
      clear hc hbx hr hr' hRds
      go_wp2_with (first | (at_builtin; have tok3 := hs2; refine list_app (P := Try.prog) (t := 46) Try.underlying46 hd_info rfl (by omega) (.tmp 61) (.tmp 67) wc.heap.size (n := n1 + 1) (m := (n - n1)) (N := n1 + 1 + (n - n1)) rfl (by omega) (hdCells.flat_one L2) (by omega) HO2.out (hr2.keep (w' := W2) (fun a ha => HQ2.out.cell ha (by simp))) (by omega) (by rfl) (by rfl) (by rfl) (by rfl) ?_; intro A4 d4 W3 hown3 hgrow3 hat3; have q3 := HQ2.out.grown hgrow3 (fun j hj => .inr (ownL_lt HO2.out j (mem_ownL.2 hj)).1); have HO3 := Lib.hid hown3; have HQ3 := Lib.hid q3; have v3 := (q3.cell (p := ⟨s, 2, none⟩) hws (by simp)).trans e3; have g3 := (q3.frozen (p := ⟨s, 2, none⟩) hws (by simp)).trans f3; have hs3 := q3.size; clear hown3 hgrow3 hat3 q3) | (at_builtin; have tok2 := hs1; refine list_app (P := Try.prog) (t := 46) Try.underlying46 hd_info rfl (by omega) (.tmp 56) (.tmp 58) wc.heap.size (n := n1) (m := 1) (N := n1 + 1) rfl (by omega) hone1 (by omega) (own_chg HO1.out ((Chg.refl [] W1).alloc _) (by simp)) (reads_lit W1 70 #[.int .i64 p.q, .int .i64 p.i] 2 rfl) (by simp; omega) (by rfl) (by rfl) (by rfl) (by rfl) ?_; intro A3 d3 W2 hown2 hgrow2 hat2; have q2 := (HQ1.out.alloc (.cells #[.int .i64 p.q, .int .i64 p.i] 70)).grown hgrow2 (fun j hj => .inr (ownL_lt HO1.out j (mem_ownL.2 hj)).1); have HO2 := Lib.hid hown2; have HQ2 := Lib.hid q2; have x3 := (q2.cell (p := ⟨s, 2, none⟩) hws (by simp)).trans e3; have hs2 := q2.size; clear hown2 hgrow2 hat2 q2 y0 y1) | (at_builtin; refine list_app (P := Try.prog) (t := 46) Try.underlying46 hd_info rfl (by omega) (.tmp 48) (.tmp 54) wc.heap.size (n := 0) (m := n1) (N := n1) (Nat.zero_add _) (by omega) (hdCells.flat_one L1) (by omega) (own_empty wc 70 2 wc.heap.size (Nat.le_refl _)) (hr1.alloc (Nat.le_refl _) _) (by simp) (by rfl) (by rfl) (by rfl) (by rfl) ?_; intro A1 d1 W1 hown1 hgrow1 hat1; have q1 := ((Chg.refl [] wc).alloc (.cells #[] 70)).grown hgrow1 (by simp [Value.ownBlock]); have HO1 := Lib.hid hown1; have HQ1 := Lib.hid q1; have y0 := (q1.cell (p := ⟨w.heap.size, 0, none⟩) hzl (by simp)).trans z0; have y1 := (q1.cell (p := ⟨w.heap.size, 1, none⟩) hzl (by simp)).trans z1; have hs1 := q1.size; clear hown1 hgrow1 hat1 q1))
      go_end0
      have ho := HO3.out
      have hx : ([] ++ L1.flatMap hdC) ++ [.int .i64 p.q, .int .i64 p.i] ++ L2.flatMap hdC = (L1 ++ p :: L2).flatMap hdC := by simp [hdC]
      rw [hx] at ho
      obtain ⟨r1, r2, r3⟩ := HH1.out.put (ps' := L1 ++ p :: L2) (by omega) HQ3.out ho (by have := HN.out; simp at this ⊢; omega)
      exact ⟨rfl, _, r1, fun i hi => by have := r2 i hi; omega, (HC.out.mono (S' := [s]) (by simp)).trans r3 (by simp)⟩

end Go.Proofs.Ytgkdlplocahnnaa
