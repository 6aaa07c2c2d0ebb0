/- The reference's queue: its state; New, SetCaps, Bytes, Clear; the program's New and SetCaps with caps that are not permitted, and its Clear. -/
import Derived.Test.YtdlehpohpdepkaaQuO
namespace Go.Proofs.Ytdlehpohpdepkaa
open Go.RowKit
set_option linter.unusedVariables false
set_option linter.unusedSimpArgs false

/-- The slice that begins at A reads as ps; its cells lie in one of the blocks O. -/
def RdP (w : World) (O : List Nat) (A : Option Addr) (ps : List Pk) : Prop :=
  (A = none ∧ ps = []) ∨ ∃ g off, A = some ⟨g, off, none⟩ ∧ g ∈ O ∧ g < w.heap.size ∧ ∀ k, k < ps.length → ∀ q, q < 5 → w.cell? ⟨g, off + (k * 5 + q), none⟩ = (pkC (pkAt ps k))[q]?

theorem RdP.chg {w w' : World} {O S : List Nat} {A : Option Addr} {ps : List Pk} (h : RdP w O A ps) (hc : Chg S w w') (hO : ∀ j ∈ O, j ∉ S) : RdP w' O A ps := by
  rcases h with h | ⟨g, off, h1, h2, h3, h4⟩
  · exact .inl h
  · exact .inr ⟨g, off, h1, h2, Nat.lt_of_lt_of_le h3 hc.size, fun k hk q hq => (hc.cell (p := ⟨g, off + (k * 5 + q), none⟩) h3 (hO g h2)).trans (h4 k hk q hq)⟩
theorem RdP.at_ {w : World} {O : List Nat} {A : Option Addr} {ps : List Pk} (h : RdP w O A ps) {k : Nat} (hk : k < ps.length) : ∃ g off, A = some ⟨g, off, none⟩ ∧ g ∈ O ∧ g < w.heap.size ∧
    w.cell? ⟨g, off + k * 5, none⟩ = some (.int .i64 (pkAt ps k).i) ∧ w.cell? ⟨g, off + k * 5 + 1, none⟩ = some (.int .i64 (pkAt ps k).f) ∧ w.cell? ⟨g, off + k * 5 + 2, none⟩ = some (.int .i64 (pkAt ps k).l) ∧ w.cell? ⟨g, off + k * 5 + 3, none⟩ = some (.int .i64 (pkAt ps k).a) ∧ w.cell? ⟨g, off + k * 5 + 4, none⟩ = some (.int .i64 (pkAt ps k).d) := by
  rcases h with ⟨_, h⟩ | ⟨g, off, h1, h2, h3, h4⟩
  · rw [h] at hk; simp at hk
  · exact ⟨g, off, h1, h2, h3, (h4 k hk 0 (by omega)).trans rfl, (h4 k hk 1 (by omega)).trans rfl, (h4 k hk 2 (by omega)).trans rfl, (h4 k hk 3 (by omega)).trans rfl, (h4 k hk 4 (by omega)).trans rfl⟩
theorem RdP.of_own {w : World} {B n c : Nat} {A : Option Addr} {ps : List Pk} (h : w.ownsRow B 24 5 (.slice A n c) n (ps.flatMap pkC)) : RdP w (ownL (.slice A n c)) A ps ∧ ps.length = n ∧ n ≤ c ∧ c ≤ 9223372036854775807 := by
  have hl : ps.length = n := by have := h.1; rw [flat_length] at this; omega
  subst hl
  rcases h.2 with ⟨hv, h0⟩ | ⟨g, cap, cur, hv, hg, hh, h1, h2, h3, h4⟩
  · injection hv with a b d
    exact ⟨.inl ⟨a, List.eq_nil_of_length_eq_zero b⟩, rfl, by omega, by omega⟩
  · injection hv with a b d
    subst a
    subst d
    refine ⟨.inr ⟨g, 0, rfl, mem_ownL.2 rfl, (Array.getElem?_eq_some_iff.1 hh).1, fun k hk q hq => ?_⟩, rfl, h1, by unfold maxLen at h2; exact h2⟩
    have hb : Blk w g _ cur := hh
    rw [hb.cell, Nat.zero_add, ← flat_at ps k hk q hq, ← h4, List.getElem?_take, if_pos (by omega), Array.getElem?_toList]
theorem RdP.reads {w : World} {O : List Nat} {A : Option Addr} {ps : List Pk} (h : RdP w O A ps) : Reads w w.heap.size 5 A ps.length (ps.flatMap pkC) := by
  refine ⟨flat_length ps, fun hn => ?_⟩
  rcases h with ⟨_, h⟩ | ⟨g, off, h1, h2, h3, h4⟩
  · rw [h] at hn; simp at hn
  · refine ⟨_, h1, h3, fun j u hu => ?_⟩
    have hj : j < ps.length * 5 := by
      have := (List.getElem?_eq_some_iff.1 hu).1
      rwa [flat_length] at this
    have e1 : j = j / 5 * 5 + j % 5 := by omega
    have hk : j / 5 < ps.length := by omega
    have hq : j % 5 < 5 := by omega
    have ha : (⟨g, off, none⟩ : Addr).add j = ⟨g, off + j, none⟩ := by
      unfold Addr.add
      split
      · rename_i h0; rw [h0]; rfl
      · rfl
    rw [ha]
    have a := h4 (j / 5) hk (j % 5) hq
    have b := flat_at ps (j / 5) hk (j % 5) hq
    rw [← e1] at a b
    rw [a, ← b, hu]

/-- Block r is a queue of the reference with these caps that holds ps. -/
structure QF (w : World) (B r : Nat) (O : List Nat) (most mb : Int) (ps : List Pk) : Prop where
  Br : B ≤ r
  rO : r ∉ O
  BO : ∀ j ∈ O, B ≤ j
  Ol : ∀ j ∈ O, j < w.heap.size
  cap : most ≤ 64 ∧ mb ≤ 262144
  hl : ps.length ≤ 64
  ok : ∀ p ∈ ps, vld p = true
  row : ∃ A c, Blk w r 50 #[.int .i64 most, .int .i64 mb, .slice A ps.length c] ∧ ps.length ≤ c ∧ c ≤ 9223372036854775807 ∧ RdP w O A ps
section
variable {w w' : World} {B r : Nat} {O : List Nat} {most mb : Int} {ps : List Pk}
theorem QF.chg {S : List Nat} (h : QF w B r O most mb ps) (hc : Chg S w w') (hs : r ∉ S) (hO : ∀ j ∈ O, j ∉ S) : QF w' B r O most mb ps := by
  obtain ⟨h1, h2, h3, h3l, h4, h6, h7, A, c, h9, h10, h11, h12⟩ := h
  exact ⟨h1, h2, h3, fun j hj => Nat.lt_of_lt_of_le (h3l j hj) hc.size, h4, h6, h7, A, c, h9.chg hc hs, h10, h11, h12.chg hc hO⟩
theorem QF.lt (h : QF w B r O most mb ps) : r < w.heap.size := by
  obtain ⟨A, c, h9, _⟩ := h.row
  exact h9.lt
theorem QF.drewN (h : QF w B r O most mb ps) (m : Nat) : QF (w.drewN m) B r O most mb ps := h.chg ((Chg.refl [] w).drewN m) (by simp) (by simp)
end

def capB (n k : Int) : Bool := decide (1 ≤ n ∧ n ≤ 64 ∧ 1 ≤ k ∧ k ≤ 262144)

set_option maxHeartbeats 1000000 in
theorem goodcaps_c (n k : Int) (w : World) : Calls Try.prog 34 #[.int .i64 n, .int .i64 k] w fun e w' => e = .returned (.bool (capB n k)) ∧ w = w' := by
  have HC := Lib.hid (show capB n k = decide (1 ≤ n ∧ n ≤ 64 ∧ 1 ≤ k ∧ k ≤ 262144) from rfl)
  go_enter Try.func34, Try.ntmps34
  go_wp2
  all_goals
    go_ret
    refine ⟨ret_bool ?_, rfl⟩
    rw [HC.out]
    first
      | exact (decide_eq_true (by omega)).symm
      | exact (decide_eq_false (by omega)).symm
      | exact decide_eq_decide.2 (by omega)
set_option maxHeartbeats 1000000 in
theorem capped_c (n k : Int) (w : World) : Calls Try.prog 27 #[.int .i64 n, .int .i64 k] w fun e w' => e = .returned (.bool (capB n k)) ∧ w = w' := by
  have HC := Lib.hid (show capB n k = decide (1 ≤ n ∧ n ≤ 64 ∧ 1 ≤ k ∧ k ≤ 262144) from rfl)
  go_enter Try.func27, Try.ntmps27
  go_wp2
  all_goals
    go_ret
    refine ⟨ret_bool ?_, rfl⟩
    rw [HC.out]
    first
      | exact (decide_eq_true (by omega)).symm
      | exact (decide_eq_false (by omega)).symm
      | exact decide_eq_decide.2 (by omega)

set_option maxHeartbeats 400000 in
theorem qfnew_raw (n k : Int) (hc : capB n k = true) (w : World) :
    Calls Try.prog 22 #[.int .i64 n, .int .i64 k] w fun e w' => e = .returned (.tuple #[.pointer (some ⟨w.heap.size, 0, none⟩), .int .i64 0]) ∧
      ∃ m, w' = (w.alloc (.cells #[.int .i64 n, .int .i64 k, .slice none 0 0] 50)).drewN m := by
  have HG := Lib.hid (goodcaps_c n k)
  rw [hc] at HG
  clear hc
  go_enter Try.func22, Try.ntmps22
  go_wp2_with fail
  refine (HG.out _).mono ?_
  rintro e w' ⟨rfl, rfl⟩
  go_wp2_with fail
  go_ret2
  exact ⟨rfl, 0, rfl⟩
theorem qfnew_c (n k : Int) (hc : capB n k = true) (w : World) {B : Nat} (hB : B ≤ w.heap.size) :
    Calls Try.prog 22 #[.int .i64 n, .int .i64 k] w fun e w' => ∃ r, e = .returned (.tuple #[.pointer (some ⟨r, 0, none⟩), .int .i64 0]) ∧ QF w' B r [] n k [] ∧ w.heap.size ≤ r ∧ Chg [] w w' := by
  have hcc := of_decide_eq_true (show decide _ = true from hc)
  refine (qfnew_raw n k hc w).mono ?_
  rintro e w' ⟨rfl, m, rfl⟩
  exact ⟨w.heap.size, rfl, ⟨hB, by simp, by simp, by simp, ⟨hcc.2.1, hcc.2.2.2⟩, by simp, by simp, none, 0, (Blk.new _ _ _).drewN m, by simp, by omega, .inl ⟨rfl, rfl⟩⟩, Nat.le_refl _, ((Chg.refl _ _).alloc _).drewN m⟩
set_option maxHeartbeats 400000 in
theorem qfnew_bad (n k : Int) (hc : capB n k = false) (w : World) :
    Calls Try.prog 22 #[.int .i64 n, .int .i64 k] w fun e w' => e = .returned (.tuple #[.pointer none, .int .i64 1]) ∧ Chg [] w w' := by
  have HG := Lib.hid (goodcaps_c n k)
  rw [hc] at HG
  clear hc
  go_enter Try.func22, Try.ntmps22
  go_wp2_with fail
  refine (HG.out _).mono ?_
  rintro e w' ⟨rfl, rfl⟩
  go_wp2_with fail
  go_ret2
  exact ⟨rfl, Chg.refl _ _⟩
set_option maxHeartbeats 400000 in
theorem qnew_bad (n k : Int) (hc : capB n k = false) (w : World) :
    Calls Try.prog 12 #[.int .i64 n, .int .i64 k] w fun e w' => e = .returned (.tuple #[.pointer none, .int .i64 1]) ∧ Chg [] w w' := by
  have HG := Lib.hid (capped_c n k)
  rw [hc] at HG
  clear hc
  go_enter Try.func12, Try.ntmps12
  go_wp2_with fail
  refine (HG.out _).mono ?_
  rintro e w' ⟨rfl, rfl⟩
  go_wp2_with fail
  go_ret2
  exact ⟨rfl, Chg.refl _ _⟩
set_option maxHeartbeats 400000 in
theorem qcaps_bad (q : Nat) (n k : Int) (hc : capB n k = false) (w : World) :
    Calls Try.prog 14 #[.pointer (some ⟨q, 0, none⟩), .int .i64 n, .int .i64 k] w fun e w' => e = .returned (.int .i64 1) ∧ Chg [] w w' := by
  have HG := Lib.hid (capped_c n k)
  rw [hc] at HG
  clear hc
  go_enter Try.func14, Try.ntmps14
  go_wp2_with fail
  refine (HG.out _).mono ?_
  rintro e w' ⟨rfl, rfl⟩
  go_wp2_with fail
  go_ret
  exact ⟨rfl, Chg.refl _ _⟩
set_option maxHeartbeats 400000 in
theorem qfcaps_bad (q : Nat) (n k : Int) (hc : capB n k = false) (w : World) :
    Calls Try.prog 26 #[.pointer (some ⟨q, 0, none⟩), .int .i64 n, .int .i64 k] w fun e w' => e = .returned (.int .i64 1) ∧ Chg [] w w' := by
  have HG := Lib.hid (goodcaps_c n k)
  rw [hc] at HG
  clear hc
  go_enter Try.func26, Try.ntmps26
  go_wp2_with fail
  refine (HG.out _).mono ?_
  rintro e w' ⟨rfl, rfl⟩
  go_wp2_with fail
  go_ret
  exact ⟨rfl, Chg.refl _ _⟩

section
variable {w : World} {B r : Nat} {O : List Nat} {most mb : Int} {ps : List Pk}
set_option maxHeartbeats 1000000 in
theorem qfcaps_c (h : QF w B r O most mb ps) (n k : Int) (hc : capB n k = true) :
    Calls Try.prog 26 #[.pointer (some ⟨r, 0, none⟩), .int .i64 n, .int .i64 k] w fun e w' => e = .returned (.int .i64 0) ∧ QF w' B r O n k ps ∧ Chg [r] w w' := by
  have hcc := of_decide_eq_true (show decide _ = true from hc)
  have HG := Lib.hid (goodcaps_c n k)
  rw [hc] at HG
  have HH := Lib.hid h
  obtain ⟨A, c, h9, h10⟩ := h.row
  have c0 := (h9.cell 0).trans rfl
  have c1 := (h9.cell 1).trans rfl
  have f0 := h9.frozen 0
  have f1 := h9.frozen 1
  have H9 := Lib.hid h9
  have H10 := Lib.hid h10
  clear hc h h9 h10
  go_enter Try.func26, Try.ntmps26
  go_wp2_with fail
  refine (HG.out _).mono ?_
  rintro e w' ⟨rfl, rfl⟩
  go_wp2_with fail
  try go_region
  all_goals
    go_wp2_with fail
    go_ret
    have hh := HH.out
    have h10 := H10.out
    have hc1 : Chg [r] w ((w.setCell ⟨r, 0, none⟩ (.int .i64 n)).setCell ⟨r, 1, none⟩ (.int .i64 k)) := ((Chg.refl [r] w).setCell (by simp) _).setCell (by simp) _
    have hb := (H9.out.set_ 0 (.int .i64 n)).set_ 1 (.int .i64 k)
    simp only [List.setIfInBounds_toArray, List.set_cons_zero, List.set_cons_succ] at hb
    have hrd := h10.2.2.chg hc1 (fun j hj => by simp; rintro rfl; exact hh.rO hj)
    exact ⟨rfl, ⟨hh.Br, hh.rO, hh.BO, fun j hj => by have := hh.Ol j hj; have := hc1.size; omega, ⟨hcc.2.1, hcc.2.2.2⟩, hh.hl, hh.ok, A, c, by repeat (first | exact hb | refine Blk.drew ?_), h10.1, h10.2.1, hrd.chg (S := []) (by repeat (first | exact Chg.refl _ _ | refine Chg.drew ?_)) (by simp)⟩, by repeat (first | exact hc1 | refine Chg.drew ?_)⟩

set_option maxHeartbeats 1000000 in
theorem qfbytes_c (h : QF w B r O most mb ps) :
    Calls Try.prog 24 #[.pointer (some ⟨r, 0, none⟩)] w fun e w' => e = .returned (.int .i64 (tot ps)) ∧ Chg [] w w' := by
  obtain ⟨A, c, h9, h10, h11, h12⟩ := h.row
  have hl := h.hl
  have HOK := Lib.hid h.ok
  obtain ⟨n, hn⟩ : ∃ n, ps.length = n := ⟨_, rfl⟩
  rw [hn] at h9 hl
  have e2 := (h9.cell 2).trans rfl
  have HN := Lib.hid hn
  have HR := Lib.hid h12
  clear h h9 h10 h11 h12 hn
  go_enter Try.func24, Try.ntmps24
  go_wp2_with fail
  go_loopw [3, 4] (fun v3 v4 wr => ∃ (k : Nat) (t : Int), k ≤ n ∧ v4 = .int .i64 k ∧ v3 = .int .i64 t ∧ Hid (t = tot (ps.take k)) ∧ 0 ≤ t ∧ t ≤ 4096 * k ∧ Chg [] w wr) (fun _ v _ => n - (intOf v).toNat)
  case atStart => exact ⟨0, 0, by omega, rfl, rfl, Lib.hid (by simp [tot]), by omega, by omega, Chg.refl _ _⟩
  case round =>
    obtain ⟨k, t, hk, rfl, rfl, HT, ht0, ht1, hc⟩ := hrel
    have e3 := (hc.cell (p := ⟨r, 2, none⟩) (block_lt_of_cell e2) (by simp)).trans e2
    have HC := Lib.hid hc
    by_cases hlt : k < n
    · have hkl : k < ps.length := by have := HN.out; omega
      obtain ⟨g, off, rfl, _, hgl, c0, c1, c2, c3, c4⟩ := (HR.out.chg hc (by simp)).at_ hkl
      have HS := Lib.hid (show tot (ps.take (k + 1)) = tot (ps.take k) + (pkAt ps k).l from by rw [take_snoc hkl, tot_append]; simp [tot])
      have hv := vld_len (HOK.out (pkAt ps k) (by unfold pkAt; rw [List.getD_eq_getElem?_getD, List.getElem?_eq_getElem hkl]; simp))
      generalize pkAt ps k = p at c0 c1 c2 c3 c4 HS hv
      have hI : (k : Int) < (n : Int) := by omega
      have hJ : (0 : Int) ≤ (k : Int) := by omega
      have hv1 := hv.1
      have hv2 := hv.2.1
      clear hv hc c0 c1 c3 c4
      go_wp2_with fail
      go_roundw
      case rel => exact ⟨k + 1, t + p.l, by omega, by go_num, rfl, Lib.hid (by rw [HS.out, HT.out]), by omega, by omega, HC.out⟩
      case measure => simp [intOf]; omega
    · have hge : (n : Int) ≤ (k : Int) := by omega
      have HF := Lib.hid (show t = tot ps from by have := HT.out; rwa [List.take_of_length_le (by have := HN.out; omega)] at this)
      clear hc
      go_wp2_with fail
      go_ret
      exact ⟨ret_int HF.out, HC.out⟩

set_option maxHeartbeats 1000000 in
theorem qfclear_c (h : QF w B r O most mb ps) :
    Calls Try.prog 38 #[.pointer (some ⟨r, 0, none⟩)] w fun e w' => ∃ A c, e = .returned (.slice A ps.length c) ∧ RdP w' O A ps ∧ QF w' B r [] most mb [] ∧ Chg [r] w w' := by
  have HH := Lib.hid h
  obtain ⟨A, c, h9, h10⟩ := h.row
  have e2 := (h9.cell 2).trans rfl
  have f2 := h9.frozen 2
  have H9 := Lib.hid h9
  have H10 := Lib.hid h10
  clear h h9 h10
  go_enter Try.func38, Try.ntmps38
  go_wp2_with fail
  go_ret
  have hh := HH.out
  have hc1 : Chg [r] w (w.setCell ⟨r, 2, none⟩ (.slice none 0 0)) := (Chg.refl [r] w).setCell (by simp) _
  have hb := H9.out.set_ 2 (.slice none 0 0)
  simp only [List.setIfInBounds_toArray, List.set_cons_zero, List.set_cons_succ] at hb
  exact ⟨A, c, rfl, H10.out.2.2.chg hc1 (fun j hj => by simp; rintro rfl; exact hh.rO hj), ⟨hh.Br, by simp, by simp, by simp, hh.cap, by simp, by simp, none, 0, hb, by simp, by omega, .inl ⟨rfl, rfl⟩⟩, hc1⟩
end

end Go.Proofs.Ytdlehpohpdepkaa
