/- The reference's receiver: take. -/
import Derived.Test.YtgkdlplocahnnaaRp
namespace Go.Proofs.Ytgkdlplocahnnaa
open Go.RowKit Go.Maps
set_option linter.unusedVariables false
set_option linter.unusedSimpArgs false

theorem own_somh {w : World} {B n c k : Nat} {A : Option Addr} {ps : List Hd} (h : w.ownsRow B 70 2 (.slice A n c) n (ps.flatMap hdC)) (hk : k < ps.length) : ∃ g, A = some ⟨g, 0, none⟩ ∧ B ≤ g ∧ Row w g 70 2 c hdC ps := by
  rcases (own_row hdCells (by omega) h).2 with ⟨_, _, h0⟩ | h1
  · rw [h0] at hk; simp at hk
  · exact h1

set_option maxHeartbeats 1000000 in
theorem take_none {w : World} {B s : Nat} {O : List Nat} {wd x : Int} {ps : List Hd} (h : RF w B s O wd x ps) (q : Int) (hq : ∀ j (hj : j < ps.length), ps[j].q ≠ q) :
    Calls Try.prog 34 #[.pointer (some ⟨s, 0, none⟩), .int .i64 q] w fun e w' => e = .returned (.int .i64 0) ∧ Chg [] w w' := by
  obtain ⟨A, c, h9, h10⟩ := h.split
  have hl := h.hl
  have e3 := (h9.cell 2).trans rfl
  obtain ⟨n, hn⟩ : ∃ n, ps.length = n := ⟨_, rfl⟩
  have HN := Lib.hid hn
  have HQ := Lib.hid hq
  rw [hn] at e3 hl
  clear hn h9 h hq
  go_enter Try.func34, Try.ntmps34
  go_wp2
  go_loopw [5] (fun i wr => ∃ k : Nat, k ≤ n ∧ i = .int .i64 k ∧ Chg [] w wr) (fun i _ => n - (intOf i).toNat)
  case atStart => exact ⟨0, Nat.zero_le _, rfl, Chg.refl _ _⟩
  case round =>
    obtain ⟨k, hk, rfl, hc⟩ := hrel
    have e4 := (hc.cell (p := ⟨s, 2, none⟩) (block_lt_of_cell e3) (by simp)).trans e3
    by_cases hlt : k < n
    · have hkl : k < ps.length := by have := HN.out; omega
      rcases h10 with ⟨_, _, h0⟩ | ⟨g, rfl, hg, hgO, hgs, hr⟩
      · exact absurd hkl (by rw [h0]; simp)
      · have hr' := hr.chg hc (by simp)
        obtain ⟨c0, c1⟩ := row_hd hr' hkl
        have hq' : (ps[k].q == q) = false := by simpa using HQ.out k hkl
        generalize ps[k] = p at c0 c1 hq'
        have hI : (k : Int) < (n : Int) := by omega
        have hJ : (0 : Int) ≤ (k : Int) := by omega
        go_wp2_with fail
        go_roundw
        case rel => exact ⟨k + 1, by omega, by go_num, hc⟩
        case measure => simp [intOf]; omega
    · have hge : (n : Int) ≤ (k : Int) := by omega
      go_wp2_with fail
      go_ret
      exact ⟨rfl, hc⟩

set_option maxRecDepth 100000 in
set_option maxHeartbeats 8000000 in
theorem take_c {w : World} {B s : Nat} {O : List Nat} {wd x : Int} {ps : List Hd} (h : RF w B s O wd x ps) (hB : B ≤ w.heap.size) (q : Int) {k : Nat} (hk : k < ps.length) (hkq : ps[k].q = q) (hbef : ∀ j (hj : j < ps.length), j < k → ps[j].q ≠ q) :
    Calls Try.prog 34 #[.pointer (some ⟨s, 0, none⟩), .int .i64 q] w fun e w' => e = .returned (.int .i64 ps[k].i) ∧ ∃ O', RF w' B s O' wd x (ps.eraseIdx k) ∧ (∀ j ∈ O', w.heap.size ≤ j) ∧ Chg [s] w w' := by
  have HH := Lib.hid h
  have hl := h.hl
  have hsl := h.lt
  obtain ⟨n, hn⟩ : ∃ n, ps.length = n := ⟨_, rfl⟩
  have HN := Lib.hid hn
  have hkn : k < n := by omega
  obtain ⟨A, c, h9, h10, h11⟩ := h.row
  rw [hn] at h9 h10 hl
  have e3 := (h9.cell 2).trans rfl
  obtain ⟨g, rfl, hg, hr0⟩ := own_somh h10 hk
  have HR := Lib.hid (Reads.of_own h10)
  have HR0 := Lib.hid hr0
  have H9 := Lib.hid h9
  have HKQ := Lib.hid hkq
  have HBE := Lib.hid hbef
  have hcn : n ≤ c := by have := hr0.1; omega
  clear h h9 h10 h11 hr0 hn hkq hbef
  go_enter Try.func34, Try.ntmps34
  go_wp2_with fail
  go_loopw [5] (fun i wr => ∃ j : Nat, j ≤ k ∧ i = .int .i64 j ∧ Chg [] w wr) (fun i _ => n - (intOf i).toNat)
  case atStart => exact ⟨0, Nat.zero_le _, rfl, Chg.refl _ _⟩
  case round =>
    obtain ⟨j, hj, rfl, hc⟩ := hrel
    have e4 := (hc.cell (p := ⟨s, 2, none⟩) (block_lt_of_cell e3) (by simp)).trans e3
    have hjl : j < ps.length := by have := HN.out; omega
    obtain ⟨c0, c1⟩ := row_hd (HR0.out.chg hc (by simp)) hjl
    have hI : (j : Int) < (n : Int) := by omega
    have hJ : (0 : Int) ≤ (j : Int) := by omega
    by_cases hjk : j < k
    · have hq' : (ps[j].q == q) = false := by simpa using HBE.out j hjl hjk
      generalize ps[j] = p at c0 c1 hq'
      have HC := Lib.hid hc
      clear hc
      go_wp2_with fail
      go_roundw
      case rel => exact ⟨j + 1, by omega, by go_num, HC.out⟩
      case measure => simp [intOf]; omega
    · obtain rfl : j = k := by omega
      rw [HKQ.out] at c0
      have f3 := (H9.out.chg hc (by simp)).frozen 2
      have hz := hc.size
      have hsl1 : s < wr.heap.size := by omega
      have hr := HR.out
      have hr := (hr.keep (w' := wr) (fun p hp => hc.cell hp (by simp))).more hz
      have HH1 := Lib.hid (HH.out.chg hc (by simp) (by simp))
      have HC := Lib.hid hc
      clear hc
      obtain ⟨A2, hA2, hr2⟩ : ∃ A2, (if c = j + 1 then some ({ block := g, off := 0 } : Addr) else some { block := g, off := (j + 1) * 2 }) = A2 ∧ Reads wr wr.heap.size 2 A2 (n - (j + 1)) ((ps.flatMap hdC).drop ((j + 1) * 2)) := by
        refine ⟨_, rfl, ?_⟩
        have := hr.cut (k := j + 1) (cap := c) (by omega) hcn
        simpa [Addr.add] using this
      have hr1 : Reads wr wr.heap.size 2 (some ({ block := g, off := 0 } : Addr)) j ((ps.flatMap hdC).take (j * 2)) := by
        have := hr.pre (k := j) (by omega)
        simpa using this
      have hone := hdCells.flat_one ps
      have hone1 : ∀ u ∈ (ps.flatMap hdC).take (j * 2), u.oneCell' = true := fun u hu => hone u (List.mem_of_mem_take hu)
      have hone2 : ∀ u ∈ (ps.flatMap hdC).drop ((j + 1) * 2), u.oneCell' = true := fun u hu => hone u (List.mem_of_mem_drop hu)
      have hE := own_drew (own_empty wr 70 2 wr.heap.size (Nat.le_refl _))
      have hR1 := (hr1.alloc (Nat.le_refl _) (.cells #[] 70)).drew
      have hR2 := (hr2.alloc (Nat.le_refl _) (.cells #[] 70)).drew
      have hb1 : (j : Int) ≤ (n : Int) := by omega
      have hb2 : (j : Int) + 1 ≤ (n : Int) := by omega
      have hb3 : (0 : Int) ≤ (j : Int) + 1 := by omega
      have hb4 : ((j : Int) + 1).toNat = j + 1 := by omega
      have hb5 : IntKind.i64.wrap ((j : Int) + 1) = (j : Int) + 1 := IntWalk.i64_in _ (by omega)
      have hb6 : (j : Int) ≤ (c : Int) := by omega
      clear hr hr1 hr2 hone
      generalize hii : ps[j].i = ii at c1
      have HII := Lib.hid hii
      clear hii
      go_wp2_with fail
      go_region_law (first
        | (have hO2 := hown1; have hQ2 := hR2.grown hgrow1 (by simp) (by simp [Value.ownBlock]); have hZ2 := hgrow1.size; refine step_app (P := Try.prog) (t := 46) Try.underlying46 hd_info rfl (by omega) (.tmp 42) (.tmp 49) wr.heap.size (n := j) (m := n - (j + 1)) (N := j + (n - (j + 1))) rfl (by omega) hone2 (by omega) hO2 hQ2 (by simp at hZ2; omega) (by rfl) (by rfl) (by rfl) (by rfl) ?_; clear hO2 hQ2 hZ2; intro A3 d3 W3 hown3 hgrow3 hat3; have q3 := q1.grown hgrow3 hv1; have e5 := (q3.cell (p := ⟨s, 2, none⟩) hsl1 (by simp)).trans e4; have f5 := (q3.frozen (p := ⟨s, 2, none⟩) hsl1 (by simp)).trans f3)
        | (refine step_app (P := Try.prog) (t := 46) Try.underlying46 hd_info rfl (by omega) (.tmp 35) (.tmp 41) wr.heap.size (n := 0) (m := j) (N := j) (Nat.zero_add _) (by omega) hone1 (by omega) hE hR1 (by simp) (by rfl) (by rfl) (by rfl) (by rfl) ?_; intro A1 d1 W1 hown1 hgrow1 hat1; have q1 := (((Chg.refl [] wr).alloc (.cells #[] 70)).drew).grown hgrow1 (by simp [Value.ownBlock]); have hv1 := own_new1 (S := []) hat1; have e6 := (q1.cell (p := ⟨s, 2, none⟩) hsl1 (by simp)).trans e4; have f6 := (q1.frozen (p := ⟨s, 2, none⟩) hsl1 (by simp)).trans f3))
      all_goals
        go_wp2_with fail
        go_ret
        have hn := HN.out
        have hx : ([] ++ (ps.flatMap hdC).take (j * 2)) ++ (ps.flatMap hdC).drop ((j + 1) * 2) = (ps.eraseIdx j).flatMap hdC := by
          rw [hflat_take, hflat_drop, List.nil_append, ← List.flatMap_append, List.eraseIdx_eq_take_drop_succ]
        rw [hx] at hown3
        obtain ⟨r1, r2, r3⟩ := HH1.out.put (ps' := ps.eraseIdx j) (by omega) q3 hown3 (by rw [List.length_eraseIdx]; split <;> omega)
        exact ⟨by rw [HII.out]; rfl, _, r1, fun i hi => by have := r2 i hi; omega, (HC.out.mono (S' := [s]) (by simp)).trans r3 (by simp)⟩

end Go.Proofs.Ytgkdlplocahnnaa
