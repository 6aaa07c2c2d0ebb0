/- The reference's sender: Drop. -/
import Derived.Test.YtgkhendbpehagaaSe
namespace Go.Proofs.Ytgkhendbpehagaa
open Go.RowKit
set_option linter.unusedVariables false
set_option linter.unusedSimpArgs false

theorem sflat_take (ps : List Sn) : ∀ k, (ps.flatMap snC).take (k * 3) = (ps.take k).flatMap snC := by
  induction ps with
  | nil => intro k; simp
  | cons p r ih =>
    intro k
    cases k with
    | zero => simp
    | succ k =>
      have := ih k
      rw [List.take_succ_cons, List.flatMap_cons, List.flatMap_cons, ← this, show (k + 1) * 3 = k * 3 + 1 + 1 + 1 from by omega]
      simp [snC]
theorem sflat_drop (ps : List Sn) : ∀ k, (ps.flatMap snC).drop (k * 3) = (ps.drop k).flatMap snC := by
  induction ps with
  | nil => intro k; simp
  | cons p r ih =>
    intro k
    cases k with
    | zero => simp
    | succ k =>
      have := ih k
      rw [List.drop_succ_cons, ← this, List.flatMap_cons, show (k + 1) * 3 = k * 3 + 1 + 1 + 1 from by omega]
      simp [snC]

set_option maxRecDepth 100000 in
set_option maxHeartbeats 4000000 in
theorem rdrop_c {w : World} {B s : Nat} {O : List Nat} {wd tr nx : Int} {ps : List Sn} (h : RA w B s O wd tr nx ps) (hB : B ≤ w.heap.size) (x : Int) {k : Nat} (hf : fnd x ps = some k) (hk : k < ps.length) :
    Calls Try.prog 37 #[.pointer (some ⟨s, 0, none⟩), .int .i64 x] w fun e w' => e = .returned (.tuple #[.int .i64 ps[k].i, .int .i64 0]) ∧ ∃ O', RA w' B s O' wd tr nx (ps.eraseIdx k) ∧ (∀ j ∈ O', w.heap.size ≤ j) ∧ Chg [s] w w' := by
  have HI := Lib.hid (rat_c h x)
  rw [show fndI x ps = k from by rw [fndI, hf]] at HI
  have HH := Lib.hid h
  have hl := h.hl
  have hsl := h.lt
  clear h hf
  obtain ⟨n, hn⟩ : ∃ n, ps.length = n := ⟨_, rfl⟩
  have HN := Lib.hid hn
  have hkn : k < n := by omega
  rw [hn] at hl
  go_enter Try.func37, Try.ntmps37
  go_wp2_with fail
  refine HI.out.mono ?_
  rintro e w1 ⟨rfl, hc⟩
  have HH1 := Lib.hid (HH.out.chg hc (by simp) (by simp))
  have hz := hc.size
  obtain ⟨A, c, h9, h10, h11⟩ := HH1.out.row
  rw [hn] at h9 h10
  have e3 := (h9.cell 3).trans rfl
  have f3 := h9.frozen 3
  have hsl1 := h9.lt
  have hr := Reads.of_own h10
  obtain ⟨g, rfl, hg, hr0⟩ := own_some (by simpa using h10) hk
  have hcn : n ≤ c := by have := hr0.1; omega
  have e2 := (row_sn hr0 hk).2.1
  have HC := Lib.hid hc
  clear hc h10 h11 h9 hn
  obtain ⟨A2, hA2, hr2⟩ : ∃ A2, (if c = k + 1 then some ({ block := g, off := 0 } : Addr) else some { block := g, off := (k + 1) * 3 }) = A2 ∧ Reads w1 w1.heap.size 3 A2 (n - (k + 1)) ((ps.flatMap snC).drop ((k + 1) * 3)) := by
    refine ⟨_, rfl, ?_⟩
    have := hr.cut (k := k + 1) (cap := c) (by omega) hcn
    simpa [Addr.add] using this
  have hr1 : Reads w1 w1.heap.size 3 (some ({ block := g, off := 0 } : Addr)) k ((ps.flatMap snC).take (k * 3)) := by
    have := hr.pre (k := k) (by omega)
    simpa using this
  have hone := snCells.flat_one ps
  have hone1 : ∀ u ∈ (ps.flatMap snC).take (k * 3), u.oneCell' = true := fun u hu => hone u (List.mem_of_mem_take hu)
  have hone2 : ∀ u ∈ (ps.flatMap snC).drop ((k + 1) * 3), u.oneCell' = true := fun u hu => hone u (List.mem_of_mem_drop hu)
  have hE := own_drew (own_empty w1 39 3 w1.heap.size (Nat.le_refl _))
  have hR1 := (hr1.alloc (Nat.le_refl _) (.cells #[] 39)).drew
  have hR2 := (hr2.alloc (Nat.le_refl _) (.cells #[] 39)).drew
  have hb0 : (k : Int) < (n : Int) := by omega
  have hb1 : (k : Int) ≤ (n : Int) := by omega
  have hb2 : (k : Int) + 1 ≤ (n : Int) := by omega
  have hb3 : (0 : Int) ≤ (k : Int) + 1 := by omega
  have hb4 : ((k : Int) + 1).toNat = k + 1 := by omega
  have hb5 : IntKind.i64.wrap ((k : Int) + 1) = (k : Int) + 1 := IntWalk.i64_in _ (by omega)
  have hb6 : (k : Int) ≤ (c : Int) := by omega
  have hb7 : (0 : Int) ≤ (k : Int) := by omega
  clear hr hr0 hr1 hr2 hone
  generalize hii : ps[k].i = ii at e2
  have HII := Lib.hid hii
  clear hii
  go_wp2_with fail
  go_region_law (first
    | (have hO2 := hown1; have hQ2 := hR2.grown hgrow1 (by simp) (by simp [Value.ownBlock]); have hZ2 := hgrow1.size; refine step_app (P := Try.prog) (t := 33) Try.underlying33 sn_info rfl (by omega) (.tmp 29) (.tmp 36) w1.heap.size (n := k) (m := n - (k + 1)) (N := k + (n - (k + 1))) rfl (by omega) hone2 (by omega) hO2 hQ2 (by simp at hZ2; omega) (by rfl) (by rfl) (by rfl) (by rfl) ?_; clear hO2 hQ2 hZ2; intro A3 d3 W3 hown3 hgrow3 hat3; have q3 := q1.grown hgrow3 hv1; have e5 := (q3.cell (p := ⟨s, 3, none⟩) hsl1 (by simp)).trans e3; have f5 := (q3.frozen (p := ⟨s, 3, none⟩) hsl1 (by simp)).trans f3)
    | (refine step_app (P := Try.prog) (t := 33) Try.underlying33 sn_info rfl (by omega) (.tmp 22) (.tmp 28) w1.heap.size (n := 0) (m := k) (N := k) (Nat.zero_add _) (by omega) hone1 (by omega) hE hR1 (by simp) (by rfl) (by rfl) (by rfl) (by rfl) ?_; intro A1 d1 W1 hown1 hgrow1 hat1; have q1 := (((Chg.refl [] w1).alloc (.cells #[] 39)).drew).grown hgrow1 (by simp [Value.ownBlock]); have hv1 := own_new1 (S := []) hat1; have e4 := (q1.cell (p := ⟨s, 3, none⟩) hsl1 (by simp)).trans e3; have f4 := (q1.frozen (p := ⟨s, 3, none⟩) hsl1 (by simp)).trans f3))
  all_goals
    go_wp2_with fail
    go_ret2
    have hn := HN.out
    have hx : ([] ++ (ps.flatMap snC).take (k * 3)) ++ (ps.flatMap snC).drop ((k + 1) * 3) = (ps.eraseIdx k).flatMap snC := by
      rw [sflat_take, sflat_drop, List.nil_append, ← List.flatMap_append, List.eraseIdx_eq_take_drop_succ]
    rw [hx] at hown3
    obtain ⟨r1, r2, r3⟩ := HH1.out.put (ps' := ps.eraseIdx k) (by omega) q3 hown3 (by rw [List.length_eraseIdx]; split <;> omega) (fun p hp => HH.out.ok p (List.mem_of_mem_eraseIdx hp))
    exact ⟨by rw [HII.out]; rfl, _, r1, fun j hj => by have := r2 j hj; omega, (HC.out.mono (S' := [s]) (by simp)).trans r3 (by simp)⟩

end Go.Proofs.Ytgkhendbpehagaa
