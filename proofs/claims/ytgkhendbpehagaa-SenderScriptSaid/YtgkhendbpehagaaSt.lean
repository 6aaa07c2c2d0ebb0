/- The reference's sender: Send, and Drop of a number that is not there. -/
import Derived.Test.YtgkhendbpehagaaSs
import Derived.BigQuiet
namespace Go.Proofs.Ytgkhendbpehagaa
open Go.RowKit
set_option linter.unusedVariables false
set_option linter.unusedSimpArgs false

section
variable {w : World} {B s : Nat} {O : List Nat} {wd tr nx : Int} {ps : List Sn}
set_option maxHeartbeats 1000000 in
theorem rsend_none (h : RA w B s O wd tr nx ps) (x : Int) (hf : fnd x ps = none) :
    Calls Try.prog 35 #[.pointer (some ⟨s, 0, none⟩), .int .i64 x] w fun e w' => e = .returned (.tuple #[.int .i64 0, .int .i64 6]) ∧ Chg [] w w' := by
  have HI := Lib.hid (rat_c h x)
  rw [show fndI x ps = -1 from by rw [fndI, hf]] at HI
  clear h hf
  go_enter Try.func35, Try.ntmps35
  go_wp2_with fail
  refine HI.out.mono ?_
  rintro e w' ⟨rfl, hc⟩
  go_wp2_with fail
  go_ret2
  exact ⟨rfl, hc⟩

set_option maxHeartbeats 1000000 in
theorem rdrop_none (h : RA w B s O wd tr nx ps) (x : Int) (hf : fnd x ps = none) :
    Calls Try.prog 37 #[.pointer (some ⟨s, 0, none⟩), .int .i64 x] w fun e w' => e = .returned (.tuple #[.int .i64 0, .int .i64 6]) ∧ Chg [] w w' := by
  have HI := Lib.hid (rat_c h x)
  rw [show fndI x ps = -1 from by rw [fndI, hf]] at HI
  clear h hf
  go_enter Try.func37, Try.ntmps37
  go_wp2_with fail
  refine HI.out.mono ?_
  rintro e w' ⟨rfl, hc⟩
  go_wp2_with fail
  go_ret2
  exact ⟨rfl, hc⟩

set_option maxHeartbeats 1000000 in
theorem rsend_done (h : RA w B s O wd tr nx ps) (x : Int) {k : Nat} (hf : fnd x ps = some k) (hk : k < ps.length) (ht : ps[k].t = tr) :
    Calls Try.prog 35 #[.pointer (some ⟨s, 0, none⟩), .int .i64 x] w fun e w' => e = .returned (.tuple #[.int .i64 0, .int .i64 14]) ∧ Chg [] w w' := by
  have HI := Lib.hid (rat_c h x)
  rw [show fndI x ps = k from by rw [fndI, hf]] at HI
  obtain ⟨A, c, h9, h10⟩ := h.split
  rcases h10 with ⟨_, _, h0⟩ | ⟨g, rfl, hg, hgO, hgs, hr⟩
  · subst h0; simp at hk
  · have HR := Lib.hid hr
    have H9 := Lib.hid h9
    have HT := Lib.hid ht
    clear h hf ht hr h9
    have hI : (k : Int) < (ps.length : Int) := by omega
    have hJ : (0 : Int) ≤ (k : Int) := by omega
    go_enter Try.func35, Try.ntmps35
    go_wp2_with fail
    refine HI.out.mono ?_
    rintro e w' ⟨rfl, hc⟩
    have hs := H9.out.chg hc (by simp)
    have e3 := (hs.cell 3).trans rfl
    have e1 := (hs.cell 1).trans rfl
    have e2 := (row_sn (HR.out.chg hc (by simp)) hk).2.2
    rw [HT.out] at e2
    clear hs
    go_wp2_with fail
    go_quiet (fail)
    go_wp2_with fail
    go_ret2
    exact ⟨rfl, hc.drewN _⟩

end

theorem RA.of_row {w w' : World} {B s g c : Nat} {O : List Nat} {wd tr nx nx' : Int} {ps ps' : List Sn} (h : RA w B s O wd tr nx ps) (hb : Blk w' s 50 #[.int .i64 wd, .int .i64 tr, .int .i64 nx', .slice (some ⟨g, 0, none⟩) ps'.length c])
    (hr : Row w' g 39 3 c snC ps') (hg : B ≤ g) (hgO : g ∈ O) (hn : 0 ≤ nx' ∧ nx' < 65536) (hl : ps'.length ≤ 1000) (hok : ∀ p ∈ ps', okSn p) (hsz : w.heap.size ≤ w'.heap.size) : RA w' B s O wd tr nx' ps' :=
  ⟨h.Bs, h.sO, h.BO, fun j hj => Nat.lt_of_lt_of_le (h.Ol j hj) hsz, h.hw, h.ht, hn, hl, hok, _, c, hb, hr.own snCells hg, fun j hj => by
    have := mem_ownL.1 hj
    simp [Value.ownBlock] at this
    subst this
    exact hgO⟩


theorem own_some {w : World} {B n c k : Nat} {A : Option Addr} {ps : List Sn} (h : w.ownsRow B 39 3 (.slice A n c) n ([] ++ ps.flatMap snC)) (hk : k < ps.length) : ∃ g, A = some ⟨g, 0, none⟩ ∧ B ≤ g ∧ Row w g 39 3 c snC ps := by
  rw [List.nil_append] at h
  rcases (own_row snCells (by omega) h).2 with ⟨_, _, h0⟩ | h1
  · rw [h0] at hk; simp at hk
  · exact h1

set_option maxRecDepth 100000 in
set_option maxHeartbeats 2000000 in
theorem rsend_c {w : World} {B s : Nat} {O : List Nat} {wd tr nx : Int} {ps : List Sn} (h : RA w B s O wd tr nx ps) (hB : B ≤ w.heap.size) (x : Int) {k : Nat} (hf : fnd x ps = some k) (hk : k < ps.length) (ht : ps[k].t < tr) :
    Calls Try.prog 35 #[.pointer (some ⟨s, 0, none⟩), .int .i64 x] w fun e w' => e = .returned (.tuple #[.int .i64 (ps[k].t + 1), .int .i64 0]) ∧ ∃ O', RA w' B s O' wd tr nx (bump ps k) ∧ (∀ j ∈ O', w.heap.size ≤ j) ∧ Chg [s] w w' := by
  have HI := Lib.hid (rat_c h x)
  rw [show fndI x ps = k from by rw [fndI, hf]] at HI
  have HH := Lib.hid h
  have htr := h.ht
  have ht0 := (h.ok ps[k] (by simp)).2.2
  have hl := h.hl
  have hsl := h.lt
  clear h hf
  have hI : (k : Int) < (ps.length : Int) := by omega
  have hJ : (0 : Int) ≤ (k : Int) := by omega
  have hne : (ps[k].t == tr) = false := by rw [beq_eq_false_iff_ne]; omega
  have hone := snCells.flat_one ps
  go_enter Try.func35, Try.ntmps35
  go_wp2_with fail
  refine HI.out.mono ?_
  rintro e w1 ⟨rfl, hc⟩
  have HH1 := Lib.hid (HH.out.chg hc (by simp) (by simp))
  have hz := hc.size
  obtain ⟨A, c, h9, h10, h11⟩ := HH1.out.row
  have e1 := (h9.cell 1).trans rfl
  have e3 := (h9.cell 3).trans rfl
  have f3 := h9.frozen 3
  have hsl1 := h9.lt
  have hr := Reads.of_own h10
  obtain ⟨g, rfl, hg, hr0⟩ := own_some (by simpa using h10) hk
  have e2 := (row_sn hr0 hk).2.2
  have HC := Lib.hid hc
  have H9 := Lib.hid h9
  clear hc h10 h11 hr0 h9
  generalize htt : ps[k].t = t at ht ht0 hne e2 ⊢
  have HTT := Lib.hid htt
  clear htt
  go_wp2_with fail
  go_quiet (fail)
  go_wp2_with (at_builtin; refine list_app (P := Try.prog) (t := 33) Try.underlying33 sn_info rfl (by omega) (.tmp 26) (.tmp 30) w1.heap.size (n := 0) (m := ps.length) (N := ps.length) (Nat.zero_add _) (by omega) hone (by omega) (own_drewN (own_empty w1 39 3 w1.heap.size (Nat.le_refl _)) _) ((hr.alloc (Nat.le_refl _) _).drewN _) (by simp) (by rfl) (by rfl) (by rfl) (by rfl) ?_; intro A1 d1 W1 hown1 hgrow1 hat1; have q1 := (((Chg.refl [] w1).alloc (.cells #[] 39)).drewN _).grown hgrow1 (by simp [Value.ownBlock]); obtain ⟨g1, rfl, hg1, hr1⟩ := own_some hown1 hk; have e4 := (q1.cell (p := ⟨s, 3, none⟩) hsl1 (by simp)).trans e3; have f4 := (q1.frozen (p := ⟨s, 3, none⟩) hsl1 (by simp)).trans f3; have hgs : g1 ≠ s := (by omega); have hgs' : s ≠ g1 := (by omega); have c2 := (row_sn hr1 hk).2.2; rw [HTT.out] at c2; have k2 := hr1.frozen (k * 3 + 2); have gl := hr1.lt; have sl := q1.size)
  go_ret2
  have hok := HH.out.ok
  have hokk := hok ps[k] (by simp)
  obtain ⟨r1, r2, r3⟩ := HH1.out.put (ps' := ps) (by omega) q1 (by simpa using hown1) hl hok
  have hgO : g1 ∈ ownL (.slice (some ⟨g1, 0, none⟩) ps.length d1) := mem_ownL.2 rfl
  have hst : Chg [s] W1 (W1.setCell ⟨s, 3, none⟩ (.slice (some ⟨g1, 0, none⟩) ps.length d1)) := (Chg.refl [s] W1).setCell (by simp) _
  have b9 := (H9.out.chg q1 (by simp)).set_ 3 (.slice (some ⟨g1, 0, none⟩) ps.length d1)
  simp only [List.setIfInBounds_toArray, List.set_cons_succ, List.set_cons_zero] at b9
  have h9' := (b9.far (p := ⟨g1, k * 3 + 2, none⟩) hgs.symm (.int .i64 (t + 1)))
  have hr' := (hr1.chg hst (by simp; omega)).put (f := fun p => ⟨p.q, p.i, p.t + 1⟩) hk (r := 2) (by omega) (v := .int .i64 (t + 1)) (by
    intro j hj
    have hj3 : j = 0 ∨ j = 1 ∨ j = 2 := by omega
    rcases hj3 with rfl | rfl | rfl
    · rfl
    · rfl
    · simp [snC, HTT.out])
  have kE : Chg [s] w ((W1.setCell ⟨s, 3, none⟩ (.slice (some ⟨g1, 0, none⟩) ps.length d1)).setCell ⟨g1, k * 3 + 2, none⟩ (.int .i64 (t + 1))) := ((HC.out.mono (S' := [s]) (by simp)).trans r3 (by simp)).setCell (.inr (by simp only; omega)) _
  refine ⟨by rw [HTT.out]; rfl, ownL (.slice (some ⟨g1, 0, none⟩) ps.length d1), r1.of_row (ps' := bump ps k) (by simpa [bump] using h9') hr' (by omega) hgO r1.hn (by simpa [bump] using hl) (fun p hp => ?_) (by simp [World.setCell]), fun j hj => by have := r2 j hj; omega, kE⟩
  unfold bump at hp
  obtain ⟨j, hj, rfl⟩ := List.getElem_of_mem hp
  have hj' : j < ps.length := by simpa using hj
  rw [List.getElem_modify]
  split
  · rename_i hjk
    subst hjk
    exact ⟨hokk.1, hokk.2.1, by simp only; have := hokk.2.2; omega, by simp only; rw [HTT.out]; omega⟩
  · exact hok _ (by simp)

end Go.Proofs.Ytgkhendbpehagaa
