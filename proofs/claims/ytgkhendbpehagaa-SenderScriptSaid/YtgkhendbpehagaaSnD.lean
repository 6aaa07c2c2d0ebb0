/- The sender: Send, Drop. -/
import Derived.Test.YtgkhendbpehagaaSnF
import Derived.Test.YtgkhendbpehagaaDel
namespace Go.Proofs.Ytgkhendbpehagaa
open Go.RowKit
set_option linter.unusedVariables false
set_option linter.unusedSimpArgs false

section
variable {w : World} {B s : Nat} {O : List Nat} {wd tr nx : Int} {ps : List Sn}

set_option maxHeartbeats 1000000 in
theorem ssend_none (h : SA w B s O wd tr nx ps) (x : Int) (hf : fnd x ps = none) :
    Calls Try.prog 24 #[.pointer (some ⟨s, 0, none⟩), .int .i64 x] w fun e w' => e = .returned (.tuple #[.int .i64 0, .int .i64 6]) ∧ Chg [] w w' := by
  have HI := Lib.hid (sfind_c h x)
  rw [show fndI x ps = -1 from by rw [fndI, hf]] at HI
  clear h hf
  go_enter Try.func24, Try.ntmps24
  go_wp2_with fail
  refine HI.out.mono ?_
  rintro e w' ⟨rfl, hc⟩
  go_wp2_with fail
  go_ret2
  exact ⟨rfl, hc⟩

set_option maxHeartbeats 1000000 in
theorem sdrop_none (h : SA w B s O wd tr nx ps) (x : Int) (hf : fnd x ps = none) :
    Calls Try.prog 15 #[.pointer (some ⟨s, 0, none⟩), .int .i64 x] w fun e w' => e = .returned (.tuple #[.int .i64 0, .int .i64 6]) ∧ Chg [] w w' := by
  have HI := Lib.hid (sfind_c h x)
  rw [show fndI x ps = -1 from by rw [fndI, hf]] at HI
  clear h hf
  go_enter Try.func15, Try.ntmps15
  go_wp2_with fail
  refine HI.out.mono ?_
  rintro e w' ⟨rfl, hc⟩
  go_wp2_with fail
  go_ret2
  exact ⟨rfl, hc⟩

set_option maxHeartbeats 1000000 in
theorem ssend_done (h : SA w B s O wd tr nx ps) (x : Int) {k : Nat} (hf : fnd x ps = some k) (hk : k < ps.length) (ht : ps[k].t = tr) :
    Calls Try.prog 24 #[.pointer (some ⟨s, 0, none⟩), .int .i64 x] w fun e w' => e = .returned (.tuple #[.int .i64 0, .int .i64 14]) ∧ Chg [] w w' := by
  have HI := Lib.hid (sfind_c h x)
  rw [show fndI x ps = k from by rw [fndI, hf]] at HI
  obtain ⟨A, c, h9, h10⟩ := h.split
  rcases h10 with ⟨_, _, h0⟩ | ⟨g, rfl, hg, hgO, hgs, hr⟩
  · subst h0; simp at hk
  · have HR := Lib.hid hr
    have H9 := Lib.hid h9
    have HT := Lib.hid ht
    clear h hf ht hr h9
    have hI : (k : Int) < (ps.length : Int) := by omega
    have hJ : (0 : Int) ≤ (k : Int) := by omega
    go_enter Try.func24, Try.ntmps24
    go_wp2_with fail
    refine HI.out.mono ?_
    rintro e w' ⟨rfl, hc⟩
    have hs := H9.out.chg hc (by simp)
    have e3 := (hs.cell 3).trans rfl
    have e1 := (hs.cell 1).trans rfl
    have e2 := (row_sn (HR.out.chg hc (by simp)) hk).2.2
    rw [HT.out] at e2
    clear hs
    go_wp2_with fail
    go_quiet (fail)
    go_wp2_with fail
    go_ret2
    exact ⟨rfl, hc.drewN _⟩

set_option maxHeartbeats 1000000 in
theorem ssend_raw (h : SA w B s O wd tr nx ps) (x : Int) {k : Nat} (hf : fnd x ps = some k) (hk : k < ps.length) (ht : ps[k].t < tr) :
    Calls Try.prog 24 #[.pointer (some ⟨s, 0, none⟩), .int .i64 x] w fun e w' => e = .returned (.tuple #[.int .i64 (ps[k].t + 1), .int .i64 0]) ∧
      ∃ g c W m, B ≤ g ∧ g ∈ O ∧ g ≠ s ∧ Blk w s 56 #[.int .i64 wd, .int .i64 tr, .int .i64 nx, .slice (some ⟨g, 0, none⟩) ps.length c] ∧ Row w g 39 3 c snC ps ∧
      Chg [] w W ∧ w' = (W.setCell ⟨g, k * 3 + 2, none⟩ (.int .i64 (ps[k].t + 1))).drewN m := by
  have HI := Lib.hid (sfind_c h x)
  rw [show fndI x ps = k from by rw [fndI, hf]] at HI
  obtain ⟨A, c, h9, h10⟩ := h.split
  have htr := h.ht
  have ht0 := (h.ok ps[k] (by simp)).2.2
  rcases h10 with ⟨_, _, h0⟩ | ⟨g, rfl, hg, hgO, hgs, hr⟩
  · subst h0; simp at hk
  · have HR := Lib.hid hr
    have H9 := Lib.hid h9
    have hgl := hr.lt
    clear h hf hr h9
    have hI : (k : Int) < (ps.length : Int) := by omega
    have hJ : (0 : Int) ≤ (k : Int) := by omega
    have hne : (ps[k].t == tr) = false := by rw [beq_eq_false_iff_ne]; omega
    go_enter Try.func24, Try.ntmps24
    go_wp2_with fail
    refine HI.out.mono ?_
    rintro e w' ⟨rfl, hc⟩
    have hs := H9.out.chg hc (by simp)
    have e3 := (hs.cell 3).trans rfl
    have e1 := (hs.cell 1).trans rfl
    have hr2 := HR.out.chg hc (by simp)
    have e2 := (row_sn hr2 hk).2.2
    have f2 := hr2.frozen (k * 3 + 2)
    have hgl2 := hr2.lt
    have HC := Lib.hid hc
    clear hs hr2 hc
    generalize htt : ps[k].t = t at ht ht0 hne e2 ⊢
    have HTT := Lib.hid htt
    clear htt
    go_wp2_with fail
    go_quiet (fail)
    go_wp2_with fail
    go_ret2
    exact ⟨by rw [HTT.out]; rfl, g, c, _, _, hg, hgO, hgs, H9.out, HR.out, HC.out, by rw [HTT.out]⟩
end

/-- One more transmission of the packet at place k. -/
def bump (ps : List Sn) (k : Nat) : List Sn := ps.modify k fun p => ⟨p.q, p.i, p.t + 1⟩

/-- A cell of an element is stored into. -/
theorem Row.put {α : Type} {C : α → List Value} {sz : Nat} {w : World} {g c : Nat} {e : TypeId} {L : List α} (h : Row w g e sz c C L) {k r : Nat} (hk : k < L.length) (hr : r < sz) {v : Value} {f : α → α} (hf : ∀ j, j < sz → (C (f L[k]))[j]? = if j = r then some v else (C L[k])[j]?) :
    Row (w.setCell ⟨g, k * sz + r, none⟩ v) g e sz c C (L.modify k f) := by
  obtain ⟨h1, h2, cs, hb, h3, h4⟩ := h
  refine ⟨by simpa using h1, h2, _, hb.set_ _ _, by simpa using h3, fun j hj i hi => ?_⟩
  have hj' : j < L.length := by simpa using hj
  rw [Array.getElem?_setIfInBounds]
  have hlt : k * sz + r < cs.size := by
    have : (k + 1) * sz ≤ c * sz := Nat.mul_le_mul_right _ (by omega)
    rw [Nat.add_mul] at this
    omega
  by_cases hjk : j = k
  · subst hjk
    rw [List.getElem_modify, if_pos rfl, hf i hi]
    by_cases hir : i = r
    · subst hir
      rw [if_pos rfl, if_pos rfl, if_pos hlt]
    · rw [if_neg hir, if_neg (by omega)]
      exact h4 j hj' i hi
  · have hne : k * sz + r ≠ j * sz + i := by
      intro he
      have h5 : (k * sz + r) / sz = k := by rw [Nat.mul_comm]; rw [Nat.mul_add_div (by omega), Nat.div_eq_of_lt hr]; omega
      have h6 : (j * sz + i) / sz = j := by rw [Nat.mul_comm]; rw [Nat.mul_add_div (by omega), Nat.div_eq_of_lt hi]; omega
      rw [he] at h5
      omega
    rw [if_neg hne, List.getElem_modify, if_neg (by omega)]
    exact h4 j hj' i hi

theorem SA.of_row {w w' : World} {B s g c : Nat} {O : List Nat} {wd tr nx nx' : Int} {ps ps' : List Sn} (h : SA w B s O wd tr nx ps) (hb : Blk w' s 56 #[.int .i64 wd, .int .i64 tr, .int .i64 nx', .slice (some ⟨g, 0, none⟩) ps'.length c])
    (hr : Row w' g 39 3 c snC ps') (hg : B ≤ g) (hgO : g ∈ O) (hn : 0 ≤ nx' ∧ nx' < 65536) (hl : ps'.length ≤ 1000) (hok : ∀ p ∈ ps', okSn p) (hsz : w.heap.size ≤ w'.heap.size) : SA w' B s O wd tr nx' ps' :=
  ⟨h.Bs, h.sO, h.BO, fun j hj => Nat.lt_of_lt_of_le (h.Ol j hj) hsz, h.hw, h.ht, hn, hl, hok, _, c, hb, hr.own snCells hg, fun j hj => by
    have := mem_ownL.1 hj
    simp [Value.ownBlock] at this
    subst this
    exact hgO⟩

theorem ssend_c {w : World} {B s : Nat} {O : List Nat} {wd tr nx : Int} {ps : List Sn} (h : SA w B s O wd tr nx ps) (x : Int) {k : Nat} (hf : fnd x ps = some k) (hk : k < ps.length) (ht : ps[k].t < tr) :
    Calls Try.prog 24 #[.pointer (some ⟨s, 0, none⟩), .int .i64 x] w fun e w' => e = .returned (.tuple #[.int .i64 (ps[k].t + 1), .int .i64 0]) ∧ SA w' B s O wd tr nx (bump ps k) ∧ Chg (s :: O) w w' := by
  refine (ssend_raw h x hf hk ht).mono ?_
  rintro e w' ⟨rfl, g, c, W, m, hg, hgO, hgs, h9, hr, hc, rfl⟩
  have htr := h.ht
  have hok := h.ok ps[k] (by simp)
  have h9' := ((h9.chg hc (by simp)).far (p := ⟨g, k * 3 + 2, none⟩) hgs.symm (.int .i64 (ps[k].t + 1))).drewN m
  have hr' := ((hr.chg hc (by simp)).put (f := fun p => ⟨p.q, p.i, p.t + 1⟩) hk (r := 2) (by omega) (v := .int .i64 (ps[k].t + 1)) (by
    intro j hj
    have hj3 : j = 0 ∨ j = 1 ∨ j = 2 := by omega
    rcases hj3 with rfl | rfl | rfl <;> rfl)).chg ((Chg.refl [] _).drewN m) (by simp)
  have kE : Chg (s :: O) w ((W.setCell ⟨g, k * 3 + 2, none⟩ (.int .i64 (ps[k].t + 1))).drewN m) := ((hc.mono (S' := s :: O) (by simp)).setCell (by simp [hgO]) _).drewN m
  refine ⟨rfl, h.of_row (ps' := bump ps k) (by simpa [bump] using h9') hr' hg hgO h.hn (by simpa [bump] using h.hl) (fun p hp => ?_) kE.size, kE⟩
  unfold bump at hp
  obtain ⟨j, hj, rfl⟩ := List.getElem_of_mem hp
  have hj' : j < ps.length := by simpa using hj
  rw [List.getElem_modify]
  split
  · rename_i hjk
    subst hjk
    exact ⟨hok.1, hok.2.1, by simp only; have := hok.2.2; omega, by simp only; omega⟩
  · exact h.ok _ (by simp)

end Go.Proofs.Ytgkhendbpehagaa
