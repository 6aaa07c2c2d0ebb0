/- The reference's round: Leave and Charge where they are taken. -/
import Derived.Test.YtmbmejobffpaoaaDq
namespace Go.Proofs.Ytmbmejobffpaoaa
open Go.RowKit
set_option linter.unusedVariables false
set_option linter.unusedSimpArgs false

/-- A cell of an element is stored into. -/
theorem Row.put {α : Type} {C : α → List Value} {sz : Nat} {w : World} {g c : Nat} {e : TypeId} {L : List α} (h : Row w g e sz c C L) {k r : Nat} (hk : k < L.length) (hr : r < sz) {v : Value} {f : α → α} (hf : ∀ j, j < sz → (C (f L[k]))[j]? = if j = r then some v else (C L[k])[j]?) :
    Row (w.setCell ⟨g, k * sz + r, none⟩ v) g e sz c C (L.modify k f) := by
  obtain ⟨h1, h2, cs, hb, h3, h4⟩ := h
  refine ⟨by simpa using h1, h2, _, hb.set_ _ _, by simpa using h3, fun j hj i hi => ?_⟩
  have hj' : j < L.length := by simpa using hj
  rw [Array.getElem?_setIfInBounds]
  have hlt : k * sz + r < cs.size := by
    have : (k + 1) * sz ≤ c * sz := Nat.mul_le_mul_right _ (by omega)
    rw [Nat.add_mul] at this
    omega
  by_cases hjk : j = k
  · subst hjk
    rw [List.getElem_modify, if_pos rfl, hf i hi]
    by_cases hir : i = r
    · subst hir
      rw [if_pos rfl, if_pos rfl, if_pos hlt]
    · rw [if_neg hir, if_neg (by omega)]
      exact h4 j hj' i hi
  · have hne : k * sz + r ≠ j * sz + i := by
      intro he
      have h5 : (k * sz + r) / sz = k := by rw [Nat.mul_comm]; rw [Nat.mul_add_div (by omega), Nat.div_eq_of_lt hr]; omega
      have h6 : (j * sz + i) / sz = j := by rw [Nat.mul_comm]; rw [Nat.mul_add_div (by omega), Nat.div_eq_of_lt hi]; omega
      rw [he] at h5
      omega
    rw [if_neg hne, List.getElem_modify, if_neg (by omega)]
    exact h4 j hj' i hi

theorem dflat_take (L : List Sd) : ∀ k, (L.flatMap sdC).take (k * 4) = (L.take k).flatMap sdC := by
  induction L with
  | nil => intro k; simp
  | cons p r ih =>
    intro k
    cases k with
    | zero => simp
    | succ k =>
      have := ih k
      rw [List.take_succ_cons, List.flatMap_cons, List.flatMap_cons, ← this, show (k + 1) * 4 = k * 4 + 1 + 1 + 1 + 1 from by omega]
      simp [sdC]
theorem dflat_drop (L : List Sd) : ∀ k, (L.flatMap sdC).drop (k * 4) = (L.drop k).flatMap sdC := by
  induction L with
  | nil => intro k; simp
  | cons p r ih =>
    intro k
    cases k with
    | zero => simp
    | succ k =>
      have := ih k
      rw [List.drop_succ_cons, ← this, List.flatMap_cons, show (k + 1) * 4 = k * 4 + 1 + 1 + 1 + 1 from by omega]
      simp [sdC]
theorem own_somed {w : World} {B n c k : Nat} {A : Option Addr} {L : List Sd} (h : w.ownsRow B 66 4 (.slice A n c) n ([] ++ L.flatMap sdC)) (hk : k < L.length) : ∃ g, A = some ⟨g, 0, none⟩ ∧ B ≤ g ∧ Row w g 66 4 c sdC L := by
  rw [List.nil_append] at h
  rcases (own_row sdCells (by omega) h).2 with ⟨_, _, h0⟩ | h1
  · rw [h0] at hk; simp at hk
  · exact h1

set_option maxRecDepth 100000 in
set_option maxHeartbeats 4000000 in
theorem rrleave_c {w : World} {B s k : Nat} {O : List Nat} {q now x : Int} {L : List Sd} (h : DR w B s O q L now) (hB : B ≤ w.heap.size) (hl : L.length ≤ 1000) (hs : sid x L = some k) :
    Calls Try.prog 30 #[.pointer (some ⟨s, 0, none⟩), .int .i64 x] w fun e w' => e = .returned (.int .i64 0) ∧ ∃ O', DR w' B s O' q (L.eraseIdx k) (-1) ∧ (∀ j ∈ O', w.heap.size ≤ j) ∧ Chg [s] w w' := by
  have HI := Lib.hid (rrat_c h hl x)
  rw [sidI_some hs] at HI
  have hk := (sid_spec hs).1
  have HH := Lib.hid h
  have hsl := h.lt
  clear h hs
  obtain ⟨n, hn⟩ : ∃ n, L.length = n := ⟨_, rfl⟩
  have HN := Lib.hid hn
  have hkn : k < n := by omega
  rw [hn] at hl
  go_enter Try.func30, Try.ntmps30
  go_wp2_with fail
  refine HI.out.mono ?_
  rintro e w1 ⟨rfl, hc⟩
  have HH1 := Lib.hid (HH.out.chg hc (by simp) (by simp))
  have hz := hc.size
  obtain ⟨A, c, h9, h10, h11⟩ := HH1.out.row
  rw [hn] at h9 h10
  have e3 := (h9.cell 1).trans rfl
  have f3 := h9.frozen 1
  have e2 := (h9.cell 2).trans rfl
  have f2 := h9.frozen 2
  have hsl1 := h9.lt
  have hr := Reads.of_own h10
  obtain ⟨g, rfl, hg, hr0⟩ := own_somed (by simpa using h10) hk
  have hcn : n ≤ c := by have := hr0.1; omega
  have HC := Lib.hid hc
  clear hc h10 h11 h9 hn
  obtain ⟨A2, hA2, hr2⟩ : ∃ A2, (if c = k + 1 then some ({ block := g, off := 0 } : Addr) else some { block := g, off := (k + 1) * 4 }) = A2 ∧ Reads w1 w1.heap.size 4 A2 (n - (k + 1)) ((L.flatMap sdC).drop ((k + 1) * 4)) := by
    refine ⟨_, rfl, ?_⟩
    have := hr.cut (k := k + 1) (cap := c) (by omega) hcn
    simpa [Addr.add] using this
  have hr1 : Reads w1 w1.heap.size 4 (some ({ block := g, off := 0 } : Addr)) k ((L.flatMap sdC).take (k * 4)) := by
    have := hr.pre (k := k) (by omega)
    simpa using this
  have hone := sdCells.flat_one L
  have hone1 : ∀ u ∈ (L.flatMap sdC).take (k * 4), u.oneCell' = true := fun u hu => hone u (List.mem_of_mem_take hu)
  have hone2 : ∀ u ∈ (L.flatMap sdC).drop ((k + 1) * 4), u.oneCell' = true := fun u hu => hone u (List.mem_of_mem_drop hu)
  have hE := own_drew (own_empty w1 66 4 w1.heap.size (Nat.le_refl _))
  have hR1 := (hr1.alloc (Nat.le_refl _) (.cells #[] 66)).drew
  have hR2 := (hr2.alloc (Nat.le_refl _) (.cells #[] 66)).drew
  have hb0 : (k : Int) < (n : Int) := by omega
  have hb1 : (k : Int) ≤ (n : Int) := by omega
  have hb2 : (k : Int) + 1 ≤ (n : Int) := by omega
  have hb3 : (0 : Int) ≤ (k : Int) + 1 := by omega
  have hb4 : ((k : Int) + 1).toNat = k + 1 := by omega
  have hb5 : IntKind.i64.wrap ((k : Int) + 1) = (k : Int) + 1 := IntWalk.i64_in _ (by omega)
  have hb6 : (k : Int) ≤ (c : Int) := by omega
  have hb7 : (0 : Int) ≤ (k : Int) := by omega
  clear hr hr0 hr1 hr2 hone
  go_wp2_with fail
  go_region_law (first
    | (have hO2 := hown1; have hQ2 := hR2.grown hgrow1 (by simp) (by simp [Value.ownBlock]); have hZ2 := hgrow1.size; refine step_app (P := Try.prog) (t := 61) Try.underlying61 seat_info rfl (by omega) (.tmp 19) (.tmp 26) w1.heap.size (n := k) (m := n - (k + 1)) (N := k + (n - (k + 1))) rfl (by omega) hone2 (by omega) hO2 hQ2 (by simp at hZ2; omega) (by rfl) (by rfl) (by rfl) (by rfl) ?_; clear hO2 hQ2 hZ2; intro A3 d3 W3 hown3 hgrow3 hat3; have q3 := q1.grown hgrow3 hv1; have e5 := (q3.cell (p := ⟨s, 1, none⟩) hsl1 (by simp)).trans e3; have f5 := (q3.frozen (p := ⟨s, 1, none⟩) hsl1 (by simp)).trans f3; have e6 := (q3.cell (p := ⟨s, 2, none⟩) hsl1 (by simp)).trans e2; have f6 := (q3.frozen (p := ⟨s, 2, none⟩) hsl1 (by simp)).trans f2)
    | (refine step_app (P := Try.prog) (t := 61) Try.underlying61 seat_info rfl (by omega) (.tmp 12) (.tmp 18) w1.heap.size (n := 0) (m := k) (N := k) (Nat.zero_add _) (by omega) hone1 (by omega) hE hR1 (by simp) (by rfl) (by rfl) (by rfl) (by rfl) ?_; intro A1 d1 W1 hown1 hgrow1 hat1; have q1 := (((Chg.refl [] w1).alloc (.cells #[] 66)).drew).grown hgrow1 (by simp [Value.ownBlock]); have hv1 := own_new1 (S := []) hat1; have e4 := (q1.cell (p := ⟨s, 1, none⟩) hsl1 (by simp)).trans e3; have f4 := (q1.frozen (p := ⟨s, 1, none⟩) hsl1 (by simp)).trans f3))
  all_goals
    go_wp2_with fail
    go_ret
    have hn := HN.out
    have hx : ([] ++ (L.flatMap sdC).take (k * 4)) ++ (L.flatMap sdC).drop ((k + 1) * 4) = (L.eraseIdx k).flatMap sdC := by
      rw [dflat_take, dflat_drop, List.nil_append, ← List.flatMap_append, List.eraseIdx_eq_take_drop_succ]
    rw [hx] at hown3
    obtain ⟨r1, r2, r3⟩ := HH1.out.put (L' := L.eraseIdx k) (by omega) q3 hown3
    exact ⟨rfl, _, r1.setnow, fun j hj => by have := r2 j hj; omega, ((HC.out.mono (S' := [s]) (by simp)).trans r3 (by simp)).setCell (by simp) _⟩

theorem DR.of_row {w w' : World} {B s g c : Nat} {O : List Nat} {q now now' : Int} {L L' : List Sd} (h : DR w B s O q L now) (hb : Blk w' s 63 #[.int .i64 q, .slice (some ⟨g, 0, none⟩) L'.length c, .int .i64 now'])
    (hr : Row w' g 66 4 c sdC L') (hg : B ≤ g) (hgO : g ∈ O) (hsz : w.heap.size ≤ w'.heap.size) : DR w' B s O q L' now' :=
  ⟨h.Bs, h.sO, fun j hj => ⟨(h.BO j hj).1, Nat.lt_of_lt_of_le (h.BO j hj).2 hsz⟩, _, c, hb, hr.own sdCells hg, fun j hj => by
    have := mem_ownL.1 hj
    simp [Value.ownBlock] at this
    subst this
    exact hgO⟩

theorem chA_modify (a : Int) (L : List Sd) {k : Nat} (hk : k < L.length) : chA a L k = L.modify k fun p => ⟨p.i, p.w, p.d - a, p.t⟩ := by
  unfold chA
  rw [List.getElem?_eq_getElem hk]
  apply List.ext_getElem
  · simp
  · intro i h1 h2
    rw [List.getElem_set, List.getElem_modify]
    split
    · subst_vars; rfl
    · rfl

set_option maxRecDepth 100000 in
set_option maxHeartbeats 2000000 in
theorem rrcharge_c {w : World} {B s k : Nat} {O : List Nat} {q now a : Int} {L : List Sd} (h : DR w B s O q L now) (hB : B ≤ w.heap.size) (hl : L.length ≤ 1000) (hs : sid now L = some k) (ha : 1 ≤ a ∧ a ≤ 1048576) (hd : ∀ s ∈ L, -1048576 < s.d ∧ s.d ≤ 16777216) :
    Calls Try.prog 23 #[.pointer (some ⟨s, 0, none⟩), .int .i64 a] w fun e w' => e = .returned (.int .i64 0) ∧ ∃ O', DR w' B s O' q (chA a L k) (-1) ∧ (∀ j ∈ O', w.heap.size ≤ j) ∧ Chg [s] w w' := by
  have HI := Lib.hid (rrat_c h hl now)
  rw [sidI_some hs] at HI
  have hk := (sid_spec hs).1
  have HH := Lib.hid h
  have hsl := h.lt
  have hdd := hd L[k] (by simp)
  obtain ⟨ha0, ha1⟩ := ha
  obtain ⟨A0, c0, g9, _⟩ := h.row
  have e22 := (g9.cell 2).trans rfl
  clear h hs g9 hd
  have hI : (k : Int) < (L.length : Int) := by omega
  have hJ : (0 : Int) ≤ (k : Int) := by omega
  have hone := sdCells.flat_one L
  go_enter Try.func23, Try.ntmps23
  go_wp2_with fail
  refine HI.out.mono ?_
  rintro e w1 ⟨rfl, hc⟩
  have HH1 := Lib.hid (HH.out.chg hc (by simp) (by simp))
  have hz := hc.size
  obtain ⟨A, c, h9, h10, h11⟩ := HH1.out.row
  have e3 := (h9.cell 1).trans rfl
  have f3 := h9.frozen 1
  have hsl1 := h9.lt
  have hr := Reads.of_own h10
  have HC := Lib.hid hc
  have H9 := Lib.hid h9
  clear hc h10 h11 h9
  generalize htt : L[k].d = t at hdd
  have HTT := Lib.hid htt
  obtain ⟨hd0, hd1⟩ := hdd
  have hwr : IntKind.i64.wrap (t - a) = t - a := by rw [IntKind.wrap_i64]; omega
  clear htt
  go_wp2_with (at_builtin; refine list_app (P := Try.prog) (t := 61) Try.underlying61 seat_info rfl (by omega) (.tmp 21) (.tmp 25) w1.heap.size (n := 0) (m := L.length) (N := L.length) (Nat.zero_add _) (by omega) hone (by omega) (own_empty w1 66 4 w1.heap.size (Nat.le_refl _)) (hr.alloc (Nat.le_refl _) _) (by simp) (by rfl) (by rfl) (by rfl) (by rfl) ?_; intro A1 d1 W1 hown1 hgrow1 hat1; have q1 := ((Chg.refl [] w1).alloc (.cells #[] 66)).grown hgrow1 (by simp [Value.ownBlock]); obtain ⟨g1, rfl, hg1, hr1⟩ := own_somed hown1 hk; have e4 := (q1.cell (p := ⟨s, 1, none⟩) hsl1 (by simp)).trans e3; have f4 := (q1.frozen (p := ⟨s, 1, none⟩) hsl1 (by simp)).trans f3; have hgs : g1 ≠ s := (by omega); have hgs' : s ≠ g1 := (by omega); have c2 := (row_sd hr1 hk).2.2.1; rw [HTT.out] at c2; have k2 := hr1.frozen (k * 4 + 2); have gl := hr1.lt; have sl := q1.size; have e5 := ((H9.out.chg q1 (by simp)).cell 2).trans rfl; have f5 := (H9.out.chg q1 (by simp)).frozen 2)
  go_ret
  obtain ⟨r1, r2, r3⟩ := HH1.out.put (L' := L) (by omega) q1 (by simpa using hown1)
  have hgO : g1 ∈ ownL (.slice (some ⟨g1, 0, none⟩) L.length d1) := mem_ownL.2 rfl
  have hst : Chg [s] W1 (W1.setCell ⟨s, 1, none⟩ (.slice (some ⟨g1, 0, none⟩) L.length d1)) := (Chg.refl [s] W1).setCell (by simp) _
  have b9 := (H9.out.chg q1 (by simp)).set_ 1 (.slice (some ⟨g1, 0, none⟩) L.length d1)
  simp only [List.setIfInBounds_toArray, List.set_cons_succ, List.set_cons_zero] at b9
  have h9' := (b9.far (p := ⟨g1, k * 4 + 2, none⟩) hgs.symm (.int .i64 (t - a)))
  have hr' := (hr1.chg hst (by simp; omega)).put (f := fun p => ⟨p.i, p.w, p.d - a, p.t⟩) hk (r := 2) (by omega) (v := .int .i64 (t - a)) (by
    intro j hj
    have hj3 : j = 0 ∨ j = 1 ∨ j = 2 ∨ j = 3 := by omega
    rcases hj3 with rfl | rfl | rfl | rfl
    · rfl
    · rfl
    · simp [sdC, HTT.out]
    · rfl)
  have kE : Chg [s] w ((W1.setCell ⟨s, 1, none⟩ (.slice (some ⟨g1, 0, none⟩) L.length d1)).setCell ⟨g1, k * 4 + 2, none⟩ (.int .i64 (t - a))) := ((HC.out.mono (S' := [s]) (by simp)).trans r3 (by simp)).setCell (.inr (by simp only; omega)) _
  have hml : (L.modify k fun p => (⟨p.i, p.w, p.d - a, p.t⟩ : Sd)).length = L.length := by simp
  refine ⟨rfl, ownL (.slice (some ⟨g1, 0, none⟩) L.length d1), ?_, fun j hj => by have := r2 j hj; omega, kE.setCell (by simp) _⟩
  rw [chA_modify a L hk]
  exact (r1.of_row (by rw [hml]; exact h9') hr' (by omega) hgO (by simp [World.setCell])).setnow

end Go.Proofs.Ytmbmejobffpaoaa
