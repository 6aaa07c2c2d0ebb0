/- slices.IndexFunc and slices.DeleteFunc over a row of the sender's packets, at Exhausted's closure; Exhausted. -/
import Derived.Test.YtgkhendbpehagaaSnA
namespace Go.Proofs.Ytgkhendbpehagaa
open Go.RowKit
set_option linter.unusedVariables false
set_option linter.unusedSimpArgs false

def snV (p : Sn) : Value := .agg #[.int .i64 p.q, .int .i64 p.i, .int .i64 p.t]

set_option maxHeartbeats 2000000 in
theorem idxf_row {w : World} {g n c : Nat} {cap : Value} {f : Sn → Bool} {ps : List Sn} (hn : ps.length = n) (hn6 : n ≤ 1000) (hr : Row w g 39 3 c snC ps)
    (hcl : ∀ W, Chg [] w W → ∀ p : Sn, Calls Try.prog 40 #[.agg #[.int .i64 p.q, .int .i64 p.i, .int .i64 p.t], cap] W fun e w' => e = .returned (.bool (f p)) ∧ Chg [] W w') :
    Calls Try.prog 43 #[.slice (some ⟨g, 0, none⟩) n c, .func (.func 40) #[] #[cap]] w fun e w' =>
      Chg [] w w' ∧ ∃ k : Nat, (∀ j (hj : j < ps.length), j < k → f ps[j] = false) ∧ ((k = n ∧ e = .returned (.int .i64 (-1))) ∨ (∃ hk : k < ps.length, f ps[k] = true ∧ e = .returned (.int .i64 k))) := by
  have HN := Lib.hid hn
  have HCL := Lib.hid hcl
  clear hn hcl
  go_enter Try.func43, Try.ntmps43
  go_wp2
  go_loopw [8] (fun i wr => ∃ k : Nat, k ≤ n ∧ i = .int .i64 k ∧ Chg [] w wr ∧ ∀ j (hj : j < ps.length), j < k → f ps[j] = false) (fun i _ => n - (intOf i).toNat)
  case atStart => exact ⟨0, Nat.zero_le _, rfl, Chg.refl _ _, fun j _ hj => absurd hj (by omega)⟩
  case round =>
    obtain ⟨k, hk, rfl, hc, hP⟩ := hrel
    have HP := Lib.hid hP
    clear hP
    by_cases hlt : k < n
    · have hkl : k < ps.length := by have := HN.out; omega
      have hr' := hr.chg hc (by simp)
      obtain ⟨c0, c1, c2⟩ := row_sn hr' hkl
      have HH := Lib.hid (HCL.out wr hc ps[k])
      have HX := Lib.hid (fun (hq : f ps[k] = false) j (hj : j < ps.length) (h1 : j < k + 1) => show f ps[j] = false from by
        by_cases h2 : j = k
        · subst h2; exact hq
        · exact HP.out j hj (by omega))
      generalize hpq : ps[k] = p at c0 c1 c2 HH HX
      have HPQ := Lib.hid hpq
      clear hpq
      have hI : (k : Int) < (n : Int) := by omega
      have hJ : (0 : Int) ≤ (k : Int) := by omega
      have hgl := hr'.lt
      go_wp2_with fail
      refine HH.out.mono ?_
      rintro e w2 ⟨rfl, hc2⟩
      have k2 : Chg [] w w2 := hc.trans hc2 (by simp)
      cases hq : f p
      · have HF := Lib.hid (HX.out hq)
        clear hq
        go_wp2_with fail
        go_roundw
        case rel => exact ⟨k + 1, by omega, by go_num, k2, HF.out⟩
        case measure => simp [intOf]; omega
      · have HQ := Lib.hid hq
        clear hq
        go_wp2_with fail
        go_ret
        exact ⟨k2, k, HP.out, .inr ⟨hkl, by rw [HPQ.out]; exact HQ.out, rfl⟩⟩
    · go_wp2_with fail
      go_ret
      exact ⟨hc, k, HP.out, .inl ⟨by omega, rfl⟩⟩

/-- In block g the first elements are those of l; the elements from j on are as they were in ps. -/
def Part (w : World) (g c j : Nat) (l ps : List Sn) : Prop := ∃ cs, Blk w g 39 cs ∧ cs.size = c * 3 ∧ (∀ m (hm : m < l.length), ∀ r, r < 3 → cs[m * 3 + r]? = (snC l[m])[r]?) ∧ (∀ m (hm : m < ps.length), j ≤ m → ∀ r, r < 3 → cs[m * 3 + r]? = (snC ps[m])[r]?)

section
variable {w w' : World} {g c j : Nat} {l ps : List Sn}
theorem Part.chg {S : List Nat} (h : Part w g c j l ps) (hc : Chg S w w') (hg : g ∉ S) : Part w' g c j l ps := by
  obtain ⟨cs, h1, h2⟩ := h
  exact ⟨cs, h1.chg hc hg, h2⟩
theorem Part.skip (h : Part w g c j l ps) : Part w g c (j + 1) l ps := by
  obtain ⟨cs, h1, h2, h3, h4⟩ := h
  exact ⟨cs, h1, h2, h3, fun m hm hj => h4 m hm (by omega)⟩
theorem Part.put (h : Part w g c j l ps) (hj : l.length ≤ j) (hjn : j < ps.length) (hnc : ps.length ≤ c) : Part (w.setCells g (l.length * 3) (snC ps[j])) g c (j + 1) (l ++ [ps[j]]) ps := by
  obtain ⟨cs, h1, h2, h3, h4⟩ := h
  obtain ⟨cs', k1, k2, k3⟩ := h1.setCells (snC ps[j]) (l.length * 3) (by rw [h2]; simp [snC]; omega)
  have hl : (snC ps[j]).length = 3 := rfl
  refine ⟨cs', k1, k2.trans h2, fun m hm r hr => ?_, fun m hm hn r hr => ?_⟩
  · rw [k3]
    have hm' : m < l.length + 1 := by simpa using hm
    by_cases he : m = l.length
    · subst he
      rw [if_pos (by omega), show l.length * 3 + r - l.length * 3 = r from by omega]
      simp
    · rw [if_neg (by omega), List.getElem_append_left (by omega)]
      exact h3 m (by omega) r hr
  · rw [k3, if_neg (by omega)]
    exact h4 m hm (by omega) r hr
theorem Part.tail (h : Part w g c j l ps) (vs : List Value) (hv : l.length * 3 + vs.length ≤ c * 3) : Part (w.setCells g (l.length * 3) vs) g c ps.length l ps := by
  obtain ⟨cs, h1, h2, h3, h4⟩ := h
  obtain ⟨cs', k1, k2, k3⟩ := h1.setCells vs (l.length * 3) (by rw [h2]; exact hv)
  refine ⟨cs', k1, k2.trans h2, fun m hm r hr => ?_, fun m hm hn => absurd hn (by omega)⟩
  rw [k3, if_neg (by omega)]
  exact h3 m hm r hr
theorem Part.row (h : Part w g c j l ps) (hl : l.length ≤ c) (hc : c ≤ 9223372036854775807) : Row w g 39 3 c snC l := by
  obtain ⟨cs, h1, h2, h3, h4⟩ := h
  exact ⟨hl, hc, cs, h1, h2, h3⟩
theorem Row.part (h : Row w g 39 3 c snC ps) (k j : Nat) : Part w g c j (ps.take k) ps := by
  obtain ⟨h1, h2, cs, hb, h3, h4⟩ := h
  refine ⟨cs, hb, h3, fun m hm r hr => ?_, fun m hm _ r hr => h4 m hm r hr⟩
  rw [List.getElem_take]
  exact h4 m (by simp at hm; omega) r hr
theorem Part.at_ (h : Part w g c j l ps) {k : Nat} (hj : j ≤ k) (hk : k < ps.length) :
    w.cell? ⟨g, k * 3, none⟩ = some (.int .i64 ps[k].q) ∧ w.cell? ⟨g, k * 3 + 1, none⟩ = some (.int .i64 ps[k].i) ∧ w.cell? ⟨g, k * 3 + 2, none⟩ = some (.int .i64 ps[k].t) := by
  obtain ⟨cs, h1, _, _, h2⟩ := h
  have := fun r hr => (h1.cell (k * 3 + r)).trans (h2 k hk hj r hr)
  exact ⟨this 0 (by omega), this 1 (by omega), this 2 (by omega)⟩
end

theorem left_snoc {f : Sn → Bool} {ps : List Sn} {k : Nat} (hk : k < ps.length) : (ps.take (k + 1)).filter (fun p => !f p) = if f ps[k] then (ps.take k).filter (fun p => !f p) else (ps.take k).filter (fun p => !f p) ++ [ps[k]] := by
  rw [List.take_succ_eq_append_getElem hk, List.filter_append]
  cases h : f ps[k] <;> simp [h]
theorem left_all {f : Sn → Bool} {ps : List Sn} {k : Nat} (h : ∀ j (hj : j < ps.length), j < k → f ps[j] = false) : (ps.take k).filter (fun p => !f p) = ps.take k := by
  rw [List.filter_eq_self]
  intro p hp
  obtain ⟨j, hj, rfl⟩ := List.getElem_of_mem hp
  rw [List.getElem_take, h j (by simp at hj; omega) (by simp at hj; omega)]
  rfl
theorem left_le {f : Sn → Bool} (ps : List Sn) (k : Nat) : ((ps.take k).filter (fun p => !f p)).length ≤ k := Nat.le_trans (List.length_filter_le _ _) (by simp; omega)

theorem zero_cells {z : Array Value} (n : Nat) : (Builtin.zeroCells z n).size = z.size * n := by
  simp [Builtin.zeroCells, Nat.mul_comm]

/-- clear of n elements. -/
theorem run_clear_n {P : Program} (w : World) (t e ty : TypeId) (z : Value) (ht : P.underlying t = some (.slice e)) (hv : ∀ w, (zeroValue e).run P w = .ok z w) (h1 : ∀ n, ∀ u ∈ (Builtin.zeroCells z.cells n).toList, u.oneCell' = true) (b o n c : Nat) (hn : 0 < n)
    (hc : ∀ j, j < z.cells.size * n → (w.cell? ⟨b, o + j, none⟩).isSome = true) (hf : ∀ j, j < z.cells.size * n → w.frozen? ⟨b, o + j, none⟩ = false) :
    (Builtin.clear_ #[t] ty #[.slice (some ⟨b, o, none⟩) n c]).run P w = .ok (.tuple #[]) (w.setCells b o (Builtin.zeroCells z.cells n).toList) := by
  have hst := run_storeCells_cells (P := P) b o (Builtin.zeroCells z.cells n).toList 0 w (by simpa [zero_cells] using hc) (by simpa [zero_cells] using hf) (h1 n)
  simp only [Nat.add_zero] at hst
  obtain ⟨m, rfl⟩ : ∃ m, n = m + 1 := ⟨n - 1, by omega⟩
  simp [Builtin.clear_, run_underlying ht, hv, hst]

theorem zero_one : ∀ n, ∀ u ∈ (Builtin.zeroCells (Value.agg #[.int .i64 0, .int .i64 0, .int .i64 0]).cells n).toList, u.oneCell' = true := by
  intro n u hu
  have h : u = .int .i64 0 := by
    obtain ⟨i, hi, rfl⟩ := List.getElem_of_mem hu
    simp only [Array.getElem_toList, Builtin.zeroCells, Value.cells, Array.getElem_ofFn]
    have h5 : ∀ m (h : m < 3), (#[Value.int .i64 0, .int .i64 0, .int .i64 0] : Array Value)[m]! = .int .i64 0 := by
      intro m h
      match m, h with
      | 0, _ => rfl
      | 1, _ => rfl
      | 2, _ => rfl
    have h6 := h5 (i % 3) (Nat.mod_lt _ (by omega))
    simpa using h6
  rw [h]
  rfl

set_option maxHeartbeats 1000000 in
theorem delf_nil (w : World) (A : Option Addr) (c : Nat) (f : Value) :
    Calls Try.prog 39 #[.slice A 0 c, f] w fun e w' => e = .returned (.slice A 0 c) ∧ Chg [] w w' := by
  go_enter Try.func39, Try.ntmps39
  go_wp2_with fail
  refine (idx_nil w A c f).mono ?_
  rintro e w' ⟨rfl, hc⟩
  go_wp2_with fail
  go_ret
  exact ⟨rfl, hc⟩

set_option maxRecDepth 100000 in
set_option maxHeartbeats 4000000 in
theorem delf_row {w : World} {g n c : Nat} {cap : Value} {f : Sn → Bool} {ps : List Sn} (hn : ps.length = n) (hn6 : n ≤ 1000) (hr : Row w g 39 3 c snC ps)
    (hcl : ∀ W, Chg [g] w W → ∀ p : Sn, Calls Try.prog 40 #[.agg #[.int .i64 p.q, .int .i64 p.i, .int .i64 p.t], cap] W fun e w' => e = .returned (.bool (f p)) ∧ Chg [] W w') :
    Calls Try.prog 39 #[.slice (some ⟨g, 0, none⟩) n c, .func (.func 40) #[] #[cap]] w fun e w' =>
      e = .returned (.slice (some ⟨g, 0, none⟩) (ps.filter (fun p => !f p)).length c) ∧ Row w' g 39 3 c snC (ps.filter (fun p => !f p)) ∧ Chg [g] w w' := by
  have HN := Lib.hid hn
  have HCL := Lib.hid hcl
  have hgl : g < w.heap.size := hr.lt
  have hnc : n ≤ c := hn ▸ hr.1
  have hcm : c ≤ 9223372036854775807 := hr.2.1
  clear hn hcl
  go_enter Try.func39, Try.ntmps39
  go_wp2_with fail
  refine (idxf_row HN.out hn6 hr (fun W hW => HCL.out W (hW.mono (by simp)))).mono ?_
  rintro e w1 ⟨hc1, k, hP, ⟨hkn, rfl⟩ | ⟨hkl, hlate, rfl⟩⟩
  · have HP := Lib.hid hP
    clear hP
    have HF := Lib.hid (show ps.filter (fun p => !f p) = ps from by
      have := left_all (f := f) (ps := ps) (k := ps.length) (fun j hj _ => HP.out j hj (by have := HN.out; omega))
      simpa using this)
    go_wp2_with fail
    go_ret
    rw [HF.out, HN.out]
    exact ⟨rfl, hr.chg hc1 (by simp), hc1.mono (by simp)⟩
  · have HP := Lib.hid hP
    have HL := Lib.hid hlate
    clear hP hlate
    have hkn : k < n := by have := HN.out; omega
    have hd : ((k : Int) == -1) = false := by rw [beq_eq_false_iff_ne]; omega
    go_wp2_with fail
    go_loopw [5, 6] (fun vi vj wr => ∃ j m : Nat, j ≤ n ∧ vj = .int .i64 j ∧ m = ((ps.take j).filter (fun p => !f p)).length ∧ vi = .int .i64 m ∧ m < j ∧ Chg [g] w wr ∧ Part wr g c j ((ps.take j).filter (fun p => !f p)) ps) (fun _ vj _ => n - (intOf vj).toNat)
    case atStart =>
      have he : (ps.take (k + 1)).filter (fun p => !f p) = ps.take k := by
        rw [left_snoc hkl, if_pos HL.out, left_all HP.out]
      have hl : (ps.take k).length = k := by simp; omega
      exact ⟨k + 1, k, by omega, by go_num, by rw [he, hl], rfl, by omega, hc1.mono (by simp), by rw [he]; exact (hr.part _ _).chg hc1 (by simp)⟩
    case round =>
      obtain ⟨j, m, hj, rfl, hm, rfl, hij, hc, hF⟩ := hrel
      by_cases hlt : j < n
      · have hjl : j < ps.length := by have := HN.out; omega
        obtain ⟨c0, c1, c2⟩ := hF.at_ (k := j) (Nat.le_refl _) hjl
        have hgw : g < wr.heap.size := Nat.lt_of_lt_of_le hgl hc.size
        have HT := Lib.hid (left_snoc (f := f) hjl)
        have HM := Lib.hid hm
        have HF := Lib.hid hF
        have HH := Lib.hid (fun W hW => HCL.out W hW ps[j])
        clear hF hm
        generalize hq : ps[j] = p at c0 c1 c2 HT HH
        have HQ := Lib.hid hq
        clear hq
        have hI : (j : Int) < (n : Int) := by omega
        have hJ : (0 : Int) ≤ (j : Int) := by omega
        go_wp2_with fail
        refine (HH.out _ (hc.alloc (.cells #[.int .i64 p.q, .int .i64 p.i, .int .i64 p.t] 39))).mono ?_
        rintro e w2 ⟨rfl, hc2⟩
        have hx := (Blk.new wr 39 #[.int .i64 p.q, .int .i64 p.i, .int .i64 p.t]).chg hc2 (by simp)
        have hcr : Chg [] wr w2 := ((Chg.refl [] wr).alloc _).trans hc2 (by simp)
        have HC := Lib.hid (hc.trans hcr (by simp))
        have HF2 := Lib.hid (HF.out.chg hcr (by simp))
        have x0 := (hx.cell 0).trans rfl
        have x1 := (hx.cell 1).trans rfl
        have x2 := (hx.cell 2).trans rfl
        clear hx hc2
        cases hlb : f p
        · obtain ⟨cs, q1, q2, _⟩ := id HF2.out
          have hz : ∀ r, r < 3 → ∃ v, w2.cell? ⟨g, m * 3 + r, none⟩ = some v := fun r hr => ⟨_, by rw [q1.cell, Array.getElem?_eq_getElem (by omega)]⟩
          obtain ⟨z0, y0⟩ := hz 0 (by omega)
          obtain ⟨z1, y1⟩ := hz 1 (by omega)
          obtain ⟨z2, y2⟩ := hz 2 (by omega)
          rw [Nat.add_zero] at y0
          have f0 := q1.frozen (m * 3)
          have f1 := q1.frozen (m * 3 + 1)
          have f2 := q1.frozen (m * 3 + 2)
          clear hz q1 q2
          have hK1 : ((m : Nat) : Int) < (n : Int) := by omega
          have hK2 : (0 : Int) ≤ ((m : Nat) : Int) := by omega
          have HPT := Lib.hid (HF2.out.put (by have := HM.out; omega) hjl (by have := HN.out; omega))
          have HLB := Lib.hid hlb
          clear hlb
          go_wp2_with fail
          go_roundw
          case rel =>
            have ht := HT.out
            rw [if_neg (by rw [HLB.out]; simp)] at ht
            have hw := HPT.out
            rw [HQ.out, ← HM.out] at hw
            exact ⟨j + 1, m + 1, by omega, by go_num, by rw [ht, List.length_append, ← HM.out]; rfl, by go_num, by omega, (((HC.out).setCell (by simp) _).setCell (by simp) _).setCell (by simp) _, by rw [ht]; exact hw⟩
          case measure => simp [intOf]; omega
        · have HLB := Lib.hid hlb
          clear hlb
          go_wp2_with fail
          go_roundw
          case rel =>
            have ht := HT.out
            rw [if_pos HLB.out] at ht
            exact ⟨j + 1, m, by omega, by go_num, by rw [ht]; exact HM.out, rfl, by omega, HC.out, by rw [ht]; exact HF2.out.skip⟩
          case measure => simp [intOf]; omega
      · obtain rfl : j = n := by omega
        have ht : ps.take j = ps := List.take_of_length_le (by have := HN.out; omega)
        rw [ht] at hm hF
        obtain ⟨cs, q1, q2, _⟩ := id hF
        have hF' := hF.tail (Builtin.zeroCells (Value.agg #[.int .i64 0, .int .i64 0, .int .i64 0]).cells (j - m)).toList (by rw [← hm]; simp [zero_cells, Value.cells]; omega)
        rw [← hm] at hF'
        have hcl := run_clear_n (P := Try.prog) wr 33 39 0 (.agg #[.int .i64 0, .int .i64 0, .int .i64 0]) Try.underlying33 sn_zero zero_one g (m * 3) (j - m) (c - m) (by omega) (fun i hi => by simp [Value.cells] at hi; rw [q1.cell, Array.getElem?_eq_getElem (by omega)]; rfl) (fun i hi => q1.frozen _)
        have HF := Lib.hid hF'
        have hcw := hc.trans (Chg.setCells (S := [g]) (b := g) (.inl (by simp)) (Builtin.zeroCells (Value.agg #[.int .i64 0, .int .i64 0, .int .i64 0]).cells (j - m)).toList (m * 3) (Chg.refl [g] wr)) (by simp)
        have HM := Lib.hid hm
        clear hF' hF q1 q2 hm
        generalize (Builtin.zeroCells (Value.agg #[.int .i64 0, .int .i64 0, .int .i64 0]).cells (j - m)).toList = zs at *
        go_wp2_with fail
        go_ret
        exact ⟨by rw [← HM.out]; rfl, HF.out.row (by have := HM.out; omega) hcm, hcw⟩

end Go.Proofs.Ytgkhendbpehagaa
