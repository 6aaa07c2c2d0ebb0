/- The sender: slices.Delete of one packet; Drop. -/
import Derived.Test.YtgkhendbpehagaaSnD
namespace Go.Proofs.Ytgkhendbpehagaa
open Go.RowKit
set_option linter.unusedVariables false
set_option linter.unusedSimpArgs false

theorem sn_zero (w : World) : (zeroValue 39).run Try.prog w = .ok (.agg #[.int .i64 0, .int .i64 0, .int .i64 0]) w := by kernel_rfl

set_option maxRecDepth 100000 in
set_option maxHeartbeats 2000000 in
theorem del_raw {w : World} {g k cap i : Nat} {cur : Array Value} (hb : Blk w g 39 cur) (hcs : cur.size = cap * 3) (hn : k + 1 ≤ cap) (hi : i < k + 1) (hn2 : k ≤ 1000) (hcap : cap ≤ 9223372036854775807) (hone : ∀ u ∈ cur.toList.take ((k + 1) * 3), u.oneCell' = true) :
    Calls Try.prog 33 #[.slice (some ⟨g, 0, none⟩) (k + 1) cap, .int .i64 (i : Nat), .int .i64 ((i : Int) + 1)] w fun e w' => e = .returned (.slice (some ⟨g, 0, none⟩) k cap) ∧
      ∃ cs', Blk w' g 39 cs' ∧ cs'.size = cap * 3 ∧ (∀ j, j < k * 3 → cs'[j]? = if j < i * 3 then cur[j]? else cur[j + 3]?) ∧ Chg [g] w w' := by
  have b1 : (0 : Int) ≤ (i : Int) := by omega
  have b2 : (i : Int) ≤ (i : Int) + 1 := by omega
  have b3 : (i : Int) + 1 ≤ (k : Int) + 1 := by omega
  have b4 : (k : Int) + 1 ≤ (cap : Int) := by omega
  have b5 : (i : Int) ≤ (cap : Int) := by omega
  have b6 : (0 : Int) ≤ (i : Int) + 1 := by omega
  have b7 : ((i : Int) == (i : Int) + 1) = false := by rw [beq_eq_false_iff_ne]; omega
  have b8 : ((i : Int) + 1).toNat = i + 1 := by omega
  have hread : Reads w w.heap.size 3 (some ⟨g, 0, none⟩) (k + 1) (cur.toList.take ((k + 1) * 3)) := by
    refine ⟨by rw [List.length_take, Array.length_toList, hcs]; exact Nat.min_eq_left (Nat.mul_le_mul_right _ hn), fun _ => ⟨_, rfl, hb.lt, fun j u hu => ?_⟩⟩
    rw [List.getElem?_take] at hu
    split at hu
    · have hadd : (⟨g, 0, none⟩ : Addr).add j = ⟨g, j, none⟩ := by
        unfold Addr.add
        split
        · subst_vars; rfl
        · simp
      rw [hadd, hb.cell, ← Array.getElem?_toList]
      exact hu
    · cases hu
  obtain ⟨A2, hA2, hr2, hs2⟩ : ∃ A2, (if cap = i + 1 then some ({ block := g, off := 0 } : Addr) else some { block := g, off := (i + 1) * 3 }) = A2 ∧ Reads w w.heap.size 3 A2 (k - i) ((cur.toList.take ((k + 1) * 3)).drop ((i + 1) * 3)) ∧ ∃ ad, A2 = some ad := by
    refine ⟨_, rfl, ?_, ?_⟩
    · have := hread.cut (k := i + 1) (cap := cap) (by omega) hn
      simpa [Addr.add] using this
    · split <;> exact ⟨_, rfl⟩
  have hone2 : ∀ u ∈ (cur.toList.take ((k + 1) * 3)).drop ((i + 1) * 3), u.oneCell' = true := fun u hu => hone u (List.mem_of_mem_drop hu)
  have b9 : ¬ cap = k := by omega
  have b10 : (k : Int) ≤ (k : Int) + 1 := by omega
  have b11 : (k : Int) ≤ (cap : Int) := by omega
  go_enter Try.func33, Try.ntmps33
  go_wp2_with fail
  go_region_held3 (fun w' => True) (trivial) ((refine step_room (P := Try.prog) (t := 33) Try.underlying33 sn_info (.tmp 22) (.tmp 25) (n := i) (m := k - i) (N := k) (by omega) hone2 hb.drew hcs (by omega) hr2.drew (by rfl) (by rfl) (by rfl) (by rfl) (.inr hs2) ?_))
  have hlen : ((cur.toList.take ((k + 1) * 3)).drop ((i + 1) * 3)).length = (k - i) * 3 := by
    rw [List.length_drop, List.length_take, Array.length_toList, hcs]
    omega
  obtain ⟨cs1, hb1, hs1, hc1⟩ := hb.setCells ((cur.toList.take ((k + 1) * 3)).drop ((i + 1) * 3)) (i * 3) (by rw [hlen, hcs]; omega)
  have HC1 := Lib.hid hc1
  have HS1 := Lib.hid hs1
  clear hc1 hs1
  go_wp2_with (refine list_clear (P := Try.prog) (t := 33) (c := cap - k) (.tmp 31) Try.underlying33 sn_zero (by intro u hu; simp [Value.cells] at hu; rcases hu with rfl | rfl | rfl <;> rfl) hb1.drew (off := k * 3) (by rw [HS1.out, hcs]; simp [Value.cells]; omega) (by rfl) (by rfl) (by rfl) ?_)
  go_ret
  have hs1 := HS1.out
  have hc1 := HC1.out
  obtain ⟨cs2, hb2, hs2, hc2⟩ := hb1.setCells (Value.agg #[.int .i64 0, .int .i64 0, .int .i64 0]).cells.toList (k * 3) (by rw [hs1, hcs]; simp [Value.cells]; omega)
  refine ⟨rfl, cs2, ?_, by omega, fun j hj => ?_, ?_⟩
  · exact hb2.drew
  · rw [hc2 j, if_neg (by omega), hc1 j, hlen]
    by_cases h1 : j < i * 3
    · rw [if_neg (by omega), if_pos h1]
    · rw [if_pos (by omega), if_neg h1, List.getElem?_drop, List.getElem?_take, if_pos (by omega), Array.getElem?_toList, show (i + 1) * 3 + (j - i * 3) = j + 3 from by omega]
  · exact (Chg.setCells (by simp) _ _ (Chg.setCells (by simp) _ _ (Chg.refl [g] w))).drew


theorem del_row {w : World} {g c i : Nat} {ps : List Sn} (h : Row w g 39 3 c snC ps) (hi : i < ps.length) (hl : ps.length ≤ 1000) :
    Calls Try.prog 33 #[.slice (some ⟨g, 0, none⟩) ps.length c, .int .i64 (i : Nat), .int .i64 ((i : Int) + 1)] w fun e w' => e = .returned (.slice (some ⟨g, 0, none⟩) (ps.eraseIdx i).length c) ∧ Row w' g 39 3 c snC (ps.eraseIdx i) ∧ Chg [g] w w' := by
  have hown := h.own (B := 0) snCells (Nat.zero_le _)
  obtain ⟨h1, h2, cs, hb, h3, h4⟩ := h
  obtain ⟨k, hk⟩ : ∃ k, ps.length = k + 1 := ⟨ps.length - 1, by omega⟩
  have he : (ps.eraseIdx i).length = k := by rw [List.length_eraseIdx, if_pos hi]; omega
  rw [hk]
  refine (del_raw (i := i) hb h3 (by omega) (by omega) (by omega) h2 (fun u hu => ?_)).mono ?_
  · rcases hown.2 with ⟨hv, _⟩ | ⟨g', cap, cur, e1, _, hh, _, _, _, htk⟩
    · cases hv
    · injection e1 with e1
      injection e1 with e1
      injection e1 with e1
      subst e1
      have := (Blk.inj (w := w) (g := g) (t := 39) hb hh).2
      subst this
      rw [hk] at htk
      rw [htk] at hu
      exact snCells.flat_one _ u hu
  · rintro e w' ⟨rfl, cs', hb', hs', hc', hch⟩
    refine ⟨by rw [he], ⟨by omega, h2, cs', hb', hs', fun j hj r hr => ?_⟩, hch⟩
    rw [he] at hj
    rw [hc' _ (by omega), List.getElem_eraseIdx]
    by_cases hji : j < i
    · rw [if_pos (by omega), dif_pos hji]
      exact h4 j (by omega) r hr
    · rw [if_neg (by omega), dif_neg hji, show j * 3 + r + 3 = (j + 1) * 3 + r from by omega]
      exact h4 (j + 1) (by omega) r hr

set_option maxHeartbeats 1000000 in
theorem sdrop_c {w : World} {B s : Nat} {O : List Nat} {wd tr nx : Int} {ps : List Sn} (h : SA w B s O wd tr nx ps) (x : Int) {k : Nat} (hf : fnd x ps = some k) (hk : k < ps.length) :
    Calls Try.prog 15 #[.pointer (some ⟨s, 0, none⟩), .int .i64 x] w fun e w' => e = .returned (.tuple #[.int .i64 ps[k].i, .int .i64 0]) ∧ SA w' B s O wd tr nx (ps.eraseIdx k) ∧ Chg (s :: O) w w' := by
  have HI := Lib.hid (sfind_c h x)
  rw [show fndI x ps = k from by rw [fndI, hf]] at HI
  obtain ⟨A, c, h9, h10⟩ := h.split
  rcases h10 with ⟨_, _, h0⟩ | ⟨g, rfl, hg, hgO, hgs, hr⟩
  · subst h0; simp at hk
  · have HR := Lib.hid hr
    have H9 := Lib.hid h9
    have HS := Lib.hid h
    have hl := h.hl
    have hgl := hr.lt
    clear h hf hr h9
    have hI : (k : Int) < (ps.length : Int) := by omega
    have hJ : (0 : Int) ≤ (k : Int) := by omega
    go_enter Try.func15, Try.ntmps15
    go_wp2_with fail
    refine HI.out.mono ?_
    rintro e w' ⟨rfl, hc⟩
    have hs := H9.out.chg hc (by simp)
    have e3 := (hs.cell 3).trans rfl
    have f3 := hs.frozen 3
    have hr2 := HR.out.chg hc (by simp)
    have e2 := (row_sn hr2 hk).2.1
    have HR2 := Lib.hid hr2
    have HS2 := Lib.hid hs
    have HC := Lib.hid hc
    have hsl := hs.lt
    clear hs hr2 hc
    go_wp2_with fail
    refine (del_row HR2.out hk hl).mono ?_
    rintro e w3 ⟨rfl, hr3, hc3⟩
    have hs3 := HS2.out.chg hc3 (by simpa using hgs.symm)
    have g3 := hs3.frozen 3
    have c3 := (hs3.cell 3).trans rfl
    have hsl3 := hs3.lt
    have HS3 := Lib.hid hs3
    have HR3 := Lib.hid hr3
    have HC3 := Lib.hid hc3
    clear hs3 hr3 hc3
    go_wp2_with fail
    go_ret2
    have kE : Chg (s :: O) w w3 := (HC.out.mono (S' := s :: O) (by simp)).trans HC3.out (by simp [hgO])
    have hq := HS3.out.set_ 3 (.slice (some ⟨g, 0, none⟩) (ps.eraseIdx k).length c)
    simp only [List.setIfInBounds_toArray, List.set_cons_succ, List.set_cons_zero] at hq
    exact ⟨rfl, HS.out.of_row hq (HR3.out.chg ((Chg.refl [s] w3).setCell (p := ⟨s, 3, none⟩) (by simp) _) (by simpa using hgs)) hg hgO HS.out.hn (by have := List.length_eraseIdx_le ps k; omega) (fun p hp => HS.out.ok p (List.mem_of_mem_eraseIdx hp)) (kE.setCell (p := ⟨s, 3, none⟩) (by simp) _).size, kE.setCell (p := ⟨s, 3, none⟩) (by simp) _⟩

end Go.Proofs.Ytgkhendbpehagaa
