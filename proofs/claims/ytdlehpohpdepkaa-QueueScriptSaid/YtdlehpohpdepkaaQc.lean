/- The reference's queue: Pop. -/
import Derived.Test.YtdlehpohpdepkaaQb
namespace Go.Proofs.Ytdlehpohpdepkaa
open Go.RowKit
set_option linter.unusedVariables false
set_option linter.unusedSimpArgs false

section
variable {w : World} {B r : Nat} {O : List Nat} {most mb : Int}
set_option maxRecDepth 100000 in
set_option maxHeartbeats 2000000 in
theorem qfpop_nil (h : QF w B r O most mb []) :
    Calls Try.prog 39 #[.pointer (some ⟨r, 0, none⟩)] w fun e w' => e = .returned (.tuple #[.agg #[.int .i64 0, .int .i64 0, .int .i64 0, .int .i64 0, .int .i64 0], .int .i64 5]) ∧ Chg [] w w' := by
  obtain ⟨A, c, h9, _⟩ := h.row
  have e2 := (h9.cell 2).trans rfl
  have hl := h9.lt
  clear h h9
  go_enter Try.func39, Try.ntmps39
  go_wp2_with fail
  refine bodyPost_ret (v := .tuple #[.agg #[.int .i64 0, .int .i64 0, .int .i64 0, .int .i64 0, .int .i64 0], .int .i64 5]) (by simp [results, Try.results39, go_sem, *]) rfl ⟨rfl, ?_⟩
  repeat (first | (with_reducible exact Chg.refl _ _) | (with_reducible refine Chg.alloc ?_ _) | (with_reducible refine Chg.drew ?_) | ((with_reducible refine Chg.setCell ?_ ?hp _); case hp => simp))

set_option maxRecDepth 100000 in
set_option maxHeartbeats 4000000 in
theorem qfpop_cons {p : Pk} {ps : List Pk} (h : QF w B r O most mb (p :: ps)) :
    Calls Try.prog 39 #[.pointer (some ⟨r, 0, none⟩)] w fun e w' => e = .returned (.tuple #[.agg #[.int .i64 p.i, .int .i64 p.f, .int .i64 p.l, .int .i64 p.a, .int .i64 p.d], .int .i64 0]) ∧ QF w' B r O most mb ps ∧ Chg [r] w w' := by
  obtain ⟨A, c, h9, h10, h11, h12⟩ := h.row
  obtain ⟨g, off, rfl, hgO, hgl, c0, c1, c2, c3, c4⟩ := h12.at_ (k := 0) (by simp)
  have hp0 : pkAt (p :: ps) 0 = p := rfl
  rw [hp0] at c0 c1 c2 c3 c4
  simp only [Nat.zero_mul, Nat.add_zero] at c0 c1 c2 c3 c4
  obtain ⟨n, hn⟩ : ∃ n, ps.length = n := ⟨_, rfl⟩
  rw [List.length_cons, hn] at h9 h10
  have HN := Lib.hid hn
  have e2 := (h9.cell 2).trans rfl
  have f2 := h9.frozen 2
  have hl := h9.lt
  have H9 := Lib.hid h9
  have HH := Lib.hid h
  have H12 := Lib.hid h12
  obtain ⟨A2, hA2, hR2⟩ : ∃ A2, (if c = 1 then some ({ block := g, off := off } : Addr) else some { block := g, off := off + 5 }) = A2 ∧ RdP w O A2 ps := by
    refine ⟨_, rfl, ?_⟩
    rcases h12 with ⟨h, _⟩ | ⟨g', off', h1, h2, h3, h4⟩
    · cases h
    · injection h1 with h1
      injection h1 with h1 h5
      subst h1
      subst h5
      by_cases hc1 : c = 1
      · rw [if_pos hc1]
        have : ps = [] := List.eq_nil_of_length_eq_zero (by omega)
        subst this
        exact .inr ⟨g, off, rfl, h2, h3, fun k hk => absurd hk (by simp)⟩
      · rw [if_neg hc1]
        refine .inr ⟨g, off + 5, rfl, h2, h3, fun k hk q hq => ?_⟩
        have := h4 (k + 1) (by simp; omega) q hq
        rw [show off + ((k + 1) * 5 + q) = off + 5 + (k * 5 + q) from by omega] at this
        exact this
  have HR2 := Lib.hid hR2
  have hb0 : (0 : Int) < (n : Int) + 1 := by omega
  have hb1 : (1 : Int) ≤ (n : Int) + 1 := by omega
  have hb2 : ((n : Int) + 1 == 0) = false := by rw [beq_eq_false_iff_ne]; omega
  have hn0 : n + 1 - 1 = n := by omega
  clear h h9 h12 hR2 hn hp0
  go_enter Try.func39, Try.ntmps39
  go_wp2_with fail
  refine bodyPost_ret (v := .tuple #[.agg #[.int .i64 p.i, .int .i64 p.f, .int .i64 p.l, .int .i64 p.a, .int .i64 p.d], .int .i64 0]) (by simp [results, Try.results39, go_sem, *]) rfl ⟨rfl, ?_, ?_⟩
  · have hh := HH.out
    have hb := H9.out.set_ 2 (.slice A2 n (c - 1))
    simp only [List.setIfInBounds_toArray, List.set_cons_zero, List.set_cons_succ] at hb
    have hc1 : Chg [r] w (w.setCell ⟨r, 2, none⟩ (.slice A2 n (c - 1))) := (Chg.refl [r] w).setCell (by simp) _
    have hn := HN.out
    subst hn
    have hq : QF (w.setCell ⟨r, 2, none⟩ (.slice A2 ps.length (c - 1))) B r O most mb ps := ⟨hh.Br, hh.rO, hh.BO, fun j hj => by have := hh.Ol j hj; have := hc1.size; omega, hh.cap, by have := hh.hl; simp at this; omega, fun p hp => hh.ok p (by simp [hp]), A2, c - 1, hb, by omega, by omega, HR2.out.chg hc1 (fun j hj => by simp; rintro rfl; exact hh.rO hj)⟩
    exact hq.chg (S := []) (by repeat (first | (with_reducible exact Chg.refl _ _) | (with_reducible refine Chg.alloc ?_ _))) (by simp) (by simp)
  · repeat (first | (with_reducible exact Chg.refl _ _) | (with_reducible refine Chg.alloc ?_ _) | (with_reducible refine Chg.drew ?_) | ((with_reducible refine Chg.setCell ?_ ?hp _); case hp => simp))
end

end Go.Proofs.Ytdlehpohpdepkaa
