/- The queue's state as a list of packets ('QA'), the contracts of New, Push, Bytes said of it, and the sanity check (awake). -/
import Derived.Test.YtdlehpohpdepkaaQu
import Derived.BigRegion
namespace Go.Proofs.Ytdlehpohpdepkaa
open Go.RowKit
set_option linter.unusedVariables false
set_option linter.unusedSimpArgs false

def vld (p : Pk) : Bool := validB p.i p.f p.l p.a p.d
/-- Block q is a queue with these caps that holds ps; its row lies in one of the blocks O, if anywhere. -/
def QA (w : World) (B q : Nat) (O : List Nat) (most mb : Int) (ps : List Pk) : Prop :=
  B ≤ q ∧ most ≤ 64 ∧ mb ≤ 262144 ∧ ps.length ≤ 64 ∧ (∀ p ∈ ps, vld p = true) ∧ ∃ A c, Blk w q 57 #[.int .i64 most, .int .i64 mb, .slice A ps.length c, .int .i64 (tot ps)] ∧
    w.ownsRow B 24 5 (.slice A ps.length c) ps.length (ps.flatMap pkC) ∧ ∀ j ∈ ownL (.slice A ps.length c), j ∈ O

theorem vld_len {p : Pk} (h : vld p = true) : 1 ≤ p.l ∧ p.l ≤ 4096 ∧ 1 ≤ p.i := by
  unfold vld validB at h
  have := of_decide_eq_true h
  omega
theorem tot_bd {ps : List Pk} (h : ∀ p ∈ ps, vld p = true) : 0 ≤ tot ps ∧ tot ps ≤ 4096 * ps.length := by
  induction ps with
  | nil => simp [tot]
  | cons p r ih =>
    have h1 := vld_len (h p (by simp))
    have h2 := ih (fun x hx => h x (by simp [hx]))
    simp only [tot, List.length_cons]
    omega
theorem QA.chg {S O : List Nat} {w w' : World} {B q : Nat} {most mb : Int} {ps : List Pk} (h : QA w B q O most mb ps) (hc : Chg S w w') (hq : q ∉ S) (hO : ∀ j ∈ O, j ∉ S) : QA w' B q O most mb ps := by
  obtain ⟨h1, h2, h3, h4, h5, A, c, h6, h7, h8⟩ := h
  exact ⟨h1, h2, h3, h4, h5, A, c, h6.chg hc hq, own_chg h7 hc (fun g hg => hO g (h8 g (mem_ownL.2 hg))), h8⟩
theorem QA.lt {O : List Nat} {w : World} {B q : Nat} {most mb : Int} {ps : List Pk} (h : QA w B q O most mb ps) : B ≤ q ∧ q < w.heap.size := by
  obtain ⟨h1, h2, h3, h4, h5, A, c, h6, h7, h8⟩ := h
  exact ⟨h1, h6.lt⟩

/-- Whether a packet is refused, and with which code. -/
def qpE (most mb : Int) (ps : List Pk) (p : Pk) : Int := if vld p then (if most ≤ ps.length ∨ mb < tot ps + p.l then 4 else 0) else 1
def qpL (most mb : Int) (ps : List Pk) (p : Pk) : List Pk := if vld p then (if most ≤ ps.length ∨ mb < tot ps + p.l then ps else ps ++ [p]) else ps

theorem qpush_c {w : World} {B q : Nat} {O : List Nat} {most mb : Int} {ps : List Pk} (h : QA w B q O most mb ps) (hB : B ≤ w.heap.size) (i f l a d : Int) :
    Calls Try.prog 19 #[.pointer (some ⟨q, 0, none⟩), .agg #[.int .i64 i, .int .i64 f, .int .i64 l, .int .i64 a, .int .i64 d]] w fun e w' =>
      e = .returned (.int .i64 (qpE most mb ps ⟨i, f, l, a, d⟩)) ∧ ∃ O', QA w' B q O' most mb (qpL most mb ps ⟨i, f, l, a, d⟩) ∧ (∀ j ∈ O', j ∈ O ∨ w.heap.size ≤ j) ∧ Chg (q :: O) w w' := by
  have h0 := h
  obtain ⟨h1, h2, h3, h4, h5, A, c, h6, h7, h8⟩ := h
  have hb := tot_bd h5
  cases hv : vld ⟨i, f, l, a, d⟩ with
  | false =>
    refine (qpush_bad q i f l a d w hv).mono ?_
    rintro e w' ⟨rfl, hc⟩
    refine ⟨by simp [qpE, hv], O, ?_, fun j hj => .inl hj, hc.mono (by simp)⟩
    rw [qpL, hv]
    exact h0.chg hc (by simp) (by simp)
  | true =>
    have hl := vld_len hv
    simp only at hl
    by_cases hf : most ≤ (ps.length : Int) ∨ mb < tot ps + l
    · refine (qpush_full q i f l a d most mb (tot ps) A ps.length c w hv ((h6.cell 0).trans rfl) ((h6.cell 1).trans rfl) ((h6.cell 2).trans rfl) ((h6.cell 3).trans rfl) (by omega) (by omega) hb.1 (by omega) hf).mono ?_
      rintro e w' ⟨rfl, hc⟩
      refine ⟨by simp [qpE, hv, hf], O, ?_, fun j hj => .inl hj, hc.mono (by simp)⟩
      rw [qpL, hv, if_pos rfl, if_pos hf]
      exact h0.chg hc (by simp) (by simp)
    · refine (qpush_room q i f l a d most mb (tot ps) A ps.length c w B _ hv h6 h7 hB (by omega) (by omega) (by omega) hb.1 (by omega) (by omega) (by omega)).mono ?_
      rintro e w' ⟨rfl, A', c', W, m, ho, hc, hloc, rfl⟩
      have hqo := ownL_blk h7 h6 (by decide)
      have hqW := h6.chg hc hqo
      refine ⟨by simp [qpE, hv, hf], ownL (.slice A' (ps.length + 1) c'), ?_, fun j hj => ?_, ?_⟩
      · rw [qpL, hv, if_pos rfl, if_neg hf]
        have hqn := ownL_blk ho hqW (by decide)
        refine ⟨h1, h2, h3, by simp; omega, fun p hp => ?_, A', c', ?_, ?_, fun j hj => by simpa using hj⟩
        · rcases List.mem_append.1 hp with hp | hp
          · exact h5 p hp
          · simp at hp; subst hp; exact hv
        · have := ((hqW.set_ 2 (.slice A' (ps.length + 1) c')).set_ 3 (.int .i64 (tot ps + l))).drewN m
          simpa [tot_append, tot] using this
        · have h9 : (ps ++ [(⟨i, f, l, a, d⟩ : Pk)]).flatMap pkC = ps.flatMap pkC ++ [.int .i64 i, .int .i64 f, .int .i64 l, .int .i64 a, .int .i64 d] := by simp [pkC]
          rw [h9, show (ps ++ [(⟨i, f, l, a, d⟩ : Pk)]).length = ps.length + 1 from by simp]
          exact own_drewN (own_chg ho (((Chg.refl [q] W).setCell (by simp) _).setCell (by simp) _) (fun g hg => by simp; rintro rfl; exact hqn (mem_ownL.2 hg))) m
      · rcases hloc j hj with h | h
        · exact .inl (h8 j h)
        · exact .inr h
      · exact (((hc.mono (S' := q :: O) (fun x hx => .inl (by simp [h8 x hx]))).setCell (by simp) _).setCell (by simp) _).drewN m

theorem qnew_c (n k : Int) (h1 : 1 ≤ n) (h2 : n ≤ 64) (h3 : 1 ≤ k) (h4 : k ≤ 262144) (w : World) {B : Nat} (hB : B ≤ w.heap.size) :
    Calls Try.prog 12 #[.int .i64 n, .int .i64 k] w fun e w' => ∃ q, e = .returned (.tuple #[.pointer (some ⟨q, 0, none⟩), .int .i64 0]) ∧ QA w' B q [] n k [] ∧ w.heap.size ≤ q ∧ Chg [] w w' := by
  refine (qnew_ok n k h1 h2 h3 h4 w).mono ?_
  rintro e w' ⟨rfl, m, rfl⟩
  exact ⟨w.heap.size, rfl, ⟨hB, h2, h4, by simp, by simp, none, 0, (Blk.new _ _ _).drewN m, World.ownsRow_nil _ _ _ _, by simp [ownL, Value.ownBlock]⟩, Nat.le_refl _, ((Chg.refl _ _).alloc _).drewN m⟩
theorem qbytes_c {w : World} {B q : Nat} {O : List Nat} {most mb : Int} {ps : List Pk} (h : QA w B q O most mb ps) :
    Calls Try.prog 18 #[.pointer (some ⟨q, 0, none⟩)] w fun e w' => e = .returned (.int .i64 (tot ps)) ∧ ∃ m, w' = w.drewN m := by
  obtain ⟨h1, h2, h3, h4, h5, A, c, h6, h7, h8⟩ := h
  exact bytes_raw q _ w ((h6.cell 3).trans rfl)

theorem pk5 {w : World} {b : Nat} {t : TypeId} {v0 v1 v2 v3 v4 : Value} (h : Blk w b t #[v0, v1, v2, v3, v4]) :
    w.cell? ⟨b, 0, none⟩ = some v0 ∧ w.cell? ⟨b, 1, none⟩ = some v1 ∧ w.cell? ⟨b, 2, none⟩ = some v2 ∧ w.cell? ⟨b, 3, none⟩ = some v3 ∧ w.cell? ⟨b, 4, none⟩ = some v4 :=
  ⟨(h.cell 0).trans rfl, (h.cell 1).trans rfl, (h.cell 2).trans rfl, (h.cell 3).trans rfl, (h.cell 4).trans rfl⟩

set_option maxHeartbeats 2000000 in
theorem qawake_c (w : World) : Calls Try.prog 11 #[] w fun e w' => e = .returned (.bool true) ∧ Chg [] w w' := by
  go_enter Try.func11, Try.ntmps11
  go_wp2_with fail
  refine (qnew_c 2 100 (by omega) (by omega) (by omega) (by omega) w (Nat.le_refl _)).mono ?_
  rintro e w1 ⟨q, rfl, hQ1, hq, hc1⟩
  go_wp2_with fail
  go_region
  · go_wp2_with fail
    have hz1 := hc1.size
    have hQ0 := hQ1.chg ((((Chg.refl [] w1).alloc (.cells #[.int .i64 1, .int .i64 0, .int .i64 60, .int .i64 0, .int .i64 (-1)] 24)).alloc (.cells #[.int .i64 1, .int .i64 0, .int .i64 50, .int .i64 0, .int .i64 (-1)] 24)).alloc (.cells #[.int .i64 1, .int .i64 0, .int .i64 40, .int .i64 0, .int .i64 (-1)] 24)).drew (by simp) (by simp)
    have hx0 := (((Blk.new (w1.alloc (.cells #[.int .i64 1, .int .i64 0, .int .i64 60, .int .i64 0, .int .i64 (-1)] 24)) 24 #[.int .i64 1, .int .i64 0, .int .i64 50, .int .i64 0, .int .i64 (-1)]).alloc (.cells #[.int .i64 1, .int .i64 0, .int .i64 40, .int .i64 0, .int .i64 (-1)] 24)).drew)
    have hy0 := (Blk.new ((w1.alloc (.cells #[.int .i64 1, .int .i64 0, .int .i64 60, .int .i64 0, .int .i64 (-1)] 24)).alloc (.cells #[.int .i64 1, .int .i64 0, .int .i64 50, .int .i64 0, .int .i64 (-1)] 24)) 24 #[.int .i64 1, .int .i64 0, .int .i64 40, .int .i64 0, .int .i64 (-1)]).drew
    rw [show (w1.alloc (.cells #[.int .i64 1, .int .i64 0, .int .i64 60, .int .i64 0, .int .i64 (-1)] 24)).heap.size = w1.heap.size + 1 from by simp] at hx0
    rw [show ((w1.alloc (.cells #[.int .i64 1, .int .i64 0, .int .i64 60, .int .i64 0, .int .i64 (-1)] 24)).alloc (.cells #[.int .i64 1, .int .i64 0, .int .i64 50, .int .i64 0, .int .i64 (-1)] 24)).heap.size = w1.heap.size + 1 + 1 from by simp] at hy0
    have hql := hQ1.lt
    refine (qpush_c hQ0 (by simp; omega) _ _ _ _ _).mono ?_
    rintro e w2 ⟨rfl, O2, hQ2, hO2, hc2⟩
    have hx2 := hx0.chg hc2 (by simp; omega)
    have hy2 := hy0.chg hc2 (by simp; omega)
    have hz2 := hc2.size
    simp at hz2 hO2
    have k2 : Chg [] w w2 := (hc1.trans ((((Chg.refl [] w1).alloc (.cells #[.int .i64 1, .int .i64 0, .int .i64 60, .int .i64 0, .int .i64 (-1)] 24)).alloc (.cells #[.int .i64 1, .int .i64 0, .int .i64 50, .int .i64 0, .int .i64 (-1)] 24)).alloc (.cells #[.int .i64 1, .int .i64 0, .int .i64 40, .int .i64 0, .int .i64 (-1)] 24)).drew (by simp)).trans hc2 (by simp; omega)
    rw [show qpE 2 100 [] ⟨1, 0, 60, 0, -1⟩ = 0 from by decide]
    rw [show qpL 2 100 [] ⟨1, 0, 60, 0, -1⟩ = [⟨1, 0, 60, 0, -1⟩] from by rfl] at hQ2
    obtain ⟨x0, x1, x2, x3, x4⟩ := pk5 hx2
    obtain ⟨y0, y1, y2, y3, y4⟩ := pk5 hy2
    clear hQ0 hx0 hy0 hc2 hQ1 hc1
    go_wp2_with fail
    refine (qpush_c hQ2 (by omega) _ _ _ _ _).mono ?_
    rintro e w3 ⟨rfl, O3, hQ3, hO3, hc3⟩
    have hx3 := hx2.chg hc3 (by simp; exact ⟨by omega, fun hm => by have := hO2 _ hm; omega⟩)
    have hy3 := hy2.chg hc3 (by simp; exact ⟨by omega, fun hm => by have := hO2 _ hm; omega⟩)
    have k3 : Chg [] w w3 := k2.trans hc3 (by simp; exact ⟨by omega, fun j hm => by have := hO2 _ hm; omega⟩)
    have hz3 := hc3.size
    rw [show qpE 2 100 [⟨1, 0, 60, 0, -1⟩] ⟨1, 0, 50, 0, -1⟩ = 4 from by decide]
    rw [show qpL 2 100 [⟨1, 0, 60, 0, -1⟩] ⟨1, 0, 50, 0, -1⟩ = [⟨1, 0, 60, 0, -1⟩] from by rfl] at hQ3
    clear x0 x1 x2 x3 x4 y0 y1 y2 y3 y4
    obtain ⟨x0, x1, x2, x3, x4⟩ := pk5 hx3
    obtain ⟨y0, y1, y2, y3, y4⟩ := pk5 hy3
    go_wp2_with fail
    refine (qpush_c hQ3 (by omega) _ _ _ _ _).mono ?_
    rintro e w4 ⟨rfl, O4, hQ4, hO4, hc4⟩
    have k4 : Chg [] w w4 := k3.trans hc4 (by simp; exact ⟨by omega, fun j hm => by rcases hO3 _ hm with h | h <;> first | omega | (have := hO2 _ h; omega)⟩)
    rw [show qpE 2 100 [⟨1, 0, 60, 0, -1⟩] ⟨1, 0, 40, 0, -1⟩ = 0 from by decide]
    rw [show qpL 2 100 [⟨1, 0, 60, 0, -1⟩] ⟨1, 0, 40, 0, -1⟩ = [⟨1, 0, 60, 0, -1⟩, ⟨1, 0, 40, 0, -1⟩] from by rfl] at hQ4
    go_wp2_with fail
    refine (qbytes_c hQ4).mono ?_
    rintro e w5 ⟨rfl, m5, rfl⟩
    rw [show tot [⟨1, 0, 60, 0, -1⟩, ⟨1, 0, 40, 0, -1⟩] = 100 from by decide]
    go_wp2_with fail
    go_ret
    exact ⟨rfl, k4.drewN m5⟩
  · go_wp2_with fail
    have hz1 := hc1.size
    have hQ0 := hQ1.chg ((((Chg.refl [] w1).alloc (.cells #[.int .i64 1, .int .i64 0, .int .i64 60, .int .i64 0, .int .i64 (-1)] 24)).alloc (.cells #[.int .i64 1, .int .i64 0, .int .i64 40, .int .i64 0, .int .i64 (-1)] 24)).alloc (.cells #[.int .i64 1, .int .i64 0, .int .i64 50, .int .i64 0, .int .i64 (-1)] 24)).drew (by simp) (by simp)
    have hx0 := (((Blk.new (w1.alloc (.cells #[.int .i64 1, .int .i64 0, .int .i64 60, .int .i64 0, .int .i64 (-1)] 24)) 24 #[.int .i64 1, .int .i64 0, .int .i64 40, .int .i64 0, .int .i64 (-1)]).alloc (.cells #[.int .i64 1, .int .i64 0, .int .i64 50, .int .i64 0, .int .i64 (-1)] 24)).drew)
    have hy0 := (Blk.new ((w1.alloc (.cells #[.int .i64 1, .int .i64 0, .int .i64 60, .int .i64 0, .int .i64 (-1)] 24)).alloc (.cells #[.int .i64 1, .int .i64 0, .int .i64 40, .int .i64 0, .int .i64 (-1)] 24)) 24 #[.int .i64 1, .int .i64 0, .int .i64 50, .int .i64 0, .int .i64 (-1)]).drew
    rw [show (w1.alloc (.cells #[.int .i64 1, .int .i64 0, .int .i64 60, .int .i64 0, .int .i64 (-1)] 24)).heap.size = w1.heap.size + 1 from by simp] at hx0
    rw [show ((w1.alloc (.cells #[.int .i64 1, .int .i64 0, .int .i64 60, .int .i64 0, .int .i64 (-1)] 24)).alloc (.cells #[.int .i64 1, .int .i64 0, .int .i64 40, .int .i64 0, .int .i64 (-1)] 24)).heap.size = w1.heap.size + 1 + 1 from by simp] at hy0
    have hql := hQ1.lt
    refine (qpush_c hQ0 (by simp; omega) _ _ _ _ _).mono ?_
    rintro e w2 ⟨rfl, O2, hQ2, hO2, hc2⟩
    have hx2 := hx0.chg hc2 (by simp; omega)
    have hy2 := hy0.chg hc2 (by simp; omega)
    have hz2 := hc2.size
    simp at hz2 hO2
    have k2 : Chg [] w w2 := (hc1.trans ((((Chg.refl [] w1).alloc (.cells #[.int .i64 1, .int .i64 0, .int .i64 60, .int .i64 0, .int .i64 (-1)] 24)).alloc (.cells #[.int .i64 1, .int .i64 0, .int .i64 40, .int .i64 0, .int .i64 (-1)] 24)).alloc (.cells #[.int .i64 1, .int .i64 0, .int .i64 50, .int .i64 0, .int .i64 (-1)] 24)).drew (by simp)).trans hc2 (by simp; omega)
    rw [show qpE 2 100 [] ⟨1, 0, 60, 0, -1⟩ = 0 from by decide]
    rw [show qpL 2 100 [] ⟨1, 0, 60, 0, -1⟩ = [⟨1, 0, 60, 0, -1⟩] from by rfl] at hQ2
    obtain ⟨x0, x1, x2, x3, x4⟩ := pk5 hx2
    obtain ⟨y0, y1, y2, y3, y4⟩ := pk5 hy2
    clear hQ0 hx0 hy0 hc2 hQ1 hc1
    go_wp2_with fail
    refine (qpush_c hQ2 (by omega) _ _ _ _ _).mono ?_
    rintro e w3 ⟨rfl, O3, hQ3, hO3, hc3⟩
    have hx3 := hx2.chg hc3 (by simp; exact ⟨by omega, fun hm => by have := hO2 _ hm; omega⟩)
    have hy3 := hy2.chg hc3 (by simp; exact ⟨by omega, fun hm => by have := hO2 _ hm; omega⟩)
    have k3 : Chg [] w w3 := k2.trans hc3 (by simp; exact ⟨by omega, fun j hm => by have := hO2 _ hm; omega⟩)
    have hz3 := hc3.size
    rw [show qpE 2 100 [⟨1, 0, 60, 0, -1⟩] ⟨1, 0, 50, 0, -1⟩ = 4 from by decide]
    rw [show qpL 2 100 [⟨1, 0, 60, 0, -1⟩] ⟨1, 0, 50, 0, -1⟩ = [⟨1, 0, 60, 0, -1⟩] from by rfl] at hQ3
    clear x0 x1 x2 x3 x4 y0 y1 y2 y3 y4
    obtain ⟨x0, x1, x2, x3, x4⟩ := pk5 hx3
    obtain ⟨y0, y1, y2, y3, y4⟩ := pk5 hy3
    go_wp2_with fail
    refine (qpush_c hQ3 (by omega) _ _ _ _ _).mono ?_
    rintro e w4 ⟨rfl, O4, hQ4, hO4, hc4⟩
    have k4 : Chg [] w w4 := k3.trans hc4 (by simp; exact ⟨by omega, fun j hm => by rcases hO3 _ hm with h | h <;> first | omega | (have := hO2 _ h; omega)⟩)
    rw [show qpE 2 100 [⟨1, 0, 60, 0, -1⟩] ⟨1, 0, 40, 0, -1⟩ = 0 from by decide]
    rw [show qpL 2 100 [⟨1, 0, 60, 0, -1⟩] ⟨1, 0, 40, 0, -1⟩ = [⟨1, 0, 60, 0, -1⟩, ⟨1, 0, 40, 0, -1⟩] from by rfl] at hQ4
    go_wp2_with fail
    refine (qbytes_c hQ4).mono ?_
    rintro e w5 ⟨rfl, m5, rfl⟩
    rw [show tot [⟨1, 0, 60, 0, -1⟩, ⟨1, 0, 40, 0, -1⟩] = 100 from by decide]
    go_wp2_with fail
    go_ret
    exact ⟨rfl, k4.drewN m5⟩

end Go.Proofs.Ytdlehpohpdepkaa
