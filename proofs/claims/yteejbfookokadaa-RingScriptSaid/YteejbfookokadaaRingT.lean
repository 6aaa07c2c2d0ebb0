/- The walk of the statement RingScript: the ring against the reference's list, call by call. -/
import Derived.Test.YteejbfookokadaaRingR
namespace Go.Proofs.Yteejbfookokadaa
open Go.RowKit
set_option linter.unusedVariables false
set_option linter.unusedSimpArgs false

/-- The state between two calls: the choices in block c, the ring in r and q, the reference in s and g; both hold L. -/
structure RS (w : World) (B c r q s g n : Nat) (zs : List Int) (k : Nat) (L M : List Int) : Prop where
  cho : Cho w B c zs k
  ring : RingA w B r q n L
  ref : RefA w B s g n M
  cr : c ≠ r
  cq : c ≠ q
  cs : c ≠ s
  cg : c ≠ g
  rs : r ≠ s
  qs : q ≠ s
  rg : r ≠ g
  qg : q ≠ g

section
variable {w w' : World} {B c r q s g n k : Nat} {zs L M : List Int}
theorem RS.lt (h : RS w B c r q s g n zs k L M) : B ≤ c ∧ B ≤ r ∧ B ≤ q ∧ B ≤ s ∧ c < w.heap.size ∧ r < w.heap.size ∧ q < w.heap.size ∧ s < w.heap.size := by
  have h1 := h.cho.lt
  have h2 := h.cho.le
  have h3 := h.ring.lt
  have h4 := h.ref.lt
  exact ⟨h2, h3.1, h3.2.1, h4.1, h1, h3.2.2.2.1, h3.2.2.2.2, h4.2.1⟩
theorem RS.toCho {k' : Nat} (h : RS w B c r q s g n zs k L M) (hC : Cho w' B c zs k') (hc : Chg [c] w w') : RS w' B c r q s g n zs k' L M :=
  ⟨hC, h.ring.chg hc (by simp; exact h.cr.symm) (by simp; exact h.cq.symm), h.ref.chg hc (by simp; exact h.cs.symm) (by simp; exact h.cg.symm), h.cr, h.cq, h.cs, h.cg, h.rs, h.qs, h.rg, h.qg⟩
theorem RS.toRing {L' : List Int} (h : RS w B c r q s g n zs k L M) (hR : RingA w' B r q n L') (hc : Chg [r, q] w w') : RS w' B c r q s g n zs k L' M :=
  ⟨h.cho.chg hc (by simp [h.cr, h.cq]) (by have := h.lt; simp; omega), hR, h.ref.chg hc (by simp [h.rs.symm, h.qs.symm]) (by simp [h.rg.symm, h.qg.symm]), h.cr, h.cq, h.cs, h.cg, h.rs, h.qs, h.rg, h.qg⟩
theorem RS.toRef {M' : List Int} {g' : Nat} (h : RS w B c r q s g n zs k L M) (hR : RefA w' B s g' n M') (hg : g' = g ∨ w.heap.size ≤ g') (hc : Chg [s] w w') : RS w' B c r q s g' n zs k L M' := by
  have hl := h.lt
  have h1 := h.cg
  have h2 := h.rg
  have h3 := h.qg
  exact ⟨h.cho.chg hc (by simp [h.cs]) (by simp; omega), h.ring.chg hc (by simp [h.rs]) (by simp [h.qs]), hR, h.cr, h.cq, h.cs, by omega, h.rs, h.qs, by omega, by omega⟩
theorem RS.toQuiet (h : RS w B c r q s g n zs k L M) (hc : Chg [] w w') : RS w' B c r q s g n zs k L M :=
  ⟨h.cho.chg hc (by simp) (by simp), h.ring.chg hc (by simp) (by simp), h.ref.chg hc (by simp) (by simp), h.cr, h.cq, h.cs, h.cg, h.rs, h.qs, h.rg, h.qg⟩
end

set_option maxHeartbeats 400000 in
theorem empty_c (b : Bool) (w : World) : Calls Try.prog 26 #[.bool b] w fun e w' => e = .returned (.int .i64 (codeE b 5)) ∧ ∃ m, w' = w.drewN m := by
  cases b
  all_goals
    go_enter Try.func26, Try.ntmps26
    go_wp2
    go_ret
    exact ⟨rfl, 0, rfl⟩

/-- What act leaves. -/
def ActPost (w : World) (B c r q s g n : Nat) (zs : List Int) (k : Nat) (e : Ending) (w' : World) : Prop :=
  e = .returned (.bool true) ∧ ∃ g' L', RS w' B c r q s g' n zs (k + 3) L' L' ∧ Chg [c, r, q, s] w w' ∧ (g' = g ∨ w.heap.size ≤ g')

section
variable {w w0 : World} {B c r q s g n k : Nat} {zs L M : List Int}
theorem four_c {w1 w2 : World} (h : Chg [c, r, q, s] w w1) (k : Chg [c] w1 w2) : Chg [c, r, q, s] w w2 := h.trans k (by simp)
theorem four_rq {w1 w2 : World} (h : Chg [c, r, q, s] w w1) (k : Chg [r, q] w1 w2) : Chg [c, r, q, s] w w2 := h.trans k (by simp)
theorem four_s {w1 w2 : World} (h : Chg [c, r, q, s] w w1) (k : Chg [s] w1 w2) : Chg [c, r, q, s] w w2 := h.trans k (by simp)

set_option maxRecDepth 100000 in
set_option maxHeartbeats 4000000 in
theorem act_c (h : RS w B c r q s g n zs k L L) (hk : k ≤ 100000) : Calls Try.prog 21 #[.pointer (some ⟨c, 0, none⟩), .pointer (some ⟨r, 0, none⟩), .pointer (some ⟨s, 0, none⟩)] w (ActPost w B c r q s g n zs k) := by
  go_enter Try.func21, Try.ntmps21
  go_wp2_with fail
  refine (next_c h.cho (by omega) (by omega)).mono ?_
  rintro e w1 ⟨rfl, hC1, hc1⟩
  have s1 := h.toCho hC1 hc1
  have k1 := four_c (Chg.refl [c, r, q, s] w) hc1
  have hb1 := nx_nonneg zs k 100
  have hb2 := nx_lt zs k 100 (by omega)
  generalize nx zs k 100 = v at hb1 hb2 ⊢
  go_wp2_with fail
  refine (next_c hC1 (by omega) (by omega)).mono ?_
  rintro e w2 ⟨rfl, hC2, hc2⟩
  have s2 := s1.toCho hC2 hc2
  have k2 := four_c k1 hc2
  have hb3 := nx_nonneg zs (k + 1) 7
  have hb4 := nx_lt zs (k + 1) 7 (by omega)
  generalize nx zs (k + 1) 7 = i7 at hb3 hb4 ⊢
  obtain ⟨i, rfl⟩ : ∃ i, i7 = i + 1 := ⟨i7 - 1, by omega⟩
  go_wp2_with fail
  refine (next_c hC2 (by omega) (by omega)).mono ?_
  rintro e w3 ⟨rfl, hC3, hc3⟩
  have s3 := s2.toCho hC3 hc3
  have k3 := four_c k2 hc3
  have hb5 := nx_nonneg zs (k + 1 + 1) 8
  have hb6 := nx_lt zs (k + 1 + 1) 8 (by omega)
  have hd : nx zs (k + 1 + 1) 8 = 0 ∨ nx zs (k + 1 + 1) 8 = 1 ∨ nx zs (k + 1 + 1) 8 = 2 ∨ nx zs (k + 1 + 1) 8 = 3 ∨ nx zs (k + 1 + 1) 8 = 4 ∨ nx zs (k + 1 + 1) 8 = 5 ∨ nx zs (k + 1 + 1) 8 = 6 ∨ nx zs (k + 1 + 1) 8 = 7 := by
    omega
  clear h s1 s2 k1 k2 hC1 hC2 hC3 hc1 hc2 hc3 hb5 hb6
  have hl := s3.lt
  rcases hd with hd | hd | hd | hd | hd | hd | hd | hd <;> rw [hd] <;> clear hd
  · go_wp2_with fail
    refine (push_c s3.ring v).mono ?_
    rintro e w4 ⟨rfl, hR4, hc4⟩
    have s4 := s3.toRing hR4 hc4
    have k4 := four_rq k3 hc4
    go_wp2_with fail
    refine (ins_c s4.ref v false).mono ?_
    rintro e w5 ⟨rfl, g5, hR5, hg5, hc5⟩
    go_wp2_with fail
    go_ret
    exact ⟨rfl, g5, _, s4.toRef hR5 hg5 hc5, four_s k4 hc5, by have := k4.size; omega⟩
  · go_wp2_with fail
    refine (push_c s3.ring v).mono ?_
    rintro e w4 ⟨rfl, hR4, hc4⟩
    have s4 := s3.toRing hR4 hc4
    have k4 := four_rq k3 hc4
    go_wp2_with fail
    refine (ins_c s4.ref v false).mono ?_
    rintro e w5 ⟨rfl, g5, hR5, hg5, hc5⟩
    go_wp2_with fail
    go_ret
    exact ⟨rfl, g5, _, s4.toRef hR5 hg5 hc5, four_s k4 hc5, by have := k4.size; omega⟩
  · go_wp2_with fail
    refine (pushf_c s3.ring v).mono ?_
    rintro e w4 ⟨rfl, hR4, hc4⟩
    have s4 := s3.toRing hR4 hc4
    have k4 := four_rq k3 hc4
    go_wp2_with fail
    refine (ins_c s4.ref v true).mono ?_
    rintro e w5 ⟨rfl, g5, hR5, hg5, hc5⟩
    go_wp2_with fail
    go_ret
    exact ⟨rfl, g5, _, s4.toRef hR5 hg5 hc5, four_s k4 hc5, by have := k4.size; omega⟩
  · go_wp2_with fail
    refine (pop_c s3.ring).mono ?_
    rintro e w4 ⟨rfl, hR4, hc4⟩
    have s4 := s3.toRing hR4 hc4
    have k4 := four_rq k3 hc4
    go_wp2_with fail
    refine (take_c s4.ref 0).mono ?_
    rintro e w5 ⟨rfl, g5, hR5, hg5, hc5⟩
    go_wp2_with fail
    refine (empty_c _ _).mono ?_
    rintro e w6 ⟨rfl, m6, rfl⟩
    go_wp2_with fail
    go_ret
    exact ⟨rfl, g5, _, (s4.toRef hR5 hg5 hc5).toQuiet ((Chg.refl _ _).drewN m6), (four_s k4 hc5).drewN m6, by have := k4.size; omega⟩
  · have hM := s3.ref
    obtain ⟨a1, a2, a3, a4, aa, ac, a5, a6, a7⟩ := hM
    go_wp2_with fail
    refine (popb_c s3.ring).mono ?_
    rintro e w4 ⟨rfl, hR4, hc4⟩
    have s4 := s3.toRing hR4 hc4
    have k4 := four_rq k3 hc4
    have e1 : w4.cell? ⟨s, 1, none⟩ = some (.slice aa L.length ac) := ((a5.chg hc4 (by simp [s3.rs.symm, s3.qs.symm])).cell 1).trans rfl
    go_wp2_with fail
    refine (take_c s4.ref _).mono ?_
    rintro e w5 ⟨rfl, g5, hR5, hg5, hc5⟩
    go_wp2_with fail
    refine (empty_c _ _).mono ?_
    rintro e w6 ⟨rfl, m6, rfl⟩
    go_wp2_with fail
    go_ret
    exact ⟨rfl, g5, _, (s4.toRef hR5 hg5 hc5).toQuiet ((Chg.refl _ _).drewN m6), (four_s k4 hc5).drewN m6, by have := k4.size; omega⟩
  · have hM := s3.ref
    obtain ⟨a1, a2, a3, a4, aa, ac, a5, a6, a7⟩ := hM
    go_wp2_with fail
    refine (at_c s3.ring _).mono ?_
    rintro e w4 ⟨rfl, m4, rfl⟩
    have e1 : w3.cell? ⟨s, 1, none⟩ = some (.slice aa L.length ac) := (a5.cell 1).trans rfl
    cases hok : takeOk L i
    · have hbad : ¬ (0 ≤ i ∧ i < L.length) := by simpa [takeOk] using hok
      have hv0 : takeV L i = 0 := by rw [takeV, hok]; rfl
      rw [hv0]
      have hcd := Lib.hid hok
      clear hok hv0
      by_cases hi0 : i < 0
      · go_wp2_with fail
        go_ret
        exact ⟨rfl, g, _, s3.toQuiet ((Chg.refl _ _).drewN _), k3.drewN _, .inl rfl⟩
      · have hdc : decide (i < (L.length : Int)) = false := by simp; omega
        go_wp2_with fail
        go_ret
        exact ⟨rfl, g, _, s3.toQuiet ((Chg.refl _ _).drewN _), k3.drewN _, .inl rfl⟩
    · have hgood : 0 ≤ i ∧ i < L.length := by simpa [takeOk] using hok
      obtain ⟨hg1, hg2⟩ := hgood
      obtain ⟨ix, rfl⟩ := Int.eq_ofNat_of_zero_le hg1
      have hv0 : takeV L ix = L.getD ix 0 := by rw [takeV, hok]; rfl
      obtain ⟨off, rfl, e2⟩ := a6.2 ix (by omega)
      rw [hv0]
      generalize L.getD ix 0 = u at e2 ⊢
      have hcd := Lib.hid hok
      clear hok hv0
      go_wp2_with fail
      go_ret
      exact ⟨rfl, g, _, s3.toQuiet ((Chg.refl _ _).drewN _), k3.drewN _, .inl rfl⟩
  · go_wp2_with fail
    refine (remove_c s3.ring _).mono ?_
    rintro e w4 ⟨rfl, hR4, hc4⟩
    have s4 := s3.toRing hR4 hc4
    have k4 := four_rq k3 hc4
    have f1 : (codeE true 6 == 0) = true := rfl
    have f2 : (codeE false 6 == 6) = true := rfl
    go_wp2_with fail
    refine (take_c s4.ref _).mono ?_
    rintro e w5 ⟨rfl, g5, hR5, hg5, hc5⟩
    cases hok : takeOk L i
    all_goals
      have hcd := Lib.hid hok
      clear hok
      go_wp2_with fail
      go_ret
      exact ⟨rfl, g5, _, s4.toRef hR5 hg5 hc5, four_s k4 hc5, by have := k4.size; omega⟩
  · go_wp2_with fail
    refine (remove_c s3.ring _).mono ?_
    rintro e w4 ⟨rfl, hR4, hc4⟩
    have s4 := s3.toRing hR4 hc4
    have k4 := four_rq k3 hc4
    have f1 : (codeE true 6 == 0) = true := rfl
    have f2 : (codeE false 6 == 6) = true := rfl
    go_wp2_with fail
    refine (take_c s4.ref _).mono ?_
    rintro e w5 ⟨rfl, g5, hR5, hg5, hc5⟩
    cases hok : takeOk L i
    all_goals
      have hcd := Lib.hid hok
      clear hok
      go_wp2_with fail
      go_ret
      exact ⟨rfl, g5, _, s4.toRef hR5 hg5 hc5, four_s k4 hc5, by have := k4.size; omega⟩
end

end Go.Proofs.Yteejbfookokadaa
