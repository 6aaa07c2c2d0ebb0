/- Rows of structs as lists: a row of the call's own said of a list of elements, each of sz cells. No program is named. -/
import Derived.Test.YtgkhendbpehagaaApp
namespace Go.Proofs.Ytgkhendbpehagaa
open Go.RowKit
set_option linter.unusedVariables false
set_option linter.unusedSimpArgs false

theorem own_base {w : World} {B B' : Nat} {e : TypeId} {size n : Nat} {v : Value} {xs : List Value} (h : w.ownsRow B e size v n xs) (hb : B' ≤ B) : w.ownsRow B' e size v n xs := by
  refine ⟨h.1, ?_⟩
  rcases h.2 with h2 | ⟨g, cap, cur, hv, hg, r⟩
  · exact .inl h2
  · exact .inr ⟨g, cap, cur, hv, Nat.le_trans hb hg, r⟩

/-- Rows of two element types lie in two blocks. -/
theorem own_ne_own {w : World} {b b' : Nat} {e e' : TypeId} {s s' n n' : Nat} {v v' : Value} {xs xs' : List Value} (h : w.ownsRow b e s v n xs) (h' : w.ownsRow b' e' s' v' n' xs') (hne : e ≠ e') : ∀ g, v.ownBlock = some g → g ∉ ownL v' := by
  intro g hg hm
  have hm := mem_ownL.1 hm
  rcases h'.2 with ⟨rfl, _⟩ | ⟨g', cap, cur, rfl, _, hh, _⟩
  · cases hm
  · have : g' = g := by simpa [Value.ownBlock] using hm
    subst this
    exact own_ne_blk (t := e') (cs := cur) h hh hne hg

/-- sz cells to an element, each of one word. -/
structure Cells {α : Type} (C : α → List Value) (sz : Nat) : Prop where
  len : ∀ x, (C x).length = sz
  one : ∀ x, ∀ u ∈ C x, u.oneCell' = true

section
variable {α : Type} {C : α → List Value} {sz : Nat}
theorem Cells.flat_len (hC : Cells C sz) (L : List α) : (L.flatMap C).length = L.length * sz := by
  induction L with
  | nil => simp
  | cons p r ih => rw [List.flatMap_cons, List.length_append, ih, hC.len, List.length_cons, Nat.add_mul]; omega
theorem Cells.flat_one (hC : Cells C sz) (L : List α) : ∀ u ∈ L.flatMap C, u.oneCell' = true := by
  intro u hu
  obtain ⟨p, _, hp⟩ := List.mem_flatMap.1 hu
  exact hC.one p u hp
theorem Cells.flat_at (hC : Cells C sz) : ∀ (L : List α) (k : Nat) (hk : k < L.length), ∀ r, r < sz → (L.flatMap C)[k * sz + r]? = (C L[k])[r]?
  | p :: l, 0, hk, r, hr => by
    rw [List.flatMap_cons, Nat.zero_mul, Nat.zero_add, List.getElem?_append_left (by rw [hC.len]; exact hr)]
    rfl
  | p :: l, k + 1, hk, r, hr => by
    have hl := hC.len p
    rw [List.flatMap_cons, List.getElem?_append_right (by rw [hl, Nat.add_mul]; omega)]
    have := Cells.flat_at hC l k (by simpa using hk) r hr
    rw [show (k + 1) * sz + r - (C p).length = k * sz + r from by rw [hl, Nat.add_mul]; omega, this]
    rfl

/-- Block g, from its start, holds the elements of L; c elements fit. -/
def Row (w : World) (g : Nat) (e : TypeId) (sz c : Nat) (C : α → List Value) (L : List α) : Prop :=
  L.length ≤ c ∧ c ≤ 9223372036854775807 ∧ ∃ cs, Blk w g e cs ∧ cs.size = c * sz ∧ ∀ k (hk : k < L.length), ∀ r, r < sz → cs[k * sz + r]? = (C L[k])[r]?

theorem Row.lt {w : World} {g c : Nat} {e : TypeId} {L : List α} (h : Row w g e sz c C L) : g < w.heap.size := by
  obtain ⟨_, _, cs, hb, _⟩ := h
  exact hb.lt
theorem Row.chg {S : List Nat} {w w' : World} {g c : Nat} {e : TypeId} {L : List α} (h : Row w g e sz c C L) (hc : Chg S w w') (hg : g ∉ S) : Row w' g e sz c C L := by
  obtain ⟨h1, h2, cs, hb, h3⟩ := h
  exact ⟨h1, h2, cs, hb.chg hc hg, h3⟩
theorem Row.cell {w : World} {g c : Nat} {e : TypeId} {L : List α} (h : Row w g e sz c C L) {k : Nat} (hk : k < L.length) {r : Nat} (hr : r < sz) : w.cell? ⟨g, k * sz + r, none⟩ = (C L[k])[r]? := by
  obtain ⟨h1, h2, cs, hb, h3, h4⟩ := h
  rw [hb.cell, h4 k hk r hr]
theorem Row.frozen {w : World} {g c : Nat} {e : TypeId} {L : List α} (h : Row w g e sz c C L) (j : Nat) : w.frozen? ⟨g, j, none⟩ = false := by
  obtain ⟨h1, h2, cs, hb, h3, h4⟩ := h
  exact hb.frozen j
theorem Row.some_ {w : World} {g c : Nat} {e : TypeId} {L : List α} (h : Row w g e sz c C L) {j : Nat} (hj : j < c * sz) : ∃ v, w.cell? ⟨g, j, none⟩ = some v := by
  obtain ⟨h1, h2, cs, hb, h3, h4⟩ := h
  exact ⟨_, by rw [hb.cell, Array.getElem?_eq_getElem (by omega)]⟩

theorem Row.own {w : World} {g c B : Nat} {e : TypeId} {L : List α} (hC : Cells C sz) (h : Row w g e sz c C L) (hB : B ≤ g) : w.ownsRow B e sz (.slice (some ⟨g, 0, none⟩) L.length c) L.length (L.flatMap C) := by
  obtain ⟨h1, h2, cs, hb, h3, h4⟩ := h
  refine ⟨hC.flat_len L, .inr ⟨g, c, cs, rfl, hB, hb, h1, by unfold maxLen; exact h2, h3, ?_⟩⟩
  apply List.ext_getElem?
  intro j
  rw [List.getElem?_take]
  by_cases hj : j < L.length * sz
  · rw [if_pos hj, Array.getElem?_toList]
    have hsz : 0 < sz := by
      rcases Nat.eq_zero_or_pos sz with h0 | h0
      · rw [h0] at hj; omega
      · exact h0
    have e1 : j = j / sz * sz + j % sz := by rw [Nat.mul_comm]; exact (Nat.div_add_mod j sz).symm
    have hk : j / sz < L.length := (Nat.div_lt_iff_lt_mul hsz).2 hj
    have hr : j % sz < sz := Nat.mod_lt _ hsz
    have a := h4 (j / sz) hk (j % sz) hr
    have b := hC.flat_at L (j / sz) hk (j % sz) hr
    rw [← e1] at a b
    rw [a, b]
  · rw [if_neg hj, List.getElem?_eq_none (by rw [hC.flat_len]; omega)]

theorem own_row {w : World} {B n c : Nat} {e : TypeId} {A : Option Addr} {L : List α} (hC : Cells C sz) (hsz : 0 < sz) (h : w.ownsRow B e sz (.slice A n c) n (L.flatMap C)) :
    L.length = n ∧ ((A = none ∧ c = 0 ∧ L = []) ∨ ∃ g, A = some ⟨g, 0, none⟩ ∧ B ≤ g ∧ Row w g e sz c C L) := by
  have hl : L.length = n := by
    have := h.1
    rw [hC.flat_len] at this
    exact Nat.eq_of_mul_eq_mul_right hsz this
  refine ⟨hl, ?_⟩
  subst hl
  rcases h.2 with ⟨hv, _⟩ | ⟨g, cap, cur, e1, hg, hh, hnc, hcm, hcs, htk⟩
  · injection hv with a b d
    exact .inl ⟨a, d, List.eq_nil_of_length_eq_zero b⟩
  · injection e1 with e1 e2 e3
    subst e3
    refine .inr ⟨g, e1, hg, hnc, by unfold maxLen at hcm; exact hcm, cur, hh, hcs, fun k hk r hr => ?_⟩
    have hjl : k * sz + r < L.length * sz := by
      have : (k + 1) * sz ≤ L.length * sz := Nat.mul_le_mul_right _ hk
      rw [Nat.add_mul] at this
      omega
    rw [← hC.flat_at L k hk r hr, ← htk, List.getElem?_take, if_pos hjl, Array.getElem?_toList]

/-- The slice (A, n, c) is a row that reads as L, its block from B on and in O; an empty one may be nil. -/
def Own (w : World) (B : Nat) (O : List Nat) (e : TypeId) (sz : Nat) (C : α → List Value) (A : Option Addr) (n c : Nat) (L : List α) : Prop :=
  w.ownsRow B e sz (.slice A n c) n (L.flatMap C) ∧ ∀ j ∈ ownL (.slice A n c), j ∈ O
end
end Go.Proofs.Ytgkhendbpehagaa
