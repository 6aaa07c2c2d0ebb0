/- A slice of one-cell elements that may begin in the midst of its block: it reads as a list, what lies behind up to its capacity may be written; append of one element. No program is named. -/
import Derived.Test.YtmbmejobffpaoaaApp
import Derived.ArgAppend
namespace Go.Proofs.Ytmbmejobffpaoaa
open Go.RowKit
set_option linter.unusedVariables false
set_option linter.unusedSimpArgs false

def SR (w : World) (e : TypeId) (A : Option Addr) (n c : Nat) (xs : List Value) : Prop :=
  xs.length = n ∧ ((A = none ∧ n = 0 ∧ c = 0) ∨ ∃ g off cs, A = some ⟨g, off, none⟩ ∧ Blk w g e cs ∧ n ≤ c ∧ c ≤ 9223372036854775807 ∧ off + c ≤ cs.size ∧ ∀ k u, xs[k]? = some u → cs[off + k]? = some u)

/-- The block in which the row lies, as a list. -/
def blkL (A : Option Addr) : List Nat := match A with
  | none => []
  | some a => [a.block]

section
variable {w w' : World} {e : TypeId} {A : Option Addr} {n c : Nat} {xs : List Value}
theorem SR.chg {S : List Nat} (h : SR w e A n c xs) (hc : Chg S w w') (hn : ∀ j ∈ blkL A, j ∉ S) : SR w' e A n c xs := by
  refine ⟨h.1, ?_⟩
  rcases h.2 with h2 | ⟨g, off, cs, rfl, h3, h4⟩
  · exact .inl h2
  · exact .inr ⟨g, off, cs, rfl, h3.chg hc (hn g (by simp [blkL])), h4⟩
theorem SR.nil (w : World) (e : TypeId) : SR w e none 0 0 [] := ⟨rfl, .inl ⟨rfl, rfl, rfl⟩⟩
theorem SR.le (h : SR w e A n c xs) : n ≤ c ∧ c ≤ 9223372036854775807 := by
  rcases h.2 with ⟨_, h2, h3⟩ | ⟨g, off, cs, rfl, h3, h4, h5, _⟩
  · omega
  · exact ⟨h4, h5⟩
theorem SR.cell (h : SR w e A n c xs) {k : Nat} {u : Value} (hu : xs[k]? = some u) : ∃ g off, A = some ⟨g, off, none⟩ ∧ w.cell? ⟨g, off + k, none⟩ = some u := by
  have hk : k < xs.length := by
    rcases Nat.lt_or_ge k xs.length with h1 | h1
    · exact h1
    · rw [List.getElem?_eq_none h1] at hu; cases hu
  rcases h.2 with ⟨_, h2, h3⟩ | ⟨g, off, cs, h1, h3, h4, h5, h6, h7⟩
  · have := h.1; omega
  · exact ⟨g, off, h1, by rw [h3.cell]; exact h7 k u hu⟩
theorem SR.cut (h : SR w e A n c xs) {g off : Nat} (hA : A = some ⟨g, off, none⟩) (hn : 1 ≤ n) : SR w e (if c = 1 then some ⟨g, off, none⟩ else some ⟨g, off + 1, none⟩) (n - 1) (c - 1) (xs.drop 1) := by
  have hle := h.le
  refine ⟨by rw [List.length_drop, h.1], ?_⟩
  rcases h.2 with ⟨_, h2, h3⟩ | ⟨g', off', cs, h1, h3, h4, h5, h6, h7⟩
  · omega
  · rw [hA] at h1
    injection h1 with h1
    injection h1 with h1 h1'
    subst h1
    subst h1'
    by_cases hc : c = 1
    · rw [if_pos hc]
      refine .inr ⟨g, off, cs, rfl, h3, by omega, by omega, by omega, fun k u hu => ?_⟩
      have : xs.drop 1 = [] := List.eq_nil_of_length_eq_zero (by rw [List.length_drop, h.1]; omega)
      rw [this] at hu
      simp at hu
    · rw [if_neg hc]
      refine .inr ⟨g, off + 1, cs, rfl, h3, by omega, by omega, by omega, fun k u hu => ?_⟩
      rw [List.getElem?_drop] at hu
      rw [show off + 1 + k = off + (1 + k) from by omega]
      exact h7 (1 + k) u hu
theorem SR.of_own {base : Nat} (h : w.ownsRow base e 1 (.slice A n c) n xs) : SR w e A n c xs ∧ ∀ j ∈ blkL A, base ≤ j := by
  rcases h.2 with ⟨h1, h2⟩ | ⟨g, cap, cur, h1, h2, h3, h4, h5, h6, h7⟩
  · injection h1 with h1 h3 h4
    subst h1
    exact ⟨⟨by have := h.1; omega, .inl ⟨rfl, h2, h4⟩⟩, by simp [blkL]⟩
  · injection h1 with h1 h8 h9
    subst h1
    subst h9
    refine ⟨⟨by have := h.1; omega, .inr ⟨g, 0, cur, rfl, h3, h4, by unfold maxLen at h5; exact h5, by omega, fun k u hu => ?_⟩⟩, by simp [blkL]; exact h2⟩
    rw [← h7, List.getElem?_take] at hu
    split at hu
    · rw [Nat.zero_add, ← Array.getElem?_toList]; exact hu
    · cases hu
end

theorem run_append_sr {P : Program} (w : World) (t ty e : TypeId) (z : Value) (bytes : Nat) (ht : P.underlying t = some (.slice e)) (hinfo : (P.info? e).map (fun i => (i.zero, i.size, i.bytes)) = some (some z, 1, bytes)) (hzs : z.cells.size = 1) (hby : bytes ≤ 1000)
    {A : Option Addr} {n c m : Nat} {xs : List Value} (h : SR w e A n c xs) (hn : n ≤ 100000) {ad : Addr} {u : Value} (hu : w.cell? ad = some u) (hu1 : u.oneCell' = true) :
    ∃ A' c' w', (Builtin.append_ #[t, t] ty #[.slice A n c, .slice (some ad) 1 m]).run P w = .ok (.slice A' (n + 1) c') w' ∧ SR w' e A' (n + 1) c' (xs ++ [u]) ∧ Chg (blkL A) w w' ∧
      ∀ j ∈ blkL A', j ∈ blkL A ∨ w.heap.size ≤ j := by
  obtain ⟨i, hi, hzz⟩ := Option.map_eq_some_iff.1 hinfo
  simp only [Prod.mk.injEq] at hzz
  obtain ⟨hz, hs1, hb⟩ := hzz
  have hnews : ∀ j v, ([u] : List Value)[j]? = some v → w.cell? (ad.add j) = some v := by
    intro j v hv
    rcases j with _ | j
    · simp at hv
      subst hv
      simpa [Addr.add] using hu
    · simp at hv
  have hone : ∀ v ∈ ([u] : List Value), v.oneCell' = true := by intro v hv; simp at hv; subst hv; exact hu1
  have hbytes : (n + 1) * bytes ≤ 140737488355328 := Nat.le_trans (Nat.mul_le_mul (show n + 1 ≤ 100001 by omega) hby) (by omega)
  rcases h.2 with ⟨rfl, rfl, rfl⟩ | ⟨g, off, cs, rfl, h3, h4, h5, h6, h7⟩
  · have hx : xs = [] := List.eq_nil_of_length_eq_zero h.1
    subst hx
    obtain ⟨v', w', hrun, r1, r2, r3⟩ := run_append_own_at (P := P) w w.heap.size t ty e i z 1 bytes ht hi hz hs1 hb hzs (by omega) (.slice none 0 0) 0 [] (World.ownsRow_nil _ _ _ _) ad 1 m [u] (by simp) hnews hone (by unfold maxLen; omega) hbytes (Nat.le_refl _)
    obtain ⟨A', c', rfl⟩ := own_slice r1
    obtain ⟨q1, q2⟩ := SR.of_own r1
    exact ⟨A', c', w', hrun, q1, (Chg.refl _ _).grown r2 (by simp [Value.ownBlock]), fun j hj => .inr (q2 j hj)⟩
  · by_cases hroom : n + 1 ≤ c
    · have hlt : off + n < cs.size := by omega
      have hrun := run_append_room_cells (P := P) w t ty e i ht hi g off n c ad 1 m [u] (by simp [hs1]) hnews hone hroom
        (fun j hj => by simp at hj; subst hj; rw [hs1, Nat.mul_one, Nat.add_zero, h3.cell, Array.getElem?_eq_getElem hlt]; rfl) (fun j hj => h3.frozen _)
      refine ⟨_, _, _, hrun, ⟨by simp [h.1], .inr ⟨g, off, cs.setIfInBounds (off + n) u, rfl, ?_, hroom, h5, by simpa using h6, fun k v hv => ?_⟩⟩, ?_, fun j hj => .inl hj⟩
      · rw [hs1, Nat.mul_one]
        exact h3.set_ (off + n) u
      · rw [Array.getElem?_setIfInBounds]
        rcases Nat.lt_trichotomy k n with hk | hk | hk
        · rw [if_neg (by omega)]
          rw [List.getElem?_append_left (by rw [h.1]; exact hk)] at hv
          exact h7 k v hv
        · subst hk
          rw [if_pos rfl, if_pos hlt]
          rw [List.getElem?_append_right (by rw [h.1]; omega), h.1] at hv
          simpa using hv
        · rw [List.getElem?_eq_none (by simp [h.1]; omega)] at hv
          cases hv
      · rw [hs1, Nat.mul_one]
        exact (Chg.refl (blkL (some ⟨g, off, none⟩)) w).setCell (p := ⟨g, off + n, none⟩) (by simp [blkL]) u
    · have hlo : ∀ j v, xs[j]? = some v → w.cell? ((⟨g, off, none⟩ : Addr).add j) = some v := by
        intro j v hv
        have hadd : (⟨g, off, none⟩ : Addr).add j = ⟨g, off + j, none⟩ := by
          unfold Addr.add
          split
          · subst_vars; rfl
          · rfl
        rw [hadd, h3.cell]
        exact h7 j v hv
      obtain ⟨v', w', hrun, r1, r2⟩ := run_append_arg_grows (P := P) w t ty e i z 1 bytes ht hi hz hs1 hb hzs (by omega) ⟨g, off, none⟩ n c xs (by rw [h.1, Nat.mul_one]) hlo ad 1 m [u] (by simp) hnews (by omega) (by unfold maxLen; omega) hbytes
      obtain ⟨A', c', rfl⟩ := own_slice r1
      obtain ⟨q1, q2⟩ := SR.of_own r1
      exact ⟨A', c', w', hrun, q1, (Chg.refl _ _).grown r2 (by simp), fun j hj => .inr (q2 j hj)⟩

/-- At a step of a region that draws its order; N is the new length. -/
theorem step_sr {P : Program} {ops : Array Oper} {o : Oper} {a : Act} {w : World} {K : Act → World → Prop} {Q : Exit → Act → World → Prop} {E : Prop} {t e : TypeId} {z : Value} {bytes : Nat}
    (ht : P.underlying t = some (.slice e)) (hinfo : (P.info? e).map (fun i => (i.zero, i.size, i.bytes)) = some (some z, 1, bytes)) (hzs : z.cells.size = 1) (hby : bytes ≤ 1000) (s x : Operand)
    {A : Option Addr} {n c m N : Nat} {xs : List Value} (hN : n + 1 = N) (h : SR w e A n c xs) (hn : n ≤ 100000) {ad : Addr} {u : Value} (hu : w.cell? ad = some u) (hu1 : u.oneCell' = true)
    (hgd : o.guard = none) (ho : o.op = .call { callee := .builtin .append, args := #[s, x], argTypes := #[t, t] }) (hs : a.eval s = .slice A n c) (hx : a.eval x = .slice (some ad) 1 m)
    (hK : ∀ A' c' w', SR w' e A' N c' (xs ++ [u]) → Chg (blkL A) w w' → (∀ j ∈ blkL A', j ∈ blkL A ∨ w.heap.size ≤ j) → K (a.put o.dst (.slice A' N c')) w') :
    if Region.wanted o (yielded ops a.tmps) = true then Oper.wp P o a w K Q else E := by
  subst hN
  have hw : Region.wanted o (yielded ops a.tmps) = true := by simp [Region.wanted, hgd]
  rw [if_pos hw]
  obtain ⟨A', c', w', hrun, r1, r2, r3⟩ := run_append_sr (P := P) w t o.type e z bytes ht hinfo hzs hby (m := m) h hn hu hu1
  unfold Oper.wp execOp
  simp only [ho, resolve, invoke, builtin, Sem.run_bind, Sem.run_pure, Result.andThen_ok, List.map_toArray, List.map_cons, List.map_nil, hs, hx, hrun]
  exact hK _ _ _ r1 r2 r3

end Go.Proofs.Ytmbmejobffpaoaa
