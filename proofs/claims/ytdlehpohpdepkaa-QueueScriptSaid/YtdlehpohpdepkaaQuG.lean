/- Expire said of a queue as a list of packets (QA). -/
import Derived.Test.YtdlehpohpdepkaaQuXp
namespace Go.Proofs.Ytdlehpohpdepkaa
open Go.RowKit
set_option linter.unusedVariables false
set_option linter.unusedSimpArgs false

theorem own_base {w : World} {B B' : Nat} {e : TypeId} {size n : Nat} {v : Value} {xs : List Value} (h : w.ownsRow B e size v n xs) (hb : B' ≤ B) : w.ownsRow B' e size v n xs := by
  refine ⟨h.1, ?_⟩
  rcases h.2 with h2 | ⟨g, cap, cur, hv, hg, r⟩
  · exact .inl h2
  · exact .inr ⟨g, cap, cur, hv, Nat.le_trans hb hg, r⟩

theorem own_of_DF {w : World} {g c j B : Nat} {l ps : List Pk} (h : DF w g c j l ps) (hB : B ≤ g) (hl : l.length ≤ c) (hc : c ≤ maxLen) : w.ownsRow B 24 5 (.slice (some ⟨g, 0, none⟩) l.length c) l.length (l.flatMap pkC) := by
  obtain ⟨cs, h1, h2, h3, _⟩ := h
  refine ⟨flat_length l, .inr ⟨g, c, cs, rfl, hB, h1, hl, hc, h2, ?_⟩⟩
  apply List.ext_getElem?
  intro j
  rw [List.getElem?_take]
  by_cases hj : j < l.length * 5
  · rw [if_pos hj, Array.getElem?_toList]
    have e : j = j / 5 * 5 + j % 5 := by omega
    have a := h3 (j / 5) (by omega) (j % 5) (by omega)
    have b := flat_at l (j / 5) (by omega) (j % 5) (by omega)
    rw [← e] at a b
    rw [a, b]
  · rw [if_neg hj, List.getElem?_eq_none (by rw [flat_length]; omega)]

set_option maxRecDepth 100000 in
set_option maxHeartbeats 4000000 in
theorem qexpire_none {w : World} {q : Nat} {s most mb : Int} (hq : Blk w q 57 #[.int .i64 most, .int .i64 mb, .slice none 0 0, .int .i64 0]) :
    Calls Try.prog 20 #[.pointer (some ⟨q, 0, none⟩), .int .i64 s] w fun e w' => e = .returned (.slice none 0 0) ∧ Blk w' q 57 #[.int .i64 most, .int .i64 mb, .slice none 0 0, .int .i64 0] ∧ Chg [q] w w' := by
  have hmf : ∀ (fn : Fn) (first cap : Array Value) (w : World), (Instr.makeFunc fn first cap).run Try.prog w = .ok (.func fn first cap) w := fun _ _ _ _ => rfl
  have hq2 := (hq.cell 2).trans rfl
  have hql := hq.lt
  go_enter Try.func20, Try.ntmps20
  go_wp2_with fail
  refine wp_loop_rounds 1 ?_
  rw [rounds_succ]
  go_wp2_with fail
  refine (delf_nil _ none 0 _).mono ?_
  rintro e w2 ⟨rfl, hc2⟩
  have hQ2 := (hq.alloc (.cells #[.int .i64 s] 3)).chg hc2 (by simp)
  have z2 : w2.cell? ⟨q, 2, none⟩ = some (.slice none 0 0) := (hQ2.cell 2).trans rfl
  have z3 : w2.frozen? ⟨q, 2, none⟩ = false := hQ2.frozen 2
  have HQ2 := Lib.hid hQ2
  have HC := Lib.hid hc2
  clear hQ2 hc2
  go_wp2_with fail
  go_ret
  have b8 := HQ2.out.set_ 2 (.slice none 0 0)
  simp only [List.setIfInBounds_toArray, List.set_cons_succ, List.set_cons_zero] at b8
  exact ⟨rfl, b8, (((Chg.refl [q] w).alloc (.cells #[.int .i64 s] 3)).trans HC.out (by simp)).setCell (p := ⟨q, 2, none⟩) (by simp) _⟩

theorem qexpire_c {w : World} {B q : Nat} {O : List Nat} {most mb : Int} {ps : List Pk} (h : QA w B q O most mb ps) (s : Int) (hB : B ≤ w.heap.size) :
    Calls Try.prog 20 #[.pointer (some ⟨q, 0, none⟩), .int .i64 s] w fun e w' => ∃ A' c', e = .returned (.slice A' (lates s ps).length c') ∧ w'.ownsRow w.heap.size 24 5 (.slice A' (lates s ps).length c') (lates s ps).length ((lates s ps).flatMap pkC) ∧
      QA w' B q O most mb (stays s ps) ∧ Chg (q :: O) w w' := by
  obtain ⟨h1, h2, h3, h4, h5, A, c, h6, h7, h8⟩ := h
  rcases h7.2 with ⟨hv, h0⟩ | ⟨g, cap, cur, e1, hg, hh, hnc, hcm, hcs, htk⟩
  · have hnil : ps = [] := List.eq_nil_of_length_eq_zero h0
    subst hnil
    injection hv with a b d
    subst a d
    refine (qexpire_none (s := s) h6).mono ?_
    rintro e w' ⟨rfl, hq, hc⟩
    exact ⟨none, 0, rfl, World.ownsRow_nil _ _ _ _, ⟨h1, h2, h3, by simp [stays], by simp [stays], none, 0, hq, World.ownsRow_nil _ _ _ _, by simp [ownL, Value.ownBlock]⟩, hc.mono (by simp)⟩
  · injection e1 with e1 e2 e3
    subst e1 e3
    have hb : Blk w g 24 cur := hh
    have hgO : g ∈ O := h8 g (mem_ownL.2 rfl)
    have hat : ∀ k, k < ps.length → ∀ r, r < 5 → cur[k * 5 + r]? = (pkC (pkAt ps k))[r]? := fun k hk r hr => by
      rw [← flat_at ps k hk r hr, ← htk, List.getElem?_take, if_pos (by omega), Array.getElem?_toList]
    have hD : DF w g c 0 [] ps := ⟨cur, hb, hcs, fun m hm => absurd hm (by simp), fun m _ hm r hr => hat m hm r hr⟩
    have hgq : g ≠ q := hb.ne_ h6 (by decide)
    have hcm' := hcm
    unfold maxLen at hcm'
    refine (qexpire_some (s := s) rfl h4 hnc hcm' hD ⟨cur, hb, hat⟩ hgq h5 h6).mono ?_
    rintro e w' ⟨A', c', m2, rfl, ho, hD', hq', hc'⟩
    have hsl := stays_le s ps
    refine ⟨A', c', rfl, own_base ho (by omega), ⟨h1, h2, h3, by omega, stays_vld h5, some ⟨g, 0, none⟩, c, hq', own_of_DF hD' hg (by omega) hcm, fun j hj => ?_⟩, hc'.mono (fun x hx => ?_)⟩
    · have := mem_ownL.1 hj
      simp [Value.ownBlock] at this
      subst this
      exact hgO
    · simp at hx
      rcases hx with rfl | rfl
      · simp [hgO]
      · simp

end Go.Proofs.Ytdlehpohpdepkaa
