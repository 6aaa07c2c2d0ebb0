/- slices.DeleteFunc of packets at Expire's closure. -/
import Derived.Test.YtdlehpohpdepkaaQuI
namespace Go.Proofs.Ytdlehpohpdepkaa
open Go.RowKit
set_option linter.unusedVariables false
set_option linter.unusedSimpArgs false

theorem take_snoc {ps : List Pk} {k : Nat} (hk : k < ps.length) : ps.take (k + 1) = ps.take k ++ [pkAt ps k] := by
  rw [List.take_succ_eq_append_getElem hk]
  simp [pkAt, hk]

theorem stays_snoc {s : Int} {ps : List Pk} {k : Nat} (hk : k < ps.length) : stays s (ps.take (k + 1)) = if lateB (pkAt ps k).d s then stays s (ps.take k) else stays s (ps.take k) ++ [pkAt ps k] := by
  rw [take_snoc hk]
  unfold stays
  rw [List.filter_append]
  cases h : lateB (pkAt ps k).d s <;> simp [h]

theorem stays_len (s : Int) (ps : List Pk) (k : Nat) : (stays s (ps.take k)).length ≤ k := Nat.le_trans (stays_le s _) (by simp; omega)

theorem stays_all {s : Int} {ps : List Pk} {k : Nat} (hk : k ≤ ps.length) (h : ∀ j, j < k → lateB (pkAt ps j).d s = false) : stays s (ps.take k) = ps.take k := by
  induction k with
  | zero => simp [stays]
  | succ k ih => rw [stays_snoc (by omega), h k (by omega), ih (by omega) (fun j hj => h j (by omega)), take_snoc (by omega)]; rfl

theorem pkAt_take {ps : List Pk} {k m : Nat} (hm : m < k) : pkAt (ps.take k) m = pkAt ps m := by
  simp [pkAt, List.getD_eq_getElem?_getD, List.getElem?_take, hm]

theorem pkAt_app {l r : List Pk} {m : Nat} (hm : m < l.length) : pkAt (l ++ r) m = pkAt l m := by
  simp [pkAt, List.getD_eq_getElem?_getD, List.getElem?_append_left hm]

theorem pkAt_last {l : List Pk} {p : Pk} : pkAt (l ++ [p]) l.length = p := by
  simp [pkAt, List.getD_eq_getElem?_getD]

/-- The state of the loop: in block g the first packets are those of l, the packets from j on are as they were in ps. -/
structure DF (w : World) (g c j : Nat) (l ps : List Pk) : Prop where
  row : ∃ cs, Blk w g 24 cs ∧ cs.size = c * 5 ∧ (∀ m, m < l.length → ∀ r, r < 5 → cs[m * 5 + r]? = (pkC (pkAt l m))[r]?) ∧ (∀ m, j ≤ m → m < ps.length → ∀ r, r < 5 → cs[m * 5 + r]? = (pkC (pkAt ps m))[r]?)

theorem DF.chg {w w' : World} {S : List Nat} {g c j : Nat} {l ps : List Pk} (h : DF w g c j l ps) (hc : Chg S w w') (hg : g ∉ S) : DF w' g c j l ps := by
  obtain ⟨cs, h1, h2⟩ := h
  exact ⟨cs, h1.chg hc hg, h2⟩
theorem DF.skip {w : World} {g c j : Nat} {l ps : List Pk} (h : DF w g c j l ps) : DF w g c (j + 1) l ps := by
  obtain ⟨cs, h1, h2, h3, h4⟩ := h
  exact ⟨cs, h1, h2, h3, fun m hm => h4 m (by omega)⟩
theorem DF.put {w : World} {g c j : Nat} {l ps : List Pk} (h : DF w g c j l ps) (hj : l.length ≤ j) (hjn : j < ps.length) (hnc : ps.length ≤ c) : DF (w.setCells g (l.length * 5) (pkC (pkAt ps j))) g c (j + 1) (l ++ [pkAt ps j]) ps := by
  obtain ⟨cs, h1, h2, h3, h4⟩ := h
  obtain ⟨cs', k1, k2, k3⟩ := h1.setCells (pkC (pkAt ps j)) (l.length * 5) (by rw [h2]; simp [pkC]; omega)
  have hl : (pkC (pkAt ps j)).length = 5 := rfl
  refine ⟨cs', k1, k2.trans h2, fun m hm r hr => ?_, fun m hm hn r hr => ?_⟩
  · rw [k3]
    simp at hm
    by_cases he : m = l.length
    · subst he
      rw [if_pos (by omega), pkAt_last, show l.length * 5 + r - l.length * 5 = r from by omega]
    · rw [if_neg (by omega), pkAt_app (by omega)]
      exact h3 m (by omega) r hr
  · rw [k3, if_neg (by omega)]
    exact h4 m (by omega) hn r hr

end Go.Proofs.Ytdlehpohpdepkaa
