/- Expire: late; the plain law of its two halves. -/
import Derived.Test.YtdlehpohpdepkaaQuL
namespace Go.Proofs.Ytdlehpohpdepkaa
open Go.RowKit
set_option linter.unusedVariables false
set_option linter.unusedSimpArgs false

def lateB (d s : Int) : Bool := decide (d ≠ -1 ∧ d < s)

set_option maxHeartbeats 400000 in
theorem late_raw (i f l a d s : Int) (w : World) :
    Calls Try.prog 30 #[.agg #[.int .i64 i, .int .i64 f, .int .i64 l, .int .i64 a, .int .i64 d], .int .i64 s] w fun e w' => e = .returned (.bool (lateB d s)) ∧ Chg [] w w' := by
  go_enter Try.func30, Try.ntmps30
  go_wp2
  all_goals
    go_ret
    refine ⟨ret_bool ?_, (Chg.refl _ _).alloc _⟩
    unfold lateB
    first
      | exact (decide_eq_true (by omega)).symm
      | exact (decide_eq_false (by omega)).symm
      | exact decide_eq_decide.2 (by omega)

/-- The packets that are late in slot s, and those that stay. -/
def lates (s : Int) (ps : List Pk) : List Pk := ps.filter fun p => lateB p.d s
def stays (s : Int) (ps : List Pk) : List Pk := ps.filter fun p => !lateB p.d s

theorem tot_split (s : Int) (ps : List Pk) : tot ps = tot (lates s ps) + tot (stays s ps) := by
  induction ps with
  | nil => simp [tot, lates, stays]
  | cons p r ih =>
    unfold lates stays at ih ⊢
    cases h : lateB p.d s <;> simp [List.filter_cons, h, tot, ih] <;> omega

theorem lates_snoc {s : Int} {ps : List Pk} {k : Nat} (hk : k < ps.length) : lates s (ps.take (k + 1)) = if lateB ps[k].d s then lates s (ps.take k) ++ [ps[k]] else lates s (ps.take k) := by
  rw [List.take_succ_eq_append_getElem hk]
  unfold lates
  rw [List.filter_append]
  cases h : lateB ps[k].d s <;> simp [h]

theorem stays_vld {s : Int} {ps : List Pk} (h : ∀ p ∈ ps, vld p = true) : ∀ p ∈ stays s ps, vld p = true := fun p hp => h p (List.mem_filter.1 hp).1
theorem stays_le (s : Int) (ps : List Pk) : (stays s ps).length ≤ ps.length := List.length_filter_le _ _
theorem lates_le (s : Int) (ps : List Pk) : (lates s ps).length ≤ ps.length := List.length_filter_le _ _

end Go.Proofs.Ytdlehpohpdepkaa
