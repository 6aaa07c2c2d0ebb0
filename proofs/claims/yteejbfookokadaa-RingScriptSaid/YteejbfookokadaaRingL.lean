/- The walks of the ring's sanity check (awake) and of the statement RingQueues. -/
import Derived.Test.YteejbfookokadaaRingD
namespace Go.Proofs.Yteejbfookokadaa
open Go.RowKit
set_option linter.unusedVariables false
set_option linter.unusedSimpArgs false

theorem push_is {w : World} {B r q n : Nat} {L M : List Int} {c : Int} (h : RingA w B r q n L) (x : Int) (hc : insE n L = c) (hM : insL n L x false = M) :
    Calls Try.prog 10 #[.pointer (some ⟨r, 0, none⟩), .int .i64 x] w fun e w' => e = .returned (.int .i64 c) ∧ RingA w' B r q n M ∧ Chg [r, q] w w' := by
  subst hc hM
  exact push_c h x
theorem pop_is {w : World} {B r q n : Nat} {L M : List Int} {v c : Int} (h : RingA w B r q n L) (hv : takeV L 0 = v) (hc : codeE (takeOk L 0) 5 = c) (hM : takeL L 0 = M) :
    Calls Try.prog 11 #[.pointer (some ⟨r, 0, none⟩)] w fun e w' => e = .returned (.tuple #[.int .i64 v, .int .i64 c]) ∧ RingA w' B r q n M ∧ Chg [r, q] w w' := by
  subst hv hc hM
  exact pop_c h
theorem equal_is {w : World} {g h c d : Nat} {a b : Option Addr} {L : List Int} {n : Nat} (e1 : L.length = n) (hL : Rd w g a L) (hM : Rd w h b L) :
    Calls Try.prog 16 #[.slice a n c, .slice b n d] w fun e w' => e = .returned (.bool true) ∧ ∃ m, w' = w.drewN m :=
  (equal_c e1 e1 hL hM).mono fun e w' ⟨h1, h2⟩ => ⟨by rw [h1]; simp, h2⟩
theorem rnew_3 (n : Nat) (hn : 1 ≤ n) (hn2 : n ≤ 4096) {i : Int} (hi : i = (n : Int)) (w : World) {B : Nat} (hB : B ≤ w.heap.size) :
    Calls Try.prog 8 #[.int .i64 i] w fun e w' => ∃ r q, e = .returned (.tuple #[.pointer (some ⟨r, 0, none⟩), .int .i64 0]) ∧ RingA w' B r q n [] ∧ w.heap.size ≤ r ∧ w.heap.size ≤ q ∧ Chg [] w w' := by
  subst hi
  exact rnew_c n hn hn2 w hB

set_option maxHeartbeats 1000000 in
theorem awake_c (w : World) : Calls Try.prog 13 #[] w fun e w' => e = .returned (.bool true) ∧ Chg [] w w' := by
  go_enter Try.func13, Try.ntmps13
  go_wp2_with fail
  refine (rnew_3 3 (by omega) (by omega) rfl w (Nat.le_refl _)).mono ?_
  rintro e w1 ⟨r, q, rfl, hR1, hr, hq, hc1⟩
  go_wp2_with fail
  refine (push_is hR1 1 (c := 0) (M := [1]) rfl rfl).mono ?_
  rintro e w2 ⟨rfl, hR2, hc2⟩
  go_wp2_with fail
  refine (push_is hR2 2 (c := 0) (M := [1, 2]) rfl rfl).mono ?_
  rintro e w3 ⟨rfl, hR3, hc3⟩
  go_wp2_with fail
  refine (push_is hR3 3 (c := 0) (M := [1, 2, 3]) rfl rfl).mono ?_
  rintro e w4 ⟨rfl, hR4, hc4⟩
  go_wp2_with fail
  refine (pop_is hR4 (v := 1) (c := 0) (M := [2, 3]) rfl rfl rfl).mono ?_
  rintro e w5 ⟨rfl, hR5, hc5⟩
  go_wp2_with fail
  refine (push_is hR5 4 (c := 0) (M := [2, 3, 4]) rfl rfl).mono ?_
  rintro e w6 ⟨rfl, hR6, hc6⟩
  go_wp2_with fail
  refine (push_is hR6 5 (c := 4) (M := [2, 3, 4]) rfl rfl).mono ?_
  rintro e w7 ⟨rfl, hR7, hc7⟩
  go_wp2_with fail
  refine (items_c hR7).mono ?_
  rintro e w8 ⟨g, rfl, hg1, hg2, hrd, hc8⟩
  go_wp2_with fail
  refine (equal_is (L := [2, 3, 4]) (g := g) (h := w8.heap.size) rfl (hrd.chg ((Chg.refl [] _).alloc _) (by simp)) (Rd.of_blk (t := 3) (L := [2, 3, 4]) (Blk.new _ _ _) (by simp))).mono ?_
  rintro e w9 ⟨rfl, m, rfl⟩
  go_wp2_with fail
  go_ret
  refine ⟨rfl, ?_⟩
  have k2 := hc1.trans hc2 (by simp; omega)
  have k3 := k2.trans hc3 (by simp; omega)
  have k4 := k3.trans hc4 (by simp; omega)
  have k5 := k4.trans hc5 (by simp; omega)
  have k6 := k5.trans hc6 (by simp; omega)
  have k7 := k6.trans hc7 (by simp; omega)
  have k8 := k7.trans hc8 (by simp)
  exact (k8.alloc _).drewN m

/-! ### RingQueues -/
/-- The i-th number from 'first' on, as int64. -/
def at64 (first : Int) (i : Nat) : Int := wrap64 (first + (i : Nat))
theorem at64_zero {first : Int} (h1 : -9223372036854775808 ≤ first) (h2 : first ≤ 9223372036854775807) : first = at64 first 0 := by unfold at64 wrap64; omega
theorem at64_succ (first : Int) (i : Nat) : wrap64 (at64 first i + 1) = at64 first (i + 1) := by unfold at64 wrap64; omega
theorem at64_diff (first : Int) (o c : Nat) (h : c ≤ 4096) : wrap64 (at64 first (o + c) - at64 first o) = c := by unfold at64 wrap64; omega
/-- The c numbers from the o-th on. -/
def runFrom (first : Int) (o c : Nat) : List Int := (List.range c).map fun i => at64 first (o + i)
theorem runFrom_length (first : Int) (o c : Nat) : (runFrom first o c).length = c := by simp [runFrom]
theorem runFrom_push (first : Int) (o c : Nat) : runFrom first o c ++ [at64 first (o + c)] = runFrom first o (c + 1) := by
  simp [runFrom, List.range_succ]
theorem runFrom_pop (first : Int) (o c : Nat) : runFrom first o (c + 1) = at64 first o :: runFrom first (o + 1) c := by
  simp only [runFrom, List.range_succ_eq_map, List.map_cons, List.map_map]
  congr 1
  apply List.map_congr_left
  intro i _
  simp only [Function.comp]
  congr 1
  omega

end Go.Proofs.Yteejbfookokadaa
