/- Equal at packets; the program's Clear; the reference's Pop. -/
import Derived.Test.YtdlehpohpdepkaaQa
import Derived.Laws.ResultCell
namespace Go.Proofs.Ytdlehpohpdepkaa
open Go.RowKit
set_option linter.unusedVariables false
set_option linter.unusedSimpArgs false

theorem pk_eql (a b c d e a' b' c' d' e' : Int) (w : World) : (binOp .eql 24 (.agg #[.int .i64 a, .int .i64 b, .int .i64 c, .int .i64 d, .int .i64 e]) (.agg #[.int .i64 a', .int .i64 b', .int .i64 c', .int .i64 d', .int .i64 e'])).run Try.prog w = .ok (.bool (a == a' && (b == b' && (c == c' && (d == d' && e == e'))))) w := by
  have u3 := Try.underlying3
  have a3 := Try.isAgg3
  have z3 := Try.sizeOf3
  have hS : Try.prog.underlying 24 = some (.struct (Try.prog.fieldsOf 24)) := by kernel_rfl
  have hp : Try.prog.stoodInHeld 24 = false := by kernel_rfl
  rw [run_eql_struct, show (10000 : Nat) = 9999 + 1 from rfl, run_equalIn_agg w 9999 24 _ _ hS hp]
  simp only [Program.fieldsOf, Try.underlying24]
  go_simp
  by_cases h1 : a = a' <;> by_cases h2 : b = b' <;> by_cases h3 : c = c' <;> by_cases h4 : d = d' <;> by_cases h5 : e = e' <;> simp [h1, h2, h3, h4, h5]
theorem pk_neq (a b c d e a' b' c' d' e' : Int) (w : World) : (binOp .neq 24 (.agg #[.int .i64 a, .int .i64 b, .int .i64 c, .int .i64 d, .int .i64 e]) (.agg #[.int .i64 a', .int .i64 b', .int .i64 c', .int .i64 d', .int .i64 e'])).run Try.prog w = .ok (.bool (!(a == a' && (b == b' && (c == c' && (d == d' && e == e')))))) w := by
  have h := pk_eql a b c d e a' b' c' d' e' w
  rw [run_eql_struct] at h
  rw [run_neq_struct]
  revert h
  cases (Op.equalIn 10000 24 (.agg #[.int .i64 a, .int .i64 b, .int .i64 c, .int .i64 d, .int .i64 e]) (.agg #[.int .i64 a', .int .i64 b', .int .i64 c', .int .i64 d', .int .i64 e'])).run Try.prog w with
  | ok b w' => intro h; simp at h ⊢; obtain ⟨h1, h2⟩ := h; simp [h1, h2]
  | _ => intro h; simp at h

set_option maxRecDepth 100000 in
set_option maxHeartbeats 4000000 in
theorem eqp_c {w : World} {O O' : List Nat} {A A' : Option Addr} {n c c' : Nat} {ps : List Pk} (hn : ps.length = n) (h : RdP w O A ps) (h' : RdP w O' A' ps) (hl : n ≤ 1000) :
    Calls Try.prog 25 #[.slice A n c, .slice A' n c'] w fun e w' => e = .returned (.bool true) ∧ Chg [] w w' := by
  have HN := Lib.hid hn
  have HR := Lib.hid h
  have HR' := Lib.hid h'
  clear hn h h'
  go_enter Try.func25, Try.ntmps25
  go_wp2_with fail
  go_loopw [5] (fun v wr => ∃ k : Nat, k ≤ n ∧ v = .int .i64 k ∧ Chg [] w wr) (fun v _ => n - (intOf v).toNat)
  case atStart => exact ⟨0, by omega, rfl, Chg.refl _ _⟩
  case round =>
    obtain ⟨k, hk, rfl, kr⟩ := hrel
    have HC := Lib.hid kr
    by_cases hlt : k < n
    · have hkl : k < ps.length := by have := HN.out; omega
      obtain ⟨g, off, rfl, _, l1, a0, a1, a2, a3, a4⟩ := (HR.out.chg kr (by simp)).at_ hkl
      obtain ⟨g', off', rfl, _, l2, b0, b1, b2, b3, b4⟩ := (HR'.out.chg kr (by simp)).at_ hkl
      generalize pkAt ps k = p at a0 a1 a2 a3 a4 b0 b1 b2 b3 b4
      have hne := pk_neq p.i p.f p.l p.a p.d p.i p.f p.l p.a p.d
      have hI : (k : Int) < (n : Int) := by omega
      have hJ : (0 : Int) ≤ (k : Int) := by omega
      clear kr
      go_wp2_with fail
      go_quiet (fail)
      go_wp2_with fail
      go_roundw
      case rel => exact ⟨k + 1, by omega, by go_num, HC.out.drewN _⟩
      case measure => simp [intOf]; omega
    · have hge : (n : Int) ≤ (k : Int) := by omega
      clear kr
      go_wp2_with fail
      go_ret
      exact ⟨rfl, HC.out⟩

set_option maxHeartbeats 2000000 in
theorem qclear_c {w : World} {B q : Nat} {O : List Nat} {most mb : Int} {ps : List Pk} (h : QA w B q O most mb ps) :
    Calls Try.prog 37 #[.pointer (some ⟨q, 0, none⟩)] w fun e w' => ∃ A c, e = .returned (.slice A ps.length c) ∧ RdP w' (ownL (.slice A ps.length c)) A ps ∧ (∀ j ∈ ownL (.slice A ps.length c), j ∈ O ∧ j ≠ q) ∧ QA w' B q [] most mb [] ∧ Chg [q] w w' := by
  obtain ⟨h1, h2, h3, h4, h5, A, c, h6, h7, h8⟩ := h
  have e2 := (h6.cell 2).trans rfl
  have f2 := h6.frozen 2
  have f3 := h6.frozen 3
  have e3 := (h6.cell 3).trans rfl
  have H6 := Lib.hid h6
  have H7 := Lib.hid h7
  have H8 := Lib.hid h8
  clear h5 h6 h7 h8
  go_enter Try.func37, Try.ntmps37
  go_wp2_with fail
  try go_region
  all_goals
    go_wp2_with fail
    go_ret
    have hc1 : Chg [q] w ((w.setCell ⟨q, 2, none⟩ (.slice none 0 0)).setCell ⟨q, 3, none⟩ (.int .i64 0)) := ((Chg.refl [q] w).setCell (by simp) _).setCell (by simp) _
    have hb := (H6.out.set_ 2 (.slice none 0 0)).set_ 3 (.int .i64 0)
    simp only [List.setIfInBounds_toArray, List.set_cons_zero, List.set_cons_succ] at hb
    have hqn := ownL_blk H7.out H6.out (by decide)
    have hne : ∀ j ∈ ownL (.slice A ps.length c), j ≠ q := fun j hj => by rintro rfl; exact hqn hj
    have hR := ((RdP.of_own H7.out).1.chg hc1 (fun j hj => by simp; exact hne j hj))
    refine ⟨A, c, rfl, ?_, fun j hj => ⟨H8.out j hj, hne j hj⟩, ⟨h1, h2, h3, by simp, by simp, none, 0, ?_, World.ownsRow_nil _ _ _ _, by simp [ownL, Value.ownBlock]⟩, ?_⟩
    · exact hR.chg (S := []) (by repeat (first | exact Chg.refl _ _ | refine Chg.drew ?_)) (by simp)
    · repeat (first | exact hb | refine Blk.drew ?_)
    · repeat (first | exact hc1 | refine Chg.drew ?_)

end Go.Proofs.Ytdlehpohpdepkaa
