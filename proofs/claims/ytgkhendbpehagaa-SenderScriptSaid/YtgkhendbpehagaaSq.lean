/- airsharehelp.Equal at Sent, of two slices that read as the same list. -/
import Derived.Test.YtgkhendbpehagaaSd
namespace Go.Proofs.Ytgkhendbpehagaa
open Go.RowKit
set_option linter.unusedVariables false
set_option linter.unusedSimpArgs false

theorem sn_neq (a b c a' b' c' : Int) (w : World) : (binOp .neq 39 (.agg #[.int .i64 a, .int .i64 b, .int .i64 c]) (.agg #[.int .i64 a', .int .i64 b', .int .i64 c'])).run Try.prog w = .ok (.bool (!(a == a' && (b == b' && c == c')))) w := by
  have h := sn_eql a b c a' b' c' w
  rw [run_eql_struct] at h
  rw [run_neq_struct]
  revert h
  cases (Op.equalIn 10000 39 (.agg #[.int .i64 a, .int .i64 b, .int .i64 c]) (.agg #[.int .i64 a', .int .i64 b', .int .i64 c'])).run Try.prog w with
  | ok b w' => intro h; simp at h ⊢; obtain ⟨h1, h2⟩ := h; simp [h1, h2]
  | _ => intro h; simp at h

/-- A slice reads as this list of packets. -/
def SRd (w : World) (A : Option Addr) (n c : Nat) (ps : List Sn) : Prop := ps.length = n ∧ (n = 0 ∨ ∃ g, A = some ⟨g, 0, none⟩ ∧ Row w g 39 3 c snC ps)
theorem SRd.of_own {w : World} {B n c : Nat} {A : Option Addr} {ps : List Sn} (h : w.ownsRow B 39 3 (.slice A n c) n (ps.flatMap snC)) : SRd w A n c ps := by
  obtain ⟨h1, h2⟩ := own_row snCells (by omega) h
  refine ⟨h1, ?_⟩
  rcases h2 with ⟨_, _, h0⟩ | ⟨g, hA, _, hr⟩
  · subst h0; exact .inl h1.symm
  · exact .inr ⟨g, hA, hr⟩

set_option maxRecDepth 100000 in
set_option maxHeartbeats 2000000 in
theorem eqs_c {w : World} {A A' : Option Addr} {n c c' : Nat} {ps : List Sn} (h : SRd w A n c ps) (h' : SRd w A' n c' ps) (hl : n ≤ 1000) :
    Calls Try.prog 21 #[.slice A n c, .slice A' n c'] w fun e w' => e = .returned (.bool true) ∧ Chg [] w w' := by
  obtain ⟨hn, h⟩ := h
  obtain ⟨_, h'⟩ := h'
  have HN := Lib.hid hn
  clear hn
  go_enter Try.func21, Try.ntmps21
  go_wp2_with fail
  go_loopw [5] (fun v wr => ∃ k : Nat, k ≤ n ∧ v = .int .i64 k ∧ Chg [] w wr) (fun v _ => n - (intOf v).toNat)
  case atStart => exact ⟨0, by omega, rfl, Chg.refl _ _⟩
  case round =>
    obtain ⟨k, hk, rfl, kr⟩ := hrel
    by_cases hlt : k < n
    · have hkl : k < ps.length := by have := HN.out; omega
      rcases h with h0 | ⟨g, rfl, hr⟩
      · omega
      rcases h' with h0 | ⟨g', rfl, hr'⟩
      · omega
      have t1 := hr.chg kr (by simp)
      have t2 := hr'.chg kr (by simp)
      obtain ⟨a0, a1, a2⟩ := row_sn t1 hkl
      obtain ⟨b0, b1, b2⟩ := row_sn t2 hkl
      have l1 := t1.lt
      have l2 := t2.lt
      generalize ps[k] = p at a0 a1 a2 b0 b1 b2
      have hne := sn_neq p.q p.i p.t p.q p.i p.t
      have hI : (k : Int) < (n : Int) := by omega
      have hJ : (0 : Int) ≤ (k : Int) := by omega
      clear hr hr' t1 t2
      go_wp2_with fail
      go_quiet (fail)
      go_wp2_with fail
      go_roundw
      case rel => exact ⟨k + 1, by omega, by go_num, kr.drewN _⟩
      case measure => simp [intOf]; omega
    · have hge : (n : Int) ≤ (k : Int) := by omega
      go_wp2_with fail
      go_ret
      exact ⟨rfl, kr⟩

end Go.Proofs.Ytgkhendbpehagaa
