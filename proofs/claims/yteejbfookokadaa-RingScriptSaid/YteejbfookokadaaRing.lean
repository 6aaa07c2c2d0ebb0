/- The contracts of package ring's functions. 'RingA w B r q n L': block r is a ring of capacity n whose cells lie in block q, and that holds the numbers L. -/
import Derived.Test.YteejbfookokadaaGen
import Derived.BigRegion
namespace Go.Proofs.Yteejbfookokadaa
open Go.RowKit
set_option linter.unusedVariables false
set_option linter.unusedSimpArgs false

def RingA (w : World) (B r q n : Nat) (L : List Int) : Prop :=
  B ≤ r ∧ B ≤ q ∧ r ≠ q ∧ 1 ≤ n ∧ n ≤ 4096 ∧ L.length ≤ n ∧ ∃ f cs, f < n ∧ Blk w r 51 #[.slice (some ⟨q, 0, none⟩) n n, .int .i64 (f : Nat), .int .i64 (L.length : Nat)] ∧
    Blk w q 3 cs ∧ cs.size = n ∧ ∀ i, i < L.length → cs[(f + i) % n]? = some (.int .i64 (L.getD i 0))

theorem RingA.chg {S : List Nat} {w w' : World} {B r q n : Nat} {L : List Int} (h : RingA w B r q n L) (hc : Chg S w w') (hr : r ∉ S) (hq : q ∉ S) : RingA w' B r q n L := by
  obtain ⟨h1, h2, h3, h4, h5, h6, f, cs, h7, h8, h9, h10⟩ := h
  exact ⟨h1, h2, h3, h4, h5, h6, f, cs, h7, h8.chg hc hr, h9.chg hc hq, h10⟩
theorem RingA.len {w : World} {B r q n : Nat} {L : List Int} (h : RingA w B r q n L) : L.length ≤ n ∧ 1 ≤ n ∧ n ≤ 4096 := ⟨h.2.2.2.2.2.1, h.2.2.2.1, h.2.2.2.2.1⟩
theorem RingA.lt {w : World} {B r q n : Nat} {L : List Int} (h : RingA w B r q n L) : B ≤ r ∧ B ≤ q ∧ r ≠ q ∧ r < w.heap.size ∧ q < w.heap.size := by
  obtain ⟨h1, h2, h3, h4, h5, h6, f, cs, h7, h8, h9, h10⟩ := h
  exact ⟨h1, h2, h3, h8.lt, h9.lt⟩

set_option maxHeartbeats 400000 in
theorem cell_raw (r q n f i : Nat) (w : World) (h0 : w.cell? ⟨r, 0, none⟩ = some (.slice (some ⟨q, 0, none⟩) n n)) (h1 : w.cell? ⟨r, 1, none⟩ = some (.int .i64 (f : Nat)))
    (hn : 1 ≤ n) (hn2 : n ≤ 4096) (hf : f < n) (hi : i ≤ 4096) :
    Calls Try.prog 23 #[.pointer (some ⟨r, 0, none⟩), .int .i64 (i : Nat)] w fun e w' => e = .returned (.pointer (some ⟨q, (f + i) % n, none⟩)) ∧ ∃ m, w' = w.drewN m := by
  have hlt := Nat.mod_lt (f + i) (show 0 < n by omega)
  have hI : ((f : Int) + (i : Int)) % (n : Int) < (n : Int) := Int.emod_lt_of_pos _ (by omega)
  have hJ : 0 ≤ ((f : Int) + (i : Int)) % (n : Int) := Int.emod_nonneg _ (by omega)
  go_enter Try.func23, Try.ntmps23
  go_wp2
  go_quiet (fail)
  go_wp2
  go_ret
  exact ⟨rfl, _, rfl⟩

section
variable (r q n f c : Nat) (x : Int) (w : World) (u : Value)

set_option maxHeartbeats 400000 in
theorem push_full (h0 : w.cell? ⟨r, 0, none⟩ = some (.slice (some ⟨q, 0, none⟩) n n)) (h2 : w.cell? ⟨r, 2, none⟩ = some (.int .i64 (n : Nat))) :
    Calls Try.prog 10 #[.pointer (some ⟨r, 0, none⟩), .int .i64 x] w fun e w' => e = .returned (.int .i64 4) ∧ ∃ m, w' = w.drewN m := by
  go_enter Try.func10, Try.ntmps10
  go_wp2
  go_quiet (fail)
  go_wp2
  go_ret
  exact ⟨rfl, _, rfl⟩

set_option maxHeartbeats 400000 in
theorem push_room (h0 : w.cell? ⟨r, 0, none⟩ = some (.slice (some ⟨q, 0, none⟩) n n)) (h1 : w.cell? ⟨r, 1, none⟩ = some (.int .i64 (f : Nat))) (h2 : w.cell? ⟨r, 2, none⟩ = some (.int .i64 (c : Nat)))
    (hne : r ≠ q) (hf2 : w.frozen? ⟨r, 2, none⟩ = false) (hu : w.cell? ⟨q, (f + c) % n, none⟩ = some u) (hfu : w.frozen? ⟨q, (f + c) % n, none⟩ = false)
    (hn : 1 ≤ n) (hn2 : n ≤ 4096) (hf : f < n) (hc : c < n) :
    Calls Try.prog 10 #[.pointer (some ⟨r, 0, none⟩), .int .i64 x] w fun e w' => e = .returned (.int .i64 0) ∧
      ∃ m, w' = ((w.setCell ⟨q, (f + c) % n, none⟩ (.int .i64 x)).setCell ⟨r, 2, none⟩ (.int .i64 (c + 1))).drewN m := by
  have hd : ((c : Int) == (n : Int)) = false := by rw [beq_eq_false_iff_ne]; omega
  go_enter Try.func10, Try.ntmps10
  go_wp2
  go_quiet (fail)
  go_wp2_with (go_at_call 23; refine (cell_raw r q n f c _ (by simpa using h0) (by simpa using h1) hn hn2 hf (by omega)).mono ?_; rintro e w' ⟨rfl, m, rfl⟩)
  go_ret
  exact ⟨rfl, _, rfl⟩
set_option maxHeartbeats 400000 in
theorem pop_none (h2 : w.cell? ⟨r, 2, none⟩ = some (.int .i64 0)) :
    Calls Try.prog 11 #[.pointer (some ⟨r, 0, none⟩)] w fun e w' => e = .returned (.tuple #[.int .i64 0, .int .i64 5]) ∧ ∃ m, w' = w.drewN m := by
  go_enter Try.func11, Try.ntmps11
  go_wp2
  go_ret2
  exact ⟨rfl, 0, rfl⟩

set_option maxHeartbeats 400000 in
theorem pop_some (h0 : w.cell? ⟨r, 0, none⟩ = some (.slice (some ⟨q, 0, none⟩) n n)) (h1 : w.cell? ⟨r, 1, none⟩ = some (.int .i64 (f : Nat))) (h2 : w.cell? ⟨r, 2, none⟩ = some (.int .i64 (c : Nat)))
    (hne : r ≠ q) (hf1 : w.frozen? ⟨r, 1, none⟩ = false) (hf2 : w.frozen? ⟨r, 2, none⟩ = false) (hu : w.cell? ⟨q, f % n, none⟩ = some (.int .i64 x))
    (hn : 1 ≤ n) (hn2 : n ≤ 4096) (hf : f < n) (hc : c ≤ n) (hc0 : 1 ≤ c) :
    Calls Try.prog 11 #[.pointer (some ⟨r, 0, none⟩)] w fun e w' => e = .returned (.tuple #[.int .i64 x, .int .i64 0]) ∧
      ∃ m, w' = ((w.setCell ⟨r, 1, none⟩ (.int .i64 (((f : Int) + 1) % (n : Int)))).setCell ⟨r, 2, none⟩ (.int .i64 ((c : Int) - 1))).drewN m := by
  have hd : ((c : Int) == 0) = false := by rw [beq_eq_false_iff_ne]; omega
  have hI : ((f : Int) + 1) % (n : Int) < (n : Int) := Int.emod_lt_of_pos _ (by omega)
  have hJ : 0 ≤ ((f : Int) + 1) % (n : Int) := Int.emod_nonneg _ (by omega)
  go_enter Try.func11, Try.ntmps11
  go_wp2_with (go_at_call 23; refine (cell_raw r q n f 0 _ (by simpa using h0) (by simpa using h1) hn hn2 hf (by omega)).mono ?_; rintro e w' ⟨rfl, m, rfl⟩)
  go_region
  go_wp2
  go_ret2
  exact ⟨rfl, _, rfl⟩

set_option maxHeartbeats 400000 in
theorem popb_none (h2 : w.cell? ⟨r, 2, none⟩ = some (.int .i64 0)) :
    Calls Try.prog 19 #[.pointer (some ⟨r, 0, none⟩)] w fun e w' => e = .returned (.tuple #[.int .i64 0, .int .i64 5]) ∧ ∃ m, w' = w.drewN m := by
  go_enter Try.func19, Try.ntmps19
  go_wp2
  go_ret2
  exact ⟨rfl, 0, rfl⟩

set_option maxHeartbeats 400000 in
theorem popb_some (h0 : w.cell? ⟨r, 0, none⟩ = some (.slice (some ⟨q, 0, none⟩) n n)) (h1 : w.cell? ⟨r, 1, none⟩ = some (.int .i64 (f : Nat))) (h2 : w.cell? ⟨r, 2, none⟩ = some (.int .i64 ((c + 1 : Nat) : Int)))
    (hne : r ≠ q) (hf2 : w.frozen? ⟨r, 2, none⟩ = false) (hu : w.cell? ⟨q, (f + c) % n, none⟩ = some (.int .i64 x))
    (hn : 1 ≤ n) (hn2 : n ≤ 4096) (hf : f < n) (hc : c < n) :
    Calls Try.prog 19 #[.pointer (some ⟨r, 0, none⟩)] w fun e w' => e = .returned (.tuple #[.int .i64 x, .int .i64 0]) ∧
      ∃ m, w' = (w.setCell ⟨r, 2, none⟩ (.int .i64 (c : Nat))).drewN m := by
  have hd : (((c + 1 : Nat) : Int) == 0) = false := by rw [beq_eq_false_iff_ne]; omega
  have hs : ((c : Int) + 1 - 1) = (c : Int) := by omega
  have h2' : w.cell? ⟨r, 2, none⟩ = some (.int .i64 ((c : Int) + 1)) := h2
  clear h2
  go_enter Try.func19, Try.ntmps19
  go_wp2_with (go_at_call 23; refine (cell_raw r q n f c _ (by simp [go_sem, h0]) (by simp [go_sem, h1]) hn hn2 hf (by omega)).mono ?_; rintro e w' ⟨rfl, m, rfl⟩)
  go_ret2
  exact ⟨rfl, _, rfl⟩

set_option maxHeartbeats 400000 in
theorem pushf_full (h0 : w.cell? ⟨r, 0, none⟩ = some (.slice (some ⟨q, 0, none⟩) n n)) (h2 : w.cell? ⟨r, 2, none⟩ = some (.int .i64 (n : Nat))) :
    Calls Try.prog 17 #[.pointer (some ⟨r, 0, none⟩), .int .i64 x] w fun e w' => e = .returned (.int .i64 4) ∧ ∃ m, w' = w.drewN m := by
  go_enter Try.func17, Try.ntmps17
  go_wp2
  go_quiet (fail)
  go_wp2
  go_ret
  exact ⟨rfl, _, rfl⟩

set_option maxHeartbeats 400000 in
theorem pushf_room (h0 : w.cell? ⟨r, 0, none⟩ = some (.slice (some ⟨q, 0, none⟩) n n)) (h1 : w.cell? ⟨r, 1, none⟩ = some (.int .i64 (f : Nat))) (h2 : w.cell? ⟨r, 2, none⟩ = some (.int .i64 (c : Nat)))
    (hne : r ≠ q) (hf1 : w.frozen? ⟨r, 1, none⟩ = false) (hf2 : w.frozen? ⟨r, 2, none⟩ = false) (hu : w.cell? ⟨q, (f + n - 1) % n, none⟩ = some u) (hfu : w.frozen? ⟨q, (f + n - 1) % n, none⟩ = false)
    (hn : 1 ≤ n) (hn2 : n ≤ 4096) (hf : f < n) (hc : c < n) :
    Calls Try.prog 17 #[.pointer (some ⟨r, 0, none⟩), .int .i64 x] w fun e w' => e = .returned (.int .i64 0) ∧
      ∃ m, w' = (((w.setCell ⟨r, 1, none⟩ (.int .i64 ((f + n - 1) % n : Nat))).setCell ⟨r, 2, none⟩ (.int .i64 ((c : Int) + 1))).setCell ⟨q, (f + n - 1) % n, none⟩ (.int .i64 x)).drewN m := by
  have hd : ((c : Int) == (n : Int)) = false := by rw [beq_eq_false_iff_ne]; omega
  have hI : ((f : Int) + (n : Int) - 1) % (n : Int) < (n : Int) := Int.emod_lt_of_pos _ (by omega)
  have hJ : 0 ≤ ((f : Int) + (n : Int) - 1) % (n : Int) := Int.emod_nonneg _ (by omega)
  have hE : ((f : Int) + (n : Int) - 1) % (n : Int) = (((f + n - 1) % n : Nat) : Int) := by
    rw [← show ((f + n - 1 : Nat) : Int) = (f : Int) + (n : Int) - 1 from by omega]
    exact (Int.natCast_emod _ _).symm
  obtain ⟨g, hg⟩ : ∃ g, g = (f + n - 1) % n := ⟨_, rfl⟩
  have hgl : g < n := by rw [hg]; exact Nat.mod_lt _ (by omega)
  have hgm : g % n = g := Nat.mod_eq_of_lt hgl
  rw [← hg] at hE hu hfu ⊢
  clear hg
  go_enter Try.func17, Try.ntmps17
  go_wp2
  go_quiet (fail)
  go_wp2
  go_region
  go_wp2_with (go_at_call 23; refine (cell_raw r q n g 0 _ (by simp [go_sem, h0]) (by simp [go_sem, h1]) hn hn2 hgl (by omega)).mono ?_; rintro e w' ⟨rfl, m, rfl⟩)
  go_ret
  exact ⟨rfl, _, rfl⟩

set_option maxHeartbeats 400000 in
theorem at_none (i : Int) (h2 : w.cell? ⟨r, 2, none⟩ = some (.int .i64 (c : Nat))) (hi : i < 0 ∨ (c : Int) ≤ i) :
    Calls Try.prog 18 #[.pointer (some ⟨r, 0, none⟩), .int .i64 i] w fun e w' => e = .returned (.tuple #[.int .i64 0, .bool false]) ∧ ∃ m, w' = w.drewN m := by
  by_cases hi0 : i < 0
  all_goals
    have hi1 : 0 ≤ i → (c : Int) ≤ i := by omega
    go_enter Try.func18, Try.ntmps18
    go_wp2
    go_ret2
    exact ⟨rfl, 0, rfl⟩

set_option maxHeartbeats 400000 in
theorem at_some (i : Nat) (h0 : w.cell? ⟨r, 0, none⟩ = some (.slice (some ⟨q, 0, none⟩) n n)) (h1 : w.cell? ⟨r, 1, none⟩ = some (.int .i64 (f : Nat))) (h2 : w.cell? ⟨r, 2, none⟩ = some (.int .i64 (c : Nat)))
    (hu : w.cell? ⟨q, (f + i) % n, none⟩ = some (.int .i64 x)) (hn : 1 ≤ n) (hn2 : n ≤ 4096) (hf : f < n) (hc : c ≤ n) (hi : i < c) :
    Calls Try.prog 18 #[.pointer (some ⟨r, 0, none⟩), .int .i64 i] w fun e w' => e = .returned (.tuple #[.int .i64 x, .bool true]) ∧ ∃ m, w' = w.drewN m := by
  go_enter Try.func18, Try.ntmps18
  go_wp2_with (go_at_call 23; refine (cell_raw r q n f i _ (by simpa using h0) (by simpa using h1) hn hn2 hf (by omega)).mono ?_; rintro e w' ⟨rfl, m, rfl⟩)
  go_ret2
  exact ⟨rfl, _, rfl⟩

set_option maxHeartbeats 400000 in
theorem len_raw (h2 : w.cell? ⟨r, 2, none⟩ = some (.int .i64 (c : Nat))) :
    Calls Try.prog 12 #[.pointer (some ⟨r, 0, none⟩)] w fun e w' => e = .returned (.int .i64 (c : Nat)) ∧ ∃ m, w' = w.drewN m := by
  go_enter Try.func12, Try.ntmps12
  go_wp2
  go_ret
  exact ⟨rfl, 0, rfl⟩

set_option maxHeartbeats 400000 in
theorem cap_raw (h0 : w.cell? ⟨r, 0, none⟩ = some (.slice (some ⟨q, 0, none⟩) n n)) :
    Calls Try.prog 22 #[.pointer (some ⟨r, 0, none⟩)] w fun e w' => e = .returned (.int .i64 (n : Nat)) ∧ ∃ m, w' = w.drewN m := by
  go_enter Try.func22, Try.ntmps22
  go_wp2
  go_ret
  exact ⟨rfl, 0, rfl⟩
end

end Go.Proofs.Yteejbfookokadaa
