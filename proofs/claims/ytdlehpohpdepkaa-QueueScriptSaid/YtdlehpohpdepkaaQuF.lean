/- Expire's closure; clear of n elements. -/
import Derived.Test.YtdlehpohpdepkaaQuE
namespace Go.Proofs.Ytdlehpohpdepkaa
open Go.RowKit
set_option linter.unusedVariables false
set_option linter.unusedSimpArgs false

theorem cell_lt {w : World} {a : Addr} {v : Value} (h : w.cell? a = some v) : a.block < w.heap.size := by
  refine Nat.lt_of_not_le fun hn => ?_
  have hnone : w.heap[a.block]? = none := Array.getElem?_eq_none hn
  simp [World.cell?, hnone] at h

def pv (p : Pk) : Value := .agg #[.int .i64 p.i, .int .i64 p.f, .int .i64 p.l, .int .i64 p.a, .int .i64 p.d]

set_option maxHeartbeats 400000 in
theorem expfn_c (p : Pk) (b : Nat) (s : Int) (w : World) (h : w.cell? ⟨b, 0, none⟩ = some (.int .i64 s)) :
    Calls Try.prog 32 #[pv p, .pointer (some ⟨b, 0, none⟩)] w fun e w' => e = .returned (.bool (lateB p.d s)) ∧ Chg [] w w' := by
  unfold pv
  have hb : b < w.heap.size := cell_lt h
  have h' : ∀ o, (w.alloc o).cell? ⟨b, 0, none⟩ = some (.int .i64 s) := fun o => (World.cell?_alloc_lt w o _ hb).trans h
  go_enter Try.func32, Try.ntmps32
  go_wp2_with fail
  refine (late_raw p.i p.f p.l p.a p.d s _).mono ?_
  rintro e w' ⟨rfl, hc⟩
  go_wp2_with fail
  go_ret
  exact ⟨rfl, ((Chg.refl [] w).alloc _).trans hc (by simp)⟩

theorem zero_cells {z : Array Value} (n : Nat) : (Builtin.zeroCells z n).size = z.size * n := by
  simp [Builtin.zeroCells, Nat.mul_comm]

/-- clear of n elements. -/
theorem run_clear_n {P : Program} (w : World) (t e ty : TypeId) (z : Value) (ht : P.underlying t = some (.slice e)) (hv : ∀ w, (zeroValue e).run P w = .ok z w) (h1 : ∀ n, ∀ u ∈ (Builtin.zeroCells z.cells n).toList, u.oneCell' = true) (b o n c : Nat) (hn : 0 < n)
    (hc : ∀ j, j < z.cells.size * n → (w.cell? ⟨b, o + j, none⟩).isSome = true) (hf : ∀ j, j < z.cells.size * n → w.frozen? ⟨b, o + j, none⟩ = false) :
    (Builtin.clear_ #[t] ty #[.slice (some ⟨b, o, none⟩) n c]).run P w = .ok (.tuple #[]) (w.setCells b o (Builtin.zeroCells z.cells n).toList) := by
  have hst := run_storeCells_cells (P := P) b o (Builtin.zeroCells z.cells n).toList 0 w (by simpa [zero_cells] using hc) (by simpa [zero_cells] using hf) (h1 n)
  simp only [Nat.add_zero] at hst
  obtain ⟨m, rfl⟩ : ∃ m, n = m + 1 := ⟨n - 1, by omega⟩
  simp [Builtin.clear_, run_underlying ht, hv, hst]

end Go.Proofs.Ytdlehpohpdepkaa
