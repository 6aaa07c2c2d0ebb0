/- The sender: its pending packets as a list; New, Base, steps, Open. -/
import Derived.Test.YtgkhendbpehagaaBm
import Derived.Test.YtgkhendbpehagaaRow
namespace Go.Proofs.Ytgkhendbpehagaa
open Go.RowKit
set_option linter.unusedVariables false
set_option linter.unusedSimpArgs false

theorem sn_info : (Try.prog.info? 39).map (fun i => (i.zero, i.size, i.bytes)) = some (some (.agg #[.int .i64 0, .int .i64 0, .int .i64 0]), 3, 24) := by kernel_rfl

structure Sn where
  q : Int
  i : Int
  t : Int
def snC (p : Sn) : List Value := [.int .i64 p.q, .int .i64 p.i, .int .i64 p.t]
theorem snCells : Cells snC 3 := ⟨fun _ => rfl, fun x u hu => by simp [snC] at hu; rcases hu with rfl | rfl | rfl <;> rfl⟩

/-- The number of the oldest pending packet, or the next number. -/
def bs (nx : Int) : List Sn → Int
  | [] => nx
  | p :: _ => p.q

def okSn (p : Sn) : Prop := 0 ≤ p.q ∧ p.q < 65536 ∧ 0 ≤ p.t ∧ p.t ≤ 16

/-- Block s is a sender with this window, tries and next number, ps are pending; its row lies in one of the blocks O, if anywhere. -/
structure SA (w : World) (B s : Nat) (O : List Nat) (wd tr nx : Int) (ps : List Sn) : Prop where
  Bs : B ≤ s
  sO : s ∉ O
  BO : ∀ j ∈ O, B ≤ j
  Ol : ∀ j ∈ O, j < w.heap.size
  hw : 1 ≤ wd ∧ wd ≤ 64
  ht : 1 ≤ tr ∧ tr ≤ 16
  hn : 0 ≤ nx ∧ nx < 65536
  hl : ps.length ≤ 1000
  ok : ∀ p ∈ ps, okSn p
  row : ∃ A c, Blk w s 56 #[.int .i64 wd, .int .i64 tr, .int .i64 nx, .slice A ps.length c] ∧
    w.ownsRow B 39 3 (.slice A ps.length c) ps.length (ps.flatMap snC) ∧ ∀ j ∈ ownL (.slice A ps.length c), j ∈ O

section
variable {w w' : World} {B s : Nat} {O : List Nat} {wd tr nx : Int} {ps : List Sn}
theorem SA.chg {S : List Nat} (h : SA w B s O wd tr nx ps) (hc : Chg S w w') (hs : s ∉ S) (hO : ∀ j ∈ O, j ∉ S) : SA w' B s O wd tr nx ps := by
  obtain ⟨h1, h2, h3, h3l, h4, h5, h6, h7, h8, A, c, h9, h10, h11⟩ := h
  exact ⟨h1, h2, h3, fun j hj => Nat.lt_of_lt_of_le (h3l j hj) hc.size, h4, h5, h6, h7, h8, A, c, h9.chg hc hs, own_chg h10 hc (fun g hg => hO g (h11 g (mem_ownL.2 hg))), h11⟩
theorem SA.lt (h : SA w B s O wd tr nx ps) : s < w.heap.size := by
  obtain ⟨A, c, h9, _⟩ := h.row
  exact h9.lt
theorem SA.bs (h : SA w B s O wd tr nx ps) : 0 ≤ bs nx ps ∧ bs nx ps < 65536 := by
  cases ps with
  | nil => exact h.hn
  | cons p r => exact ⟨(h.ok p (by simp)).1, (h.ok p (by simp)).2.1⟩
end

set_option maxHeartbeats 400000 in
theorem snew_raw (n t : Int) (h1 : 1 ≤ n) (h2 : n ≤ 64) (h3 : 1 ≤ t) (h4 : t ≤ 16) (w : World) :
    Calls Try.prog 8 #[.int .i64 n, .int .i64 t] w fun e w' => e = .returned (.tuple #[.pointer (some ⟨w.heap.size, 0, none⟩), .int .i64 0]) ∧
      ∃ m, w' = (w.alloc (.cells #[.int .i64 n, .int .i64 t, .int .i64 0, .slice none 0 0] 56)).drewN m := by
  go_enter Try.func8, Try.ntmps8
  go_wp2
  go_ret2
  exact ⟨rfl, 0, rfl⟩

theorem snew_c (n t : Int) (h1 : 1 ≤ n) (h2 : n ≤ 64) (h3 : 1 ≤ t) (h4 : t ≤ 16) (w : World) {B : Nat} (hB : B ≤ w.heap.size) :
    Calls Try.prog 8 #[.int .i64 n, .int .i64 t] w fun e w' => ∃ s, e = .returned (.tuple #[.pointer (some ⟨s, 0, none⟩), .int .i64 0]) ∧ SA w' B s [] n t 0 [] ∧ w.heap.size ≤ s ∧ Chg [] w w' := by
  refine (snew_raw n t h1 h2 h3 h4 w).mono ?_
  rintro e w' ⟨rfl, m, rfl⟩
  exact ⟨w.heap.size, rfl, ⟨hB, by simp, by simp, by simp, ⟨h1, h2⟩, ⟨h3, h4⟩, by omega, by simp, by simp, none, 0, (Blk.new _ _ _).drewN m, World.ownsRow_nil _ _ _ _, by simp [ownL, Value.ownBlock]⟩, Nat.le_refl _, ((Chg.refl _ _).alloc _).drewN m⟩

set_option maxHeartbeats 400000 in
theorem sbase_nil (s : Nat) (A : Option Addr) (c : Nat) (nx : Int) (w : World) (h2 : w.cell? ⟨s, 2, none⟩ = some (.int .i64 nx)) (h3 : w.cell? ⟨s, 3, none⟩ = some (.slice A 0 c)) :
    Calls Try.prog 14 #[.pointer (some ⟨s, 0, none⟩)] w fun e w' => e = .returned (.int .i64 nx) ∧ ∃ m, w' = w.drewN m := by
  go_enter Try.func14, Try.ntmps14
  go_wp2
  go_ret
  exact ⟨rfl, 0, rfl⟩
set_option maxHeartbeats 400000 in
theorem sbase_some (s g n c : Nat) (q : Int) (w : World) (h3 : w.cell? ⟨s, 3, none⟩ = some (.slice (some ⟨g, 0, none⟩) (n + 1) c)) (h0 : w.cell? ⟨g, 0, none⟩ = some (.int .i64 q)) :
    Calls Try.prog 14 #[.pointer (some ⟨s, 0, none⟩)] w fun e w' => e = .returned (.int .i64 q) ∧ ∃ m, w' = w.drewN m := by
  have hd : ((n : Int) + 1 == 0) = false := by rw [beq_eq_false_iff_ne]; omega
  have hb1 : (0 : Int) < (n : Int) + 1 := by omega
  go_enter Try.func14, Try.ntmps14
  go_wp2
  go_ret
  exact ⟨rfl, 0, rfl⟩

theorem SA.split {w : World} {B s : Nat} {O : List Nat} {wd tr nx : Int} {ps : List Sn} (h : SA w B s O wd tr nx ps) : ∃ A c, Blk w s 56 #[.int .i64 wd, .int .i64 tr, .int .i64 nx, .slice A ps.length c] ∧
    ((A = none ∧ c = 0 ∧ ps = []) ∨ ∃ g, A = some ⟨g, 0, none⟩ ∧ B ≤ g ∧ g ∈ O ∧ g ≠ s ∧ Row w g 39 3 c snC ps) := by
  obtain ⟨A, c, h9, h10, h11⟩ := h.row
  refine ⟨A, c, h9, ?_⟩
  rcases (own_row snCells (by omega) h10).2 with h | ⟨g, rfl, hg, hr⟩
  · exact .inl h
  · have hgO := h11 g (mem_ownL.2 rfl)
    exact .inr ⟨g, rfl, hg, hgO, fun e => h.sO (e ▸ hgO), hr⟩

theorem sbase_c {w : World} {B s : Nat} {O : List Nat} {wd tr nx : Int} {ps : List Sn} (h : SA w B s O wd tr nx ps) :
    Calls Try.prog 14 #[.pointer (some ⟨s, 0, none⟩)] w fun e w' => e = .returned (.int .i64 (bs nx ps)) ∧ ∃ m, w' = w.drewN m := by
  obtain ⟨A, c, h9, h10⟩ := h.split
  cases ps with
  | nil => exact sbase_nil s A c nx w ((h9.cell 2).trans rfl) ((h9.cell 3).trans rfl)
  | cons p r =>
    rcases h10 with ⟨_, _, h0⟩ | ⟨g, rfl, _, _, _, hr⟩
    · cases h0
    · exact sbase_some s g r.length c p.q w ((h9.cell 3).trans rfl) ((hr.cell (k := 0) (by simp) (r := 0) (by omega)).trans rfl)

theorem SA.drewN {w : World} {B s : Nat} {O : List Nat} {wd tr nx : Int} {ps : List Sn} (h : SA w B s O wd tr nx ps) (m : Nat) : SA (w.drewN m) B s O wd tr nx ps := h.chg ((Chg.refl [] w).drewN m) (by simp) (by simp)

set_option maxHeartbeats 400000 in
theorem ssteps_c {w : World} {B s : Nat} {O : List Nat} {wd tr nx : Int} {ps : List Sn} (h : SA w B s O wd tr nx ps) (q : Int) (h1 : 0 ≤ q) (h2 : q < 65536) :
    Calls Try.prog 28 #[.pointer (some ⟨s, 0, none⟩), .int .i64 q] w fun e w' => e = .returned (.int .i64 (dst (bs nx ps) q)) ∧ ∃ m, w' = w.drewN m := by
  have hb := h.bs
  go_enter Try.func28, Try.ntmps28
  go_wp2_with fail
  refine (sbase_c h).mono ?_
  rintro e w' ⟨rfl, m, rfl⟩
  go_wp2_with fail
  refine (dist_ok (bs nx ps) q _ hb.1 hb.2 h1 h2).mono ?_
  rintro e w' ⟨rfl, rfl⟩
  go_wp2_with fail
  go_ret
  exact ⟨rfl, m, rfl⟩

set_option maxHeartbeats 400000 in
theorem sopen_c {w : World} {B s : Nat} {O : List Nat} {wd tr nx : Int} {ps : List Sn} (h : SA w B s O wd tr nx ps) :
    Calls Try.prog 16 #[.pointer (some ⟨s, 0, none⟩)] w fun e w' => e = .returned (.bool (decide (dst (bs nx ps) nx < wd))) ∧ ∃ m, w' = w.drewN m := by
  obtain ⟨A, c, h9, _⟩ := h.split
  have h0 := (h9.cell 0).trans rfl
  have h2 := (h9.cell 2).trans rfl
  have hn := h.hn
  go_enter Try.func16, Try.ntmps16
  go_wp2_with fail
  go_quiet ((go_at_call 28; exact Calls.quiet_of (ssteps_c (h.drewN _) nx hn.1 hn.2)))
  go_wp2_with fail
  go_ret
  exact ⟨rfl, _, rfl⟩

end Go.Proofs.Ytgkhendbpehagaa
