/- The reference's receiver: its state as a window, a number and a list of what is held; New, take. -/
import Derived.Test.YtgkdlplocahnnaaRl
import Derived.Test.YtgkdlplocahnnaaRow
namespace Go.Proofs.Ytgkdlplocahnnaa
open Go.RowKit Go.Maps
set_option linter.unusedVariables false
set_option linter.unusedSimpArgs false

theorem hd_info : (Try.prog.info? 70).map (fun i => (i.zero, i.size, i.bytes)) = some (some (.agg #[.int .i64 0, .int .i64 0]), 2, 16) := by kernel_rfl

structure Hd where
  q : Int
  i : Int
def hdC (p : Hd) : List Value := [.int .i64 p.q, .int .i64 p.i]
theorem hdCells : Cells hdC 2 := ⟨fun _ => rfl, fun x u hu => by simp [hdC] at hu; rcases hu with rfl | rfl <;> rfl⟩
theorem row_hd {w : World} {g c k : Nat} {ps : List Hd} (h : Row w g 70 2 c hdC ps) (hk : k < ps.length) :
    w.cell? ⟨g, k * 2, none⟩ = some (.int .i64 ps[k].q) ∧ w.cell? ⟨g, k * 2 + 1, none⟩ = some (.int .i64 ps[k].i) :=
  ⟨(h.cell hk (r := 0) (by omega)).trans rfl, (h.cell hk (r := 1) (by omega)).trans rfl⟩

theorem hflat_take (ps : List Hd) : ∀ k, (ps.flatMap hdC).take (k * 2) = (ps.take k).flatMap hdC := by
  induction ps with
  | nil => intro k; simp
  | cons p r ih =>
    intro k
    cases k with
    | zero => simp
    | succ k =>
      have := ih k
      rw [List.take_succ_cons, List.flatMap_cons, List.flatMap_cons, ← this, show (k + 1) * 2 = k * 2 + 1 + 1 from by omega]
      simp [hdC]
theorem hflat_drop (ps : List Hd) : ∀ k, (ps.flatMap hdC).drop (k * 2) = (ps.drop k).flatMap hdC := by
  induction ps with
  | nil => intro k; simp
  | cons p r ih =>
    intro k
    cases k with
    | zero => simp
    | succ k =>
      have := ih k
      rw [List.drop_succ_cons, ← this, List.flatMap_cons, show (k + 1) * 2 = k * 2 + 1 + 1 from by omega]
      simp [hdC]

/-- The place of the first element whose number is x. -/
def fnd (x : Int) : List Hd → Option Nat
  | [] => none
  | p :: r => if p.q = x then some 0 else (fnd x r).map (· + 1)

theorem fnd_some {x : Int} {ps : List Hd} {k : Nat} (h : ∀ j (hj : j < ps.length), j < k → ps[j].q ≠ x) (hk : k < ps.length) (he : ps[k].q = x) : fnd x ps = some k := by
  induction ps generalizing k with
  | nil => simp at hk
  | cons p r ih =>
    cases k with
    | zero => simp at he; simp [fnd, he]
    | succ k =>
      have h0 := h 0 (by simp) (by omega)
      simp at h0
      rw [fnd, if_neg h0, ih (k := k) (fun j hj hjk => by have := h (j + 1) (by simp; omega) (by omega); simpa using this) (by simpa using hk) (by simpa using he)]
      rfl
theorem fnd_none {x : Int} {ps : List Hd} (h : ∀ j (hj : j < ps.length), ps[j].q ≠ x) : fnd x ps = none := by
  induction ps with
  | nil => rfl
  | cons p r ih =>
    have h0 := h 0 (by simp)
    simp at h0
    rw [fnd, if_neg h0, ih (fun j hj => by have := h (j + 1) (by simp; omega); simpa using this)]
    rfl

/-- Block s is a receiver of the reference with this window and number, ps is held; its row lies in one of the blocks O, if anywhere. -/
structure RF (w : World) (B s : Nat) (O : List Nat) (wd x : Int) (ps : List Hd) : Prop where
  Bs : B ≤ s
  sO : s ∉ O
  BO : ∀ j ∈ O, B ≤ j
  Ol : ∀ j ∈ O, j < w.heap.size
  hw : 1 ≤ wd ∧ wd ≤ 64
  hx : 0 ≤ x ∧ x < 65536
  hl : ps.length ≤ 1000
  row : ∃ A c, Blk w s 48 #[.int .i64 wd, .int .i64 x, .slice A ps.length c] ∧
    w.ownsRow B 70 2 (.slice A ps.length c) ps.length (ps.flatMap hdC) ∧ ∀ j ∈ ownL (.slice A ps.length c), j ∈ O

section
variable {w w' : World} {B s : Nat} {O : List Nat} {wd x : Int} {ps : List Hd}
theorem RF.chg {S : List Nat} (h : RF w B s O wd x ps) (hc : Chg S w w') (hs : s ∉ S) (hO : ∀ j ∈ O, j ∉ S) : RF w' B s O wd x ps := by
  obtain ⟨h1, h2, h3, h3l, h4, h6, h7, A, c, h9, h10, h11⟩ := h
  exact ⟨h1, h2, h3, fun j hj => Nat.lt_of_lt_of_le (h3l j hj) hc.size, h4, h6, h7, A, c, h9.chg hc hs, own_chg h10 hc (fun g hg => hO g (h11 g (mem_ownL.2 hg))), h11⟩
theorem RF.lt (h : RF w B s O wd x ps) : s < w.heap.size := by
  obtain ⟨A, c, h9, _⟩ := h.row
  exact h9.lt
theorem RF.drewN (h : RF w B s O wd x ps) (m : Nat) : RF (w.drewN m) B s O wd x ps := h.chg ((Chg.refl [] w).drewN m) (by simp) (by simp)
theorem RF.split (h : RF w B s O wd x ps) : ∃ A c, Blk w s 48 #[.int .i64 wd, .int .i64 x, .slice A ps.length c] ∧
    ((A = none ∧ c = 0 ∧ ps = []) ∨ ∃ g, A = some ⟨g, 0, none⟩ ∧ B ≤ g ∧ g ∈ O ∧ g ≠ s ∧ Row w g 70 2 c hdC ps) := by
  obtain ⟨A, c, h9, h10, h11⟩ := h.row
  refine ⟨A, c, h9, ?_⟩
  rcases (own_row hdCells (by omega) h10).2 with h | ⟨g, rfl, hg, hr⟩
  · exact .inl h
  · have hgO := h11 g (mem_ownL.2 rfl)
    exact .inr ⟨g, rfl, hg, hgO, fun e => h.sO (e ▸ hgO), hr⟩
/-- Behind a call that gave the reference a new list, in a row of the call's own. -/
theorem RF.put {W : World} {ps' : List Hd} {A : Option Addr} {n c : Nat} (h : RF w B s O wd x ps) (hB : B ≤ w.heap.size) (hc : Chg [] w W)
    (hown : W.ownsRow w.heap.size 70 2 (.slice A n c) n (ps'.flatMap hdC)) (hl : ps'.length ≤ 1000) :
    RF (W.setCell ⟨s, 2, none⟩ (.slice A n c)) B s (ownL (.slice A n c)) wd x ps' ∧ (∀ j ∈ ownL (.slice A n c), w.heap.size ≤ j) ∧ Chg [s] w (W.setCell ⟨s, 2, none⟩ (.slice A n c)) := by
  obtain ⟨A0, c0, h9, h10, h11⟩ := h.row
  have h9' := h9.chg hc (by simp)
  have hk : n = ps'.length := ((own_row hdCells (by omega) hown).1).symm
  subst hk
  have hqn := ownL_blk hown h9' (by decide)
  have hol := ownL_lt hown
  have hst : Chg [s] W (W.setCell ⟨s, 2, none⟩ (.slice A ps'.length c)) := (Chg.refl [s] W).setCell (by simp) _
  refine ⟨⟨h.Bs, hqn, fun j hj => Nat.le_trans hB (hol j hj).1, fun j hj => by have := (hol j hj).2; simpa [World.setCell] using this, h.hw, h.hx, hl, A, c, ?_, own_base (own_chg hown hst (fun g hg => by simp; rintro rfl; exact hqn (mem_ownL.2 hg))) hB, fun j hj => hj⟩, fun j hj => (hol j hj).1, (hc.mono (by simp)).setCell (by simp) _⟩
  have := h9'.set_ 2 (.slice A ps'.length c)
  simpa only [List.setIfInBounds_toArray, List.set_cons_succ, List.set_cons_zero] using this
theorem RF.setx {x' : Int} (h : RF w B s O wd x ps) (hn : 0 ≤ x' ∧ x' < 65536) : RF (w.setCell ⟨s, 1, none⟩ (.int .i64 x')) B s O wd x' ps := by
  obtain ⟨A, c, h9, h10, h11⟩ := h.row
  have hqn := ownL_blk h10 h9 (by decide)
  have hst : Chg [s] w (w.setCell ⟨s, 1, none⟩ (.int .i64 x')) := (Chg.refl [s] w).setCell (by simp) _
  refine ⟨h.Bs, h.sO, h.BO, fun j hj => by have := h.Ol j hj; simpa [World.setCell] using this, h.hw, hn, h.hl, A, c, ?_, own_chg h10 hst (fun g hg => by simp; rintro rfl; exact hqn (mem_ownL.2 hg)), h11⟩
  have := h9.set_ 1 (.int .i64 x')
  simpa only [List.setIfInBounds_toArray, List.set_cons_succ, List.set_cons_zero] using this
end

set_option maxHeartbeats 400000 in
theorem rfnew_raw (n : Int) (h1 : 1 ≤ n) (h2 : n ≤ 64) (w : World) :
    Calls Try.prog 18 #[.int .i64 n] w fun e w' => e = .returned (.tuple #[.pointer (some ⟨w.heap.size, 0, none⟩), .int .i64 0]) ∧
      ∃ m, w' = (w.alloc (.cells #[.int .i64 n, .int .i64 0, .slice none 0 0] 48)).drewN m := by
  go_enter Try.func18, Try.ntmps18
  go_wp2
  go_ret2
  exact ⟨rfl, 0, rfl⟩
theorem rfnew_c (n : Int) (h1 : 1 ≤ n) (h2 : n ≤ 64) (w : World) {B : Nat} (hB : B ≤ w.heap.size) :
    Calls Try.prog 18 #[.int .i64 n] w fun e w' => ∃ s, e = .returned (.tuple #[.pointer (some ⟨s, 0, none⟩), .int .i64 0]) ∧ RF w' B s [] n 0 [] ∧ w.heap.size ≤ s ∧ Chg [] w w' := by
  refine (rfnew_raw n h1 h2 w).mono ?_
  rintro e w' ⟨rfl, m, rfl⟩
  exact ⟨w.heap.size, rfl, ⟨hB, by simp, by simp, by simp, ⟨h1, h2⟩, by omega, by simp, none, 0, (Blk.new _ _ _).drewN m, World.ownsRow_nil _ _ _ _, by simp [ownL, Value.ownBlock]⟩, Nat.le_refl _, ((Chg.refl _ _).alloc _).drewN m⟩
set_option maxHeartbeats 400000 in
theorem rfnew_bad (n : Int) (h : ¬ (1 ≤ n ∧ n ≤ 64)) (w : World) :
    Calls Try.prog 18 #[.int .i64 n] w fun e w' => e = .returned (.tuple #[.pointer none, .int .i64 1]) ∧ Chg [] w w' := by
  go_enter Try.func18, Try.ntmps18
  go_wp2
  all_goals
    first
      | (go_ret2; exact ⟨rfl, Chg.refl _ _⟩)
      | (exfalso; simp only [Bool.not_eq_false', decide_eq_true_eq, decide_eq_false_iff_not] at *; omega)
      | (exfalso; simp at *; omega)
set_option maxHeartbeats 400000 in
theorem rvnew_bad (n : Int) (h : ¬ (1 ≤ n ∧ n ≤ 64)) (w : World) :
    Calls Try.prog 9 #[.int .i64 n] w fun e w' => e = .returned (.tuple #[.pointer none, .int .i64 1]) ∧ Chg [] w w' := by
  go_enter Try.func9, Try.ntmps9
  go_wp2
  all_goals
    first
      | (go_ret2; exact ⟨rfl, Chg.refl _ _⟩)
      | (exfalso; simp only [Bool.not_eq_false', decide_eq_true_eq, decide_eq_false_iff_not] at *; omega)
      | (exfalso; simp at *; omega)

end Go.Proofs.Ytgkdlplocahnnaa
