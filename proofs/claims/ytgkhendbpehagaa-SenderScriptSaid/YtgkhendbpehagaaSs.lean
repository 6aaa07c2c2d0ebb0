/- The reference's sender: Assign, Send. -/
import Derived.Test.YtgkhendbpehagaaSr
namespace Go.Proofs.Ytgkhendbpehagaa
open Go.RowKit
set_option linter.unusedVariables false
set_option linter.unusedSimpArgs false

/-- Behind a call that gave the reference a new list, in a row of the call's own. -/
theorem RA.put {w W : World} {B s : Nat} {O : List Nat} {wd tr nx : Int} {ps ps' : List Sn} {A : Option Addr} {n c : Nat} (h : RA w B s O wd tr nx ps) (hB : B ≤ w.heap.size) (hc : Chg [] w W)
    (hown : W.ownsRow w.heap.size 39 3 (.slice A n c) n (ps'.flatMap snC)) (hl : ps'.length ≤ 1000) (hok : ∀ p ∈ ps', okSn p) :
    RA (W.setCell ⟨s, 3, none⟩ (.slice A n c)) B s (ownL (.slice A n c)) wd tr nx ps' ∧ (∀ j ∈ ownL (.slice A n c), w.heap.size ≤ j) ∧ Chg [s] w (W.setCell ⟨s, 3, none⟩ (.slice A n c)) := by
  obtain ⟨A0, c0, h9, h10, h11⟩ := h.row
  have h9' := h9.chg hc (by simp)
  have hk : n = ps'.length := ((own_row snCells (by omega) hown).1).symm
  subst hk
  have hqn := ownL_blk hown h9' (by decide)
  have hol := ownL_lt hown
  have hst : Chg [s] W (W.setCell ⟨s, 3, none⟩ (.slice A ps'.length c)) := (Chg.refl [s] W).setCell (by simp) _
  refine ⟨⟨h.Bs, hqn, fun j hj => Nat.le_trans hB (hol j hj).1, fun j hj => by have := (hol j hj).2; simpa [World.setCell] using this, h.hw, h.ht, h.hn, hl, hok, A, c, ?_, own_base (own_chg hown hst (fun g hg => by simp; rintro rfl; exact hqn (mem_ownL.2 hg))) hB, fun j hj => hj⟩, fun j hj => (hol j hj).1, (hc.mono (by simp)).setCell (by simp) _⟩
  have := h9'.set_ 3 (.slice A ps'.length c)
  simpa only [List.setIfInBounds_toArray, List.set_cons_succ, List.set_cons_zero] using this
theorem RA.setnx {w : World} {B s : Nat} {O : List Nat} {wd tr nx nx' : Int} {ps : List Sn} (h : RA w B s O wd tr nx ps) (hn : 0 ≤ nx' ∧ nx' < 65536) : RA (w.setCell ⟨s, 2, none⟩ (.int .i64 nx')) B s O wd tr nx' ps := by
  obtain ⟨A, c, h9, h10, h11⟩ := h.row
  have hqn := ownL_blk h10 h9 (by decide)
  have hst : Chg [s] w (w.setCell ⟨s, 2, none⟩ (.int .i64 nx')) := (Chg.refl [s] w).setCell (by simp) _
  refine ⟨h.Bs, h.sO, h.BO, fun j hj => by have := h.Ol j hj; simpa [World.setCell] using this, h.hw, h.ht, hn, h.hl, h.ok, A, c, ?_, own_chg h10 hst (fun g hg => by simp; rintro rfl; exact hqn (mem_ownL.2 hg)), h11⟩
  have := h9.set_ 2 (.int .i64 nx')
  simpa only [List.setIfInBounds_toArray, List.set_cons_succ, List.set_cons_zero] using this

set_option maxHeartbeats 1000000 in
theorem rassign_bad {w : World} {B s : Nat} {O : List Nat} {wd tr nx : Int} {ps : List Sn} (h : RA w B s O wd tr nx ps) (id : Int) (hid : id < 1) :
    Calls Try.prog 34 #[.pointer (some ⟨s, 0, none⟩), .int .i64 id] w fun e w' => e = .returned (.tuple #[.int .i64 0, .int .i64 1]) ∧ ∃ m, w' = w.drewN m := by
  go_enter Try.func34, Try.ntmps34
  go_wp2_with fail
  go_ret2
  exact ⟨rfl, 0, rfl⟩

set_option maxHeartbeats 1000000 in
theorem rassign_full {w : World} {B s : Nat} {O : List Nat} {wd tr nx : Int} {ps : List Sn} (h : RA w B s O wd tr nx ps) (id : Int) (hid : 1 ≤ id) (hf : ¬ dst (bs nx ps) nx < wd) :
    Calls Try.prog 34 #[.pointer (some ⟨s, 0, none⟩), .int .i64 id] w fun e w' => e = .returned (.tuple #[.int .i64 0, .int .i64 4]) ∧ ∃ m, w' = w.drewN m := by
  have HO := Lib.hid (ropen_c h)
  rw [decide_eq_false hf] at HO
  clear h hf
  go_enter Try.func34, Try.ntmps34
  go_wp2_with fail
  refine HO.out.mono ?_
  rintro e w' ⟨rfl, m, rfl⟩
  go_wp2_with fail
  go_ret2
  exact ⟨rfl, _, rfl⟩

set_option maxRecDepth 100000 in
set_option maxHeartbeats 2000000 in
theorem rassign_room {w : World} {B s : Nat} {O : List Nat} {wd tr nx : Int} {ps : List Sn} (h : RA w B s O wd tr nx ps) (hB : B ≤ w.heap.size) (hl : ps.length < 1000) (id : Int) (hid : 1 ≤ id) (hf : dst (bs nx ps) nx < wd) :
    Calls Try.prog 34 #[.pointer (some ⟨s, 0, none⟩), .int .i64 id] w fun e w' => e = .returned (.tuple #[.int .i64 nx, .int .i64 0]) ∧ ∃ O', RA w' B s O' wd tr ((nx + 1 + 65536) % 65536) (ps ++ [⟨nx, id, 0⟩]) ∧ (∀ j ∈ O', w.heap.size ≤ j) ∧ Chg [s] w w' := by
  have HO := Lib.hid (ropen_c h)
  rw [decide_eq_true hf] at HO
  clear hf
  obtain ⟨A, c, h9, h10, h11⟩ := h.row
  have hn := h.hn
  have HH := Lib.hid h
  have e2 := (h9.cell 2).trans rfl
  have e3 := (h9.cell 3).trans rfl
  have f2 := h9.frozen 2
  have f3 := h9.frozen 3
  have hsl := h9.lt
  have hr := Reads.of_own h10
  have hone := snCells.flat_one ps
  have hone1 : ∀ u ∈ ([.int .i64 nx, .int .i64 id, .int .i64 0] : List Value), u.oneCell' = true := by intro u hu; simp at hu; rcases hu with rfl | rfl | rfl <;> rfl
  have hw1 : IntKind.i64.wrap (nx + 1) = nx + 1 := by rw [IntKind.wrap_i64]; omega
  clear h h10 h11
  go_enter Try.func34, Try.ntmps34
  go_wp2_with fail
  refine HO.out.mono ?_
  rintro e w' ⟨rfl, m, rfl⟩
  go_wp2_with (first
    | (at_builtin; have hO := hown1; refine list_app (P := Try.prog) (t := 33) Try.underlying33 sn_info rfl (by omega) (.tmp 22) (.tmp 26) w.heap.size (n := ps.length) (m := 1) (N := ps.length + 1) rfl (by omega) hone1 (by omega) (hO.alloc _) (reads_lit W1 39 #[.int .i64 nx, .int .i64 id, .int .i64 0] 3 rfl) (by have := q1.size; simp; omega) (by rfl) (by rfl) (by rfl) (by rfl) ?_; clear hO; intro A2 d2 W2 hown2 hgrow2 hat2; have q2 := (q1.alloc (.cells #[.int .i64 nx, .int .i64 id, .int .i64 0] 39)).grown hgrow2 hv1; have g2 := (q2.cell (p := ⟨s, 2, none⟩) hsl (by simp)).trans e2; have g3 := (q2.cell (p := ⟨s, 3, none⟩) hsl (by simp)).trans e3; have k2 := (q2.frozen (p := ⟨s, 2, none⟩) hsl (by simp)).trans f2; have k3 := (q2.frozen (p := ⟨s, 3, none⟩) hsl (by simp)).trans f3; have hs2 := q2.size)
    | (at_builtin; refine list_app (P := Try.prog) (t := 33) Try.underlying33 sn_info rfl (by omega) (.tmp 17) (.tmp 21) w.heap.size (n := 0) (m := ps.length) (N := ps.length) (Nat.zero_add _) (by omega) hone (by omega) (own_drewN (own_empty w 39 3 w.heap.size (Nat.le_refl _)) _) ((hr.alloc (Nat.le_refl _) _).drewN _) (by simp) (by rfl) (by rfl) (by rfl) (by rfl) ?_; intro A1 d1 W1 hown1 hgrow1 hat1; have q1 := (((Chg.refl [] w).alloc (.cells #[] 39)).drewN _).grown hgrow1 (by simp [Value.ownBlock]); have hv1 := own_new (S := []) hat1; have e4 := (q1.cell (p := ⟨s, 3, none⟩) hsl (by simp)).trans e3))
  go_ret2
  have hh := HH.out
  have hx : ([] ++ ps.flatMap snC) ++ [.int .i64 nx, .int .i64 id, .int .i64 0] = (ps ++ [(⟨nx, id, 0⟩ : Sn)]).flatMap snC := by simp [snC]
  rw [hx] at hown2
  obtain ⟨r1, r2, r3⟩ := hh.put hB q2 hown2 (by simp; omega) (fun p hp => by
    rcases List.mem_append.1 hp with hp | hp
    · exact hh.ok p hp
    · simp at hp
      subst hp
      exact ⟨hn.1, hn.2, by simp, by simp⟩)
  rw [show (nx + 1 + 65536) % 65536 = (nx + 1) % 65536 from by omega]
  exact ⟨rfl, _, (r1.setnx (by omega)), r2, r3.setCell (by simp) _⟩

end Go.Proofs.Ytgkhendbpehagaa
