/- The sender: Exhausted; the sanity check (awake). -/
import Derived.Test.YtgkhendbpehagaaSnX
import Derived.Test.YtgkhendbpehagaaEq
namespace Go.Proofs.Ytgkhendbpehagaa
open Go.RowKit
set_option linter.unusedVariables false
set_option linter.unusedSimpArgs false

def exh (tr : Int) (ps : List Sn) : List Sn := ps.filter fun p => !decide (p.t < tr)

set_option maxHeartbeats 400000 in
theorem exhfn_c (q i t : Int) (b s : Nat) (tr : Int) (w : World) (h : w.cell? ⟨b, 0, none⟩ = some (.pointer (some ⟨s, 0, none⟩))) (h1 : w.cell? ⟨s, 1, none⟩ = some (.int .i64 tr)) :
    Calls Try.prog 40 #[.agg #[.int .i64 q, .int .i64 i, .int .i64 t], .pointer (some ⟨b, 0, none⟩)] w fun e w' => e = .returned (.bool (decide (t < tr))) ∧ Chg [] w w' := by
  have hb : b < w.heap.size := cell_lt h
  have hs : s < w.heap.size := cell_lt h1
  go_enter Try.func40, Try.ntmps40
  go_wp2_with fail
  go_quiet (fail)
  go_wp2_with fail
  go_ret
  exact ⟨rfl, ((Chg.refl [] w).alloc _).drewN _⟩

set_option maxHeartbeats 1000000 in
theorem sexh_c {w : World} {B s : Nat} {O : List Nat} {wd tr nx : Int} {ps : List Sn} (h : SA w B s O wd tr nx ps) :
    Calls Try.prog 22 #[.pointer (some ⟨s, 0, none⟩)] w fun e w' => ∃ A' c', e = .returned (.slice A' (exh tr ps).length c') ∧ w'.ownsRow w.heap.size 39 3 (.slice A' (exh tr ps).length c') (exh tr ps).length ((exh tr ps).flatMap snC) ∧ Chg [] w w' := by
  have hmf : ∀ (fn : Fn) (first cap : Array Value) (w : World), (Instr.makeFunc fn first cap).run Try.prog w = .ok (.func fn first cap) w := fun _ _ _ _ => rfl
  obtain ⟨A, c, h9, _⟩ := h.split
  have hsl := h.lt
  have hl := h.hl
  have e1 := (h9.cell 1).trans rfl
  have HH := Lib.hid (fun W (hW : Chg [] w W) => spend_c (h.chg hW (by simp) (by simp)))
  have k0 : Chg [] w (w.alloc (.cells #[.pointer (some ⟨s, 0, none⟩)] 26)) := (Chg.refl _ _).alloc _
  have x0 : (w.alloc (.cells #[.pointer (some ⟨s, 0, none⟩)] 26)).cell? ⟨w.heap.size, 0, none⟩ = some (.pointer (some ⟨s, 0, none⟩)) := ((Blk.new w 26 #[.pointer (some ⟨s, 0, none⟩)]).cell 0).trans rfl
  have X0 := Lib.hid x0
  clear h h9 x0
  go_enter Try.func22, Try.ntmps22
  go_wp2_with fail
  refine (HH.out _ k0).mono ?_
  rintro e w2 ⟨A2, c2, rfl, ho2, hc2⟩
  have k2 := k0.trans hc2 (by simp)
  obtain ⟨_, ⟨rfl, rfl, hnil⟩ | ⟨g, rfl, hg, hr⟩⟩ := own_row snCells (by omega) ho2
  · subst hnil
    go_wp2_with fail
    refine (delf_nil _ none 0 _).mono ?_
    rintro e w3 ⟨rfl, hc3⟩
    go_wp2_with fail
    go_ret
    exact ⟨none, 0, rfl, by simpa [exh] using World.ownsRow_nil _ _ _ _, k2.trans hc3 (by simp)⟩
  · have hgw : w.heap.size + 1 ≤ g := by simpa using hg
    have HC := Lib.hid (fun W (hW : Chg [g] w2 W) (p : Sn) => exhfn_c p.q p.i p.t w.heap.size s tr W
      ((hW.cell (p := ⟨w.heap.size, 0, none⟩) (by have := hc2.size; simp at this; show w.heap.size < _; omega) (by simp; omega)).trans ((hc2.cell (p := ⟨w.heap.size, 0, none⟩) (by simp) (by simp)).trans X0.out))
      ((hW.cell (p := ⟨s, 1, none⟩) (by have := k2.size; show s < _; omega) (by simp; omega)).trans ((k2.cell (p := ⟨s, 1, none⟩) hsl (by simp)).trans e1)))
    go_wp2_with fail
    refine (delf_row (f := fun p => decide (p.t < tr)) rfl hl hr HC.out).mono ?_
    rintro e w3 ⟨rfl, hr3, hc3⟩
    have HR := Lib.hid hr3
    clear hr3
    go_wp2_with fail
    go_ret
    exact ⟨some ⟨g, 0, none⟩, c2, rfl, HR.out.own snCells (by omega), k2.trans hc3 (by simp; omega)⟩

theorem rd_of_own {w : World} {B n c : Nat} {A : Option Addr} {L : List Int} (h : w.ownsRow B 3 1 (.slice A n c) n (L.map (Value.int .i64))) (hl : L.length ≤ 9223372036854775807) : L.length = n ∧ ∃ g, Rd w g A L := by
  have hn : L.length = n := by have := h.1; simpa using this
  refine ⟨hn, ?_⟩
  subst hn
  rcases Nat.eq_zero_or_pos L.length with h0 | h0
  · have := List.eq_nil_of_length_eq_zero h0
    subst this
    exact ⟨0, Rd.nil _ _ _⟩
  · obtain ⟨g, cap, hv, _, hlt⟩ := h.form h0
    injection hv with hA
    subst hA
    refine ⟨g, hl, fun i hi => ⟨0, rfl, ?_⟩⟩
    have := h.cells (g := g) rfl i (.int .i64 (L.getD i 0)) (by simp [hi])
    have h2 : (⟨g, 0, none⟩ : Addr).add i = ⟨g, 0 + i, none⟩ := by
      unfold Addr.add
      split
      · subst_vars; rfl
      · rfl
    rw [h2] at this
    exact this

set_option maxRecDepth 100000 in
set_option maxHeartbeats 2000000 in
theorem sawake_c (w : World) : Calls Try.prog 13 #[] w fun e w' => e = .returned (.bool true) ∧ Chg [] w w' := by
  go_enter Try.func13, Try.ntmps13
  go_wp2_with fail
  refine (snew_c 2 3 (by omega) (by omega) (by omega) (by omega) w (Nat.le_refl _)).mono ?_
  rintro e w1 ⟨s, rfl, h1, hs1, hc1⟩
  have hc1z := hc1.size
  have hz1 := hc1.size
  go_wp2_with fail
  refine (sassign_room h1 (by omega) (by simp) 7 (by omega) (by decide)).mono ?_
  rintro e w2 ⟨rfl, O2, h2, hO2, hc2⟩
  have hz2 := hc2.size
  simp only [List.not_mem_nil, false_or] at hO2
  have k2 : Chg [] w w2 := hc1.trans hc2 (by simp; omega)
  rw [show (0 + 1 + 65536 : Int) % 65536 = 1 from by decide] at h2
  rw [show ([] : List Sn) ++ [⟨0, 7, 0⟩] = [⟨0, 7, 0⟩] from rfl] at h2
  go_wp2_with fail
  refine (sassign_room h2 (by omega) (by simp) 8 (by omega) (by decide)).mono ?_
  rintro e w3 ⟨rfl, O3, h3, hO3, hc3⟩
  have hz3 := hc3.size
  have k3 : Chg [] w w3 := k2.trans hc3 (by simp; exact ⟨by omega, fun j hj => by have := hO2 _ hj; omega⟩)
  rw [show (1 + 1 + 65536 : Int) % 65536 = 2 from by decide] at h3
  rw [show [(⟨0, 7, 0⟩ : Sn)] ++ [⟨1, 8, 0⟩] = [⟨0, 7, 0⟩, ⟨1, 8, 0⟩] from rfl] at h3
  go_wp2_with fail
  refine (sassign_full h3 9 (by omega) (by decide)).mono ?_
  rintro e w4 ⟨rfl, m4, rfl⟩
  have h3lt := h3.lt
  have h4 := h3.drewN m4
  have k4 := k3.drewN m4
  have p1 : ackB 1 0 ⟨0, 7, 0⟩ = true := by decide
  have p2 : ackB 1 0 ⟨1, 8, 0⟩ = false := by decide
  have e1 : acked 1 0 [⟨0, 7, 0⟩, ⟨1, 8, 0⟩] = [⟨0, 7, 0⟩] := by simp [acked, p1, p2]
  have e2 : kept 1 0 [⟨0, 7, 0⟩, ⟨1, 8, 0⟩] = [⟨1, 8, 0⟩] := by simp [kept, p1, p2]
  go_wp2_with fail
  refine (sack_c h4 1 0 ⟨by omega, by decide, by decide⟩ (by omega) (by omega)).mono ?_
  rintro e w5 ⟨A5, c5, O5, rfl, ho5, h5, hO5, hA5, hc5⟩
  rw [e1] at ho5 hA5
  rw [e2] at h5
  rw [e1]
  have hz5 := hc5.size
  have k5 : Chg [] w w5 := k4.trans hc5 (by simp; exact ⟨by omega, fun j hj => by rcases hO3 _ hj with h | h <;> first | omega | (have := hO2 _ h; omega)⟩)
  clear h1 h2 h3 h4 hc1 hc2 hc3 k2 k3 k4 e1 e2 hO2 hO3 p1 p2
  go_wp2_with fail
  refine (sassign_room h5 (by have := h5.lt; omega) (by simp) 9 (by omega) (by decide)).mono ?_
  rintro e w6 ⟨rfl, O6, h6, hO6, hc6⟩
  have hsz : w.heap.size ≤ s := hs1
  have k6 : Chg [] w w6 := k5.trans hc6 (by simp; exact ⟨by omega, fun j hj => by have := hO5 _ hj; simp at this; omega⟩)
  have hol5 := ownL_lt ho5
  have ho6 := own_chg (own_chg ho5 hc6 (fun g hg => by simp; exact ⟨fun e => by subst e; have := (hol5 _ (mem_ownL.2 hg)).1; have := h3lt; simp at *; omega, hA5 _ (mem_ownL.2 hg)⟩)) ((Chg.refl [] w6).alloc (.cells #[.int .i64 7] 3)) (by simp)
  obtain ⟨_, g7, hr7⟩ := rd_of_own (L := [7]) (by simpa using ho6) (by simp)
  have hr8 := Rd.of_blk (L := [7]) (by simpa using Blk.new w6 3 #[.int .i64 7]) (by simp)
  go_wp2_with fail
  refine (equal_c (L := [7]) (M := [7]) rfl rfl hr7 hr8).mono ?_
  rintro e w7 ⟨rfl, m7, rfl⟩
  go_wp2_with fail
  go_ret
  exact ⟨rfl, ((k6.alloc _).drewN m7)⟩

end Go.Proofs.Ytgkhendbpehagaa
