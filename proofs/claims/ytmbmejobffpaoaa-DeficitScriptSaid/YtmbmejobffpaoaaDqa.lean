/- The reference's round: Join where it is taken. -/
import Derived.Test.YtmbmejobffpaoaaDq
namespace Go.Proofs.Ytmbmejobffpaoaa
open Go.RowKit
set_option linter.unusedVariables false
set_option linter.unusedSimpArgs false

set_option maxRecDepth 100000 in
set_option maxHeartbeats 4000000 in
theorem rrjoin_c {w : World} {B s : Nat} {O : List Nat} {q now x wt : Int} {L : List Sd} (h : DR w B s O q L now) (hB : B ≤ w.heap.size) (hl : L.length ≤ 1000) (hx : 0 ≤ x ∧ x < 16) (hw : 1 ≤ wt ∧ wt ≤ 16) (hq : 256 ≤ q ∧ q ≤ 1048576) (hs : sid x L = none) :
    Calls Try.prog 29 #[.pointer (some ⟨s, 0, none⟩), .int .i64 x, .int .i64 wt] w fun e w' => e = .returned (.int .i64 0) ∧ ∃ O', DR w' B s O' q (L ++ [⟨x, wt, q * wt, 0⟩]) (-1) ∧ (∀ j ∈ O', w.heap.size ≤ j) ∧ Chg [s] w w' := by
  have HF := Lib.hid (rrat_c h hl x)
  rw [sidI_none hs] at HF
  have hb := qw_bd hq hw
  obtain ⟨hx0, hx1⟩ := hx
  obtain ⟨hw0, hw1⟩ := hw
  have HH := Lib.hid h
  have hsl := h.lt
  have hone := sdCells.flat_one L
  have hone1 := sd_one ⟨x, wt, q * wt, 0⟩
  clear h hs
  have hmul : IntKind.i64.wrap (q * wt) = q * wt := by rw [IntKind.wrap_i64]; omega
  go_enter Try.func29, Try.ntmps29
  go_wp2_with fail
  refine HF.out.mono ?_
  rintro e w1 ⟨rfl, hc1⟩
  have h1 := HH.out.chg hc1 (by simp) (by simp)
  obtain ⟨A, c, h9, h10, h11⟩ := h1.row
  have e0 := (h9.cell 0).trans rfl
  have e1 := (h9.cell 1).trans rfl
  have HR := Lib.hid (fun (W : World) (hW : Chg [] w1 W) => reads_chg (Reads.of_own h10) hW (Nat.le_refl _))
  have H9 := Lib.hid (fun (W : World) (hW : Chg [] w1 W) => h9.chg hW (by simp))
  have hz := hc1.size
  have hs1 : s < w1.heap.size := by omega
  have hs2 : s < w1.heap.size + 1 := by omega
  have H1 := Lib.hid h1
  have HC := Lib.hid hc1
  clear h1 hc1 h9 h10 h11
  go_wp2_with fail
  go_region_law (first
    | (have hZ := hown1; clear hZ; go_must (refine step_app2 (P := Try.prog) (t := 61) Try.underlying61 seat_info rfl (by omega) (.tmp 31) (.tmp 41) w1.heap.size (n := L.length) (m := 1) (N := L.length + 1) rfl (by omega) hone1 (by omega) (by rfl) (by rfl) (by rfl) (by rfl) (own_chg (S := []) hown1 (by repeat (first | exact Chg.refl _ _ | apply Chg.drew | apply Chg.drewN | apply Chg.alloc)) (by simp)) (by first | exact reads_lit _ _ #[.int .i64 x, .int .i64 wt, .int .i64 (q * wt), .int .i64 0] 4 rfl | exact reads_blk (hB1 _ #[.int .i64 x, .int .i64 wt, .int .i64 (q * wt), .int .i64 0] (by repeat (first | (refine Blk.new2 (by first | rfl | simp)) | apply Blk.drew | apply Blk.drewN | apply Blk.alloc)) (by simp [ownL, Value.ownBlock])) rfl) (by have := q1.size; simp; omega) ?_); intro A2 d2 W2 hown2 hgrow2 hat2; have q2 : Chg [] w1 W2 := Chg.grown (by repeat (first | exact q1 | apply Chg.drew | apply Chg.drewN | apply Chg.alloc)) hgrow2 (fun j hj => .inr (hown1.lt j hj).1); have g1 := ((H9.out _ q2).cell 1).trans rfl; have g2 := (H9.out _ q2).frozen 1; have g3 := ((H9.out _ q2).cell 2).trans rfl; have g4 := (H9.out _ q2).frozen 2; have g5 := (H9.out _ q2).lt)
    | (refine step_app2 (P := Try.prog) (t := 61) Try.underlying61 seat_info rfl (by omega) (.tmp 26) (.tmp 30) w1.heap.size (v := .slice (some ⟨_, 0, none⟩) 0 0) (n := 0) (xs := []) (m := L.length) (N := L.length) (Nat.zero_add _) (by omega) hone (by omega) (by rfl) (by rfl) (by rfl) (by rfl) (own_mt (by repeat (first | (refine Blk.new2 (by first | rfl | simp)) | apply Blk.drew | apply Blk.drewN | apply Blk.alloc)) (by omega)) (HR.out _ (by repeat (first | exact Chg.refl _ _ | apply Chg.drew | apply Chg.drewN | apply Chg.alloc))) (by simp; try omega) ?_; intro A1 d1 W1 hown1 hgrow1 hat1; have q1 : Chg [] w1 W1 := Chg.grown (by repeat (first | exact Chg.refl _ _ | apply Chg.drew | apply Chg.drewN | apply Chg.alloc)) hgrow1 (by intro k hk; simp [Value.ownBlock] at hk; omega); have hB1 := (fun (g : Nat) (cs : Array Value) (hb : Blk _ g 66 cs) (hne : g ∉ ownL _) => hb.chg ((Chg.refl (ownL _) _).grown hgrow1 (fun j hj => .inl (mem_ownL.2 hj))) hne); have g6 := ((H9.out _ q1).cell 0).trans rfl))
  all_goals
    go_wp2_with fail
    go_ret
    rw [DR.lit1 (n := ⟨x, wt, q * wt, 0⟩)] at hown2
    obtain ⟨r1, r2, r3⟩ := H1.out.put (by omega) q2 hown2
    exact ⟨rfl, _, r1.setnow, fun j hj => by have := r2 j hj; omega, ((HC.out.mono (S' := [s]) (by simp)).trans r3 (by simp)).setCell (by simp) _⟩

end Go.Proofs.Ytmbmejobffpaoaa
