/- The walk of the statement QueueValid. -/
import Derived.Test.YtdlehpohpdepkaaQuC
import Derived.Test.YtdlehpohpdepkaaSome
import Derived.Deep.RegionHeld3
namespace Go.Proofs.Ytdlehpohpdepkaa
open Go.RowKit
set_option linter.unusedVariables false
set_option linter.unusedSimpArgs false

set_option maxRecDepth 100000 in
set_option maxHeartbeats 4000000 in
theorem queueValid_walk {w : World} {a0 : Option Addr} {len cap : Nat} {zs : List Int} (i f l a d : Int) (hz : zs.length = len) (hl : len ≤ 9223372036854775807) (hi : Inp w w.heap.size a0 zs) :
    Calls Try.prog 3 #[.slice a0 len cap, .agg #[.int .i64 i, .int .i64 f, .int .i64 l, .int .i64 a, .int .i64 d]] w fun e w' => e = .returned (.bool true) ∧ Below w.heap.size w w' := by
  have hgn : ∀ W : World, Inp W W.heap.size a0 zs → Calls Try.prog 7 #[.slice a0 len cap] W fun e w' => ∃ c, e = .returned (.pointer (some ⟨c, 0, none⟩)) ∧ Cho w' W.heap.size c zs 0 ∧ Chg [] W w' := fun W hW => gnew_c (cap := cap) hz hl hW
  have hi1 : Inp (w.alloc (.cells #[.int .i64 i, .int .i64 f, .int .i64 l, .int .i64 a, .int .i64 d] 24)) (w.alloc (.cells #[.int .i64 i, .int .i64 f, .int .i64 l, .int .i64 a, .int .i64 d] 24)).heap.size a0 zs := fun k hk => by
    obtain ⟨ab, ao, r1, r2, r3, r4⟩ := hi k hk
    exact ⟨ab, ao, r1, by simp; omega, by rw [World.cell?_alloc_past _ _ _ r2]; exact r3, r4⟩
  have HG := Lib.hid (hgn _ hi1)
  clear hz hi hgn hi1
  go_enter Try.func3, Try.ntmps3
  go_wp2_with fail
  refine HG.out.mono ?_
  rintro e w1 ⟨c, rfl, hC1, hc1⟩
  clear HG
  have hp1 := (Blk.new w 24 #[.int .i64 i, .int .i64 f, .int .i64 l, .int .i64 a, .int .i64 d]).chg hc1 (by simp)
  have k1 : Chg [] w w1 := ((Chg.refl [] w).alloc _).trans hc1 (by simp)
  have hcl := hC1.le
  simp only [World.size_alloc] at hcl hC1
  go_wp2_with fail
  go_loopw [6] (fun vi wr => ∃ (j k : Nat), j ≤ 20 ∧ k ≤ 8 * j ∧ vi = .int .i64 j ∧ Cho wr (w.heap.size + 1) c zs k ∧ Blk wr w.heap.size 24 #[.int .i64 i, .int .i64 f, .int .i64 l, .int .i64 a, .int .i64 d] ∧ Chg [] w wr) (fun vi _ => 20 - (intOf vi).toNat)
  case atStart => exact ⟨0, 0, by omega, by omega, rfl, hC1, hp1, k1⟩
  case round =>
    obtain ⟨j, k, hj, hk, rfl, hC, hp, hch⟩ := hrel
    clear hC1 hp1 k1
    by_cases hj20 : j < 20
    · have hj' : (j : Int) < 20 := by omega
      go_wp2_with fail
      refine (some_c hC (by omega)).mono ?_
      rintro e wa ⟨xi, xf, xl, xa, xd, k', rfl, _, _, _, _, _, _, _, _, _, hCa, hk', hca⟩
      have hpa := hp.chg hca (by simp; omega)
      have ka := hch.trans hca (by simp; omega)
      go_wp2_with fail
      have hxa := Blk.new wa 24 #[.int .i64 xi, .int .i64 xf, .int .i64 xl, .int .i64 xa, .int .i64 xd]
      go_region_held3 (fun w' => w'.cell? ⟨wa.heap.size, 0, none⟩ = some (.int .i64 xi) ∧ w'.cell? ⟨wa.heap.size, 1, none⟩ = some (.int .i64 xf) ∧ w'.cell? ⟨wa.heap.size, 2, none⟩ = some (.int .i64 xl) ∧ w'.cell? ⟨wa.heap.size, 3, none⟩ = some (.int .i64 xa) ∧ w'.cell? ⟨wa.heap.size, 4, none⟩ = some (.int .i64 xd)) (first | exact hS2 | exact hS1 | exact pk5 hxa.drew | go_keep) (first | (go_at_call 9; have hZ := hcb; clear hZ; refine (valid_raw _ _ _ _ _ _).mono ?_; rintro e wc ⟨rfl, hcc⟩; have hS2 := pk5 ((hxa.drew.chg hcb (by simp)).chg hcc (by simp))) | (go_at_call 10; have hZ := hcb; clear hZ; refine (rvalid_raw _ _ _ _ _ _).mono ?_; rintro e wc ⟨rfl, hcc⟩; have hS2 := pk5 ((hxa.drew.chg hcb (by simp)).chg hcc (by simp))) | (go_at_call 9; refine (valid_raw _ _ _ _ _ _).mono ?_; rintro e wb ⟨rfl, hcb⟩; have hS1 := pk5 (hxa.drew.chg hcb (by simp))) | (go_at_call 10; refine (rvalid_raw _ _ _ _ _ _).mono ?_; rintro e wb ⟨rfl, hcb⟩; have hS1 := pk5 (hxa.drew.chg hcb (by simp))))
      all_goals
        have hcE := (((Chg.refl [] wa).alloc (.cells #[.int .i64 xi, .int .i64 xf, .int .i64 xl, .int .i64 xa, .int .i64 xd] 24)).drew.trans hcb (by simp)).trans hcc (by simp)
        go_wp2_with fail
        go_roundw
        case rel => exact ⟨j + 1, k', by omega, by omega, by go_num, hCa.chg hcE (by simp) (by simp), hpa.chg hcE (by simp), ka.trans hcE (by simp)⟩
        case measure => simp [intOf]; omega
    · have hge : (20 : Int) ≤ (j : Int) := by omega
      go_wp2_with fail
      go_region_held3 (fun w' => w'.cell? ⟨w.heap.size, 0, none⟩ = some (.int .i64 i) ∧ w'.cell? ⟨w.heap.size, 1, none⟩ = some (.int .i64 f) ∧ w'.cell? ⟨w.heap.size, 2, none⟩ = some (.int .i64 l) ∧ w'.cell? ⟨w.heap.size, 3, none⟩ = some (.int .i64 a) ∧ w'.cell? ⟨w.heap.size, 4, none⟩ = some (.int .i64 d)) (first | exact hS2 | exact hS1 | exact pk5 hp.drew | go_keep) (first | (go_at_call 9; have hZ := hcb; clear hZ; refine (valid_raw _ _ _ _ _ _).mono ?_; rintro e wc ⟨rfl, hcc⟩; have hS2 := pk5 ((hp.drew.chg hcb (by simp)).chg hcc (by simp))) | (go_at_call 10; have hZ := hcb; clear hZ; refine (rvalid_raw _ _ _ _ _ _).mono ?_; rintro e wc ⟨rfl, hcc⟩; have hS2 := pk5 ((hp.drew.chg hcb (by simp)).chg hcc (by simp))) | (go_at_call 9; refine (valid_raw _ _ _ _ _ _).mono ?_; rintro e wb ⟨rfl, hcb⟩; have hS1 := pk5 (hp.drew.chg hcb (by simp))) | (go_at_call 10; refine (rvalid_raw _ _ _ _ _ _).mono ?_; rintro e wb ⟨rfl, hcb⟩; have hS1 := pk5 (hp.drew.chg hcb (by simp))) | (go_at_call 11; refine (qawake_c _).mono ?_; rintro e wd ⟨rfl, hcd⟩; have hS2 := pk5 (((hp.drew.chg hcb (by simp)).chg hcc (by simp)).chg hcd (by simp))))
      all_goals
        go_wp2_with fail
        go_ret
        exact ⟨rfl, (((hch.drew.trans hcb (by simp)).trans hcc (by simp)).trans hcd (by simp)).below (Nat.le_refl _) (by simp)⟩

end Go.Proofs.Ytdlehpohpdepkaa
