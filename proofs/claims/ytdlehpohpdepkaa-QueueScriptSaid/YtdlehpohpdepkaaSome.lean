/- The contract of 'some': a drawn packet. -/
import Derived.Test.YtdlehpohpdepkaaPk
namespace Go.Proofs.Ytdlehpohpdepkaa
open Go.RowKit
set_option linter.unusedVariables false
set_option linter.unusedSimpArgs false

def SomePost (B c : Nat) (zs : List Int) (k : Nat) (id : Int) (w : World) (e : Ending) (w' : World) : Prop :=
  ∃ (i f l a d : Int) (k' : Nat), e = .returned (.agg #[.int .i64 i, .int .i64 f, .int .i64 l, .int .i64 a, .int .i64 d]) ∧ (i = id ∨ i ≤ 0 ∧ -1 ≤ i) ∧ -1 ≤ f ∧ f ≤ 32 ∧ 0 ≤ l ∧ l ≤ 4097 ∧ -1 ≤ a ∧ a ≤ 16385 ∧ -2 ≤ d ∧ d ≤ 81920 ∧
    Cho w' B c zs k' ∧ k' ≤ k + 8 ∧ Chg [c] w w'

theorem pk_cells {w : World} {b : Nat} {t : TypeId} {v0 v1 v2 v3 v4 : Value} (h : Blk w b t #[v0, v1, v2, v3, v4]) :
    w.cell? ⟨b, 0, none⟩ = some v0 ∧ w.cell? ⟨b, 1, none⟩ = some v1 ∧ w.cell? ⟨b, 2, none⟩ = some v2 ∧ w.cell? ⟨b, 3, none⟩ = some v3 ∧ w.cell? ⟨b, 4, none⟩ = some v4 :=
  ⟨(h.cell 0).trans rfl, (h.cell 1).trans rfl, (h.cell 2).trans rfl, (h.cell 3).trans rfl, (h.cell 4).trans rfl⟩
theorem pk_free {w : World} {b : Nat} {t : TypeId} {cs : Array Value} (h : Blk w b t cs) :
    w.frozen? ⟨b, 0, none⟩ = false ∧ w.frozen? ⟨b, 1, none⟩ = false ∧ w.frozen? ⟨b, 2, none⟩ = false ∧ w.frozen? ⟨b, 3, none⟩ = false ∧ w.frozen? ⟨b, 4, none⟩ = false :=
  ⟨h.frozen 0, h.frozen 1, h.frozen 2, h.frozen 3, h.frozen 4⟩

theorem cell_behind_alloc {w w' : World} {c j : Nat} {v : Value} {arr : Array Value} {t : TypeId} (hc : Chg [c] (w.alloc (.cells arr t)).drew w') (hlt : c < w.heap.size) (hv : arr[j]? = some v) : w'.cell? ⟨w.heap.size, j, none⟩ = some v :=
  chg1_cell hc (by omega) (((Blk.new w t arr).drew.cell j).trans hv)

set_option maxRecDepth 100000 in
set_option maxHeartbeats 6000000 in
theorem some_c {w : World} {B c : Nat} {zs : List Int} {k : Nat} {id : Int} (h : Cho w B c zs k) (hk : k ≤ 800000) :
    Calls Try.prog 8 #[.pointer (some ⟨c, 0, none⟩), .int .i64 id] w (SomePost B c zs k id w) := by
  have hlt := h.lt
  have hle := h.le
  go_enter Try.func8, Try.ntmps8
  go_wp2_with fail
  refine (next_c (h.chg ((Chg.refl [] w).alloc _) (by simp) (by simp)) (by omega) (by omega)).mono ?_
  rintro e w1 ⟨rfl, hC1, hc1⟩
  have n1 := nx_nonneg zs k 4
  have n2 := nx_lt zs k 4 (by omega)
  generalize nx zs k 4 = fl at n1 n2 ⊢
  go_wp2_with fail
  refine (length_c hC1 (by omega)).mono ?_
  rintro e w2 ⟨ln, rfl, n3, n4, hC2, hc2⟩
  go_wp2_with fail
  refine (next_c hC2 (by omega) (by omega)).mono ?_
  rintro e w3 ⟨rfl, hC3, hc3⟩
  have n5 := nx_nonneg zs (k + 1 + 1) 5
  have n6 := nx_lt zs (k + 1 + 1) 5 (by omega)
  generalize nx zs (k + 1 + 1) 5 = ar at n5 n6 ⊢
  have k3 : Chg [c] w w3 := ((((Chg.refl [c] w).alloc _).trans hc1 (by simp)).trans hc2 (by simp)).trans hc3 (by simp)
  have hr3 := ((Blk.new w 24 #[.int .i64 0, .int .i64 0, .int .i64 0, .int .i64 0, .int .i64 0]).chg hc1 (by simp; omega)).chg hc2 (by simp; omega) |>.chg hc3 (by simp; omega)
  clear hC1 hC2 hc1 hc2 hc3 h
  have hz3 := k3.size
  go_wp2_with fail
  have hb0 := Blk.new w3 24 #[.int .i64 id, .int .i64 fl, .int .i64 ln, .int .i64 ar, .int .i64 (-1)]
  have kA : Chg [c] w (w3.alloc (.cells #[.int .i64 id, .int .i64 fl, .int .i64 ln, .int .i64 ar, .int .i64 (-1)] 24)) := k3.alloc _
  have hrA := hr3.alloc (.cells #[.int .i64 id, .int .i64 fl, .int .i64 ln, .int .i64 ar, .int .i64 (-1)] 24)
  have hbne : w3.heap.size ≠ c := by omega
  have hrne : w.heap.size ≠ c := by omega
  have hrb : w.heap.size ≠ w3.heap.size := by have := hr3.lt; omega
  have hBb : B ≤ w3.heap.size := by omega
  have hwb : w.heap.size ≤ w3.heap.size := by omega
  obtain ⟨b, hbe⟩ : ∃ b, b = w3.heap.size := ⟨_, rfl⟩
  have hC3' := hC3.chg ((Chg.refl [] w3).alloc (.cells #[.int .i64 id, .int .i64 fl, .int .i64 ln, .int .i64 ar, .int .i64 (-1)] 24)) (by simp) (by simp)
  refine (next_c hC3' (by omega) (by omega)).mono ?_
  rintro e w4 ⟨rfl, hC4, hc4⟩
  rw [← hbe] at hb0 hbne hrb hBb hwb ⊢
  clear hbe
  have k4 := kA.trans hc4 (by simp)
  have hb4 := hb0.chg hc4 (by simpa using hbne)
  have hr4 := hrA.chg hc4 (by simpa using hrne)
  clear k3 hr3 hz3 hb0 kA hrA hC3 hC3' hc4
  generalize hdd : (-1 : Int) = dd at hb4
  have hdd1 : -2 ≤ dd ∧ dd ≤ 81920 := by omega
  have HDD := Lib.hid hdd
  clear hdd
  have e3 : w4.cell? ⟨b, 3, none⟩ = some (.int .i64 ar) := (hb4.cell 3).trans rfl
  have hx1 := nx_nonneg zs (k + 1 + 1 + 1 + 1) 6
  have hx2 := nx_lt zs (k + 1 + 1 + 1 + 1) 6 (by omega)
  by_cases h0 : nx zs (k + 1 + 1 + 1) 2 = 0
  · have hd : (nx zs (k + 1 + 1 + 1) 2 == 0) = true := beq_iff_eq.2 h0
    clear h0
    have hwr : IntKind.i64.wrap (ar + nx zs (k + 1 + 1 + 1 + 1) 6) = ar + nx zs (k + 1 + 1 + 1 + 1) 6 := IntWalk.i64_in _ (by omega)
    go_wp2_with fail
    go_region_held3 (fun w' => w'.cell? ⟨b, 3, none⟩ = some (.int .i64 ar)) (first | assumption | go_keep | (simp [go_sem, e5])) (first
      | (go_at_call 13; refine (next_c (hC4.chg (Chg.refl [] w4).drew (by simp) (by simp)) (by omega) (by omega)).mono ?_; rintro e w5 ⟨rfl, hC5, hc5⟩; have hb5 := hb4.drew.chg hc5 (by simpa using hbne); have hr5 := hr4.drew.chg hc5 (by simpa using hrne); have k5 := k4.drew.trans hc5 (by simp); have e5 : w5.cell? ⟨b, 3, none⟩ = some (.int .i64 ar) := (hb5.cell 3).trans rfl; have e4 : w5.cell? ⟨b, 4, none⟩ = some (.int .i64 dd) := (hb5.cell 4).trans rfl; have g4 := hb5.frozen 4))
    have hbW := hb5.set_ 4 (.int .i64 (ar + nx zs (k + 1 + 1 + 1 + 1) 6))
    have hrW := hr5.far (p := ⟨b, 4, none⟩) hrb (.int .i64 (ar + nx zs (k + 1 + 1 + 1 + 1) 6))
    have kW := k5.setCell (p := ⟨b, 4, none⟩) (.inr hwb) (.int .i64 (ar + nx zs (k + 1 + 1 + 1 + 1) 6))
    have hCW := hC5.chg ((Chg.refl [b] w5).setCell (p := ⟨b, 4, none⟩) (by simp) (.int .i64 (ar + nx zs (k + 1 + 1 + 1 + 1) 6))) (by simpa using Ne.symm hbne) (by simpa using hBb)
    clear hC4 hC5 hb4 hb5 hr4 hr5 k4 k5 e3 e4 e5 g4 hc5 hwr
    have hb9 : -2 ≤ ar + nx zs (k + 1 + 1 + 1 + 1) 6 ∧ ar + nx zs (k + 1 + 1 + 1 + 1) 6 ≤ 81920 := by omega
    go_wp2_with fail
    refine (next_c hCW (by omega) (by omega)).mono ?_
    rintro e w6 ⟨rfl, hC6, hc6⟩
    clear hCW
    generalize ar + nx zs (k + 1 + 1 + 1 + 1) 6 = dl at hbW hb9 hrW kW hc6
    have hb6 := hbW.chg hc6 (by simpa using hbne)
    have hr6 := hrW.chg hc6 (by simpa using hrne)
    have k6 := kW.trans hc6 (by simp)
    simp only [List.setIfInBounds_toArray, List.set_cons_succ, List.set_cons_zero] at hb6
    clear hbW hrW kW hc6
    have m1 := nx_nonneg zs (k + 1 + 1 + 1 + 1 + 1) 25
    by_cases d0 : nx zs (k + 1 + 1 + 1 + 1 + 1) 25 = 0
    · rw [d0]
      have hn1 := nx_nonneg zs (k + 1 + 1 + 1 + 1 + 1 + 1) 2
      have hn2 := nx_lt zs (k + 1 + 1 + 1 + 1 + 1 + 1) 2 (by omega)
      go_wp2_with fail
      refine (next_c hC6 (by omega) (by omega)).mono ?_
      rintro e w7 ⟨rfl, hC7, hc7⟩
      generalize nx zs (k + 1 + 1 + 1 + 1 + 1 + 1) 2 = z at hn1 hn2 ⊢
      have kx := k6.trans hc7 (by simp)
      have hb7 := hb6.chg hc7 (by simpa using hbne)
      have hr7 := hr6.chg hc7 (by simpa using hrne)
      obtain ⟨p0, p1, p2, p3, p4⟩ := pk_cells hb7
      obtain ⟨q0, q1, q2, q3, q4⟩ := pk_free hb7
      obtain ⟨r0, r1, r2, r3, r4⟩ := pk_cells hr7
      obtain ⟨f0, f1, f2, f3, f4⟩ := pk_free hr7
      go_wp2_with fail
      refine bodyPost_ret (v := .agg #[.int .i64 (z - 1), .int .i64 fl, .int .i64 ln, .int .i64 ar, .int .i64 dl]) (by simp [results, Try.results8, go_sem, *]) rfl ?_
      refine ⟨(z - 1), fl, ln, ar, dl, k + 1 + 1 + 1 + 1 + 1 + 1 + 1, rfl, .inr (by omega), by omega, by omega, by omega, by omega, by omega, by omega, by omega, by omega, ?_, by omega, ?_⟩
      · refine hC7.chg (S := [b, w.heap.size]) ?_ (by simp; omega) (by simp; omega)
        repeat (first | (with_reducible exact Chg.refl _ _) | (with_reducible refine Chg.alloc ?_ _) | (with_reducible refine Chg.drew ?_) | ((with_reducible refine Chg.setCell ?_ ?hp _); case hp => simp))
      · repeat (first | (with_reducible exact kx) | (with_reducible refine Chg.alloc ?_ _) | (with_reducible refine Chg.drew ?_) | ((with_reducible refine Chg.setCell ?_ ?hp _); case hp => (first | exact .inr hwb | exact .inr (Nat.le_refl _))))
    · have D0 : (nx zs (k + 1 + 1 + 1 + 1 + 1) 25 == 0) = false := beq_eq_false_iff_ne.2 d0
      by_cases d1 : nx zs (k + 1 + 1 + 1 + 1 + 1) 25 = 1
      · rw [d1]
        clear D0
        have hn1 := nx_nonneg zs (k + 1 + 1 + 1 + 1 + 1 + 1) 2
        have hn2 := nx_lt zs (k + 1 + 1 + 1 + 1 + 1 + 1) 2 (by omega)
        go_wp2_with fail
        refine (next_c (hC6.chg ((Chg.refl [] w6).alloc (.cells #[.int .i64 (-1), .int .i64 32] 3)) (by simp) (by simp)) (by omega) (by omega)).mono ?_
        rintro e w7 ⟨rfl, hC7, hc7⟩
        have kx := (k6.alloc (.cells #[.int .i64 (-1), .int .i64 32] 3)).trans hc7 (by simp)
        have hb7 := (hb6.alloc (.cells #[.int .i64 (-1), .int .i64 32] 3)).chg hc7 (by simpa using hbne)
        have hr7 := (hr6.alloc (.cells #[.int .i64 (-1), .int .i64 32] 3)).chg hc7 (by simpa using hrne)
        obtain ⟨j, hj⟩ := Int.eq_ofNat_of_zero_le hn1
        rw [hj] at hn1 hn2 ⊢
        clear hj
        obtain ⟨v, hv, hv1, hv2⟩ : ∃ v : Int, w7.cell? ⟨w6.heap.size, j, none⟩ = some (.int .i64 v) ∧ -1 ≤ v ∧ v ≤ 32 := by
          have hB := (Blk.new w6 3 #[.int .i64 (-1), .int .i64 32]).cell j
          have hj7 : j = 0 ∨ j = 1 := by omega
          have hlt6 := hC6.lt
          rcases hj7 with rfl | rfl
          all_goals exact ⟨_, chg1_cell hc7 (by omega) (hB.trans rfl), by omega, by omega⟩
        obtain ⟨p0, p1, p2, p3, p4⟩ := pk_cells hb7
        obtain ⟨q0, q1, q2, q3, q4⟩ := pk_free hb7
        obtain ⟨r0, r1, r2, r3, r4⟩ := pk_cells hr7
        obtain ⟨f0, f1, f2, f3, f4⟩ := pk_free hr7
        go_wp2_with fail
        refine bodyPost_ret (v := .agg #[.int .i64 id, .int .i64 v, .int .i64 ln, .int .i64 ar, .int .i64 dl]) (by simp [results, Try.results8, go_sem, *]) rfl ?_
        refine ⟨id, v, ln, ar, dl, k + 1 + 1 + 1 + 1 + 1 + 1 + 1, rfl, .inl rfl, by omega, by omega, by omega, by omega, by omega, by omega, by omega, by omega, ?_, by omega, ?_⟩
        · refine hC7.chg (S := [b, w.heap.size]) ?_ (by simp; omega) (by simp; omega)
          repeat (first | (with_reducible exact Chg.refl _ _) | (with_reducible refine Chg.alloc ?_ _) | (with_reducible refine Chg.drew ?_) | ((with_reducible refine Chg.setCell ?_ ?hp _); case hp => simp))
        · repeat (first | (with_reducible exact kx) | (with_reducible refine Chg.alloc ?_ _) | (with_reducible refine Chg.drew ?_) | ((with_reducible refine Chg.setCell ?_ ?hp _); case hp => (first | exact .inr hwb | exact .inr (Nat.le_refl _))))
      · have D1 : (nx zs (k + 1 + 1 + 1 + 1 + 1) 25 == 1) = false := beq_eq_false_iff_ne.2 d1
        by_cases d2 : nx zs (k + 1 + 1 + 1 + 1 + 1) 25 = 2
        · rw [d2]
          clear D0 D1
          have hn1 := nx_nonneg zs (k + 1 + 1 + 1 + 1 + 1 + 1) 2
          have hn2 := nx_lt zs (k + 1 + 1 + 1 + 1 + 1 + 1) 2 (by omega)
          go_wp2_with fail
          refine (next_c (hC6.chg ((Chg.refl [] w6).alloc (.cells #[.int .i64 0, .int .i64 4097] 3)) (by simp) (by simp)) (by omega) (by omega)).mono ?_
          rintro e w7 ⟨rfl, hC7, hc7⟩
          have kx := (k6.alloc (.cells #[.int .i64 0, .int .i64 4097] 3)).trans hc7 (by simp)
          have hb7 := (hb6.alloc (.cells #[.int .i64 0, .int .i64 4097] 3)).chg hc7 (by simpa using hbne)
          have hr7 := (hr6.alloc (.cells #[.int .i64 0, .int .i64 4097] 3)).chg hc7 (by simpa using hrne)
          obtain ⟨j, hj⟩ := Int.eq_ofNat_of_zero_le hn1
          rw [hj] at hn1 hn2 ⊢
          clear hj
          obtain ⟨v, hv, hv1, hv2⟩ : ∃ v : Int, w7.cell? ⟨w6.heap.size, j, none⟩ = some (.int .i64 v) ∧ 0 ≤ v ∧ v ≤ 4097 := by
            have hB := (Blk.new w6 3 #[.int .i64 0, .int .i64 4097]).cell j
            have hj7 : j = 0 ∨ j = 1 := by omega
            have hlt6 := hC6.lt
            rcases hj7 with rfl | rfl
            all_goals exact ⟨_, chg1_cell hc7 (by omega) (hB.trans rfl), by omega, by omega⟩
          obtain ⟨p0, p1, p2, p3, p4⟩ := pk_cells hb7
          obtain ⟨q0, q1, q2, q3, q4⟩ := pk_free hb7
          obtain ⟨r0, r1, r2, r3, r4⟩ := pk_cells hr7
          obtain ⟨f0, f1, f2, f3, f4⟩ := pk_free hr7
          go_wp2_with fail
          refine bodyPost_ret (v := .agg #[.int .i64 id, .int .i64 fl, .int .i64 v, .int .i64 ar, .int .i64 dl]) (by simp [results, Try.results8, go_sem, *]) rfl ?_
          refine ⟨id, fl, v, ar, dl, k + 1 + 1 + 1 + 1 + 1 + 1 + 1, rfl, .inl rfl, by omega, by omega, by omega, by omega, by omega, by omega, by omega, by omega, ?_, by omega, ?_⟩
          · refine hC7.chg (S := [b, w.heap.size]) ?_ (by simp; omega) (by simp; omega)
            repeat (first | (with_reducible exact Chg.refl _ _) | (with_reducible refine Chg.alloc ?_ _) | (with_reducible refine Chg.drew ?_) | ((with_reducible refine Chg.setCell ?_ ?hp _); case hp => simp))
          · repeat (first | (with_reducible exact kx) | (with_reducible refine Chg.alloc ?_ _) | (with_reducible refine Chg.drew ?_) | ((with_reducible refine Chg.setCell ?_ ?hp _); case hp => (first | exact .inr hwb | exact .inr (Nat.le_refl _))))
        · have D2 : (nx zs (k + 1 + 1 + 1 + 1 + 1) 25 == 2) = false := beq_eq_false_iff_ne.2 d2
          by_cases d3 : nx zs (k + 1 + 1 + 1 + 1 + 1) 25 = 3
          · rw [d3]
            clear D0 D1 D2
            have hn1 := nx_nonneg zs (k + 1 + 1 + 1 + 1 + 1 + 1) 3
            have hn2 := nx_lt zs (k + 1 + 1 + 1 + 1 + 1 + 1) 3 (by omega)
            go_wp2_with fail
            refine (next_c (hC6.chg ((Chg.refl [] w6).alloc (.cells #[.int .i64 (-1), .int .i64 16385, .int .i64 16384] 3)) (by simp) (by simp)) (by omega) (by omega)).mono ?_
            rintro e w7 ⟨rfl, hC7, hc7⟩
            have kx := (k6.alloc (.cells #[.int .i64 (-1), .int .i64 16385, .int .i64 16384] 3)).trans hc7 (by simp)
            have hb7 := (hb6.alloc (.cells #[.int .i64 (-1), .int .i64 16385, .int .i64 16384] 3)).chg hc7 (by simpa using hbne)
            have hr7 := (hr6.alloc (.cells #[.int .i64 (-1), .int .i64 16385, .int .i64 16384] 3)).chg hc7 (by simpa using hrne)
            obtain ⟨j, hj⟩ := Int.eq_ofNat_of_zero_le hn1
            rw [hj] at hn1 hn2 ⊢
            clear hj
            obtain ⟨v, hv, hv1, hv2⟩ : ∃ v : Int, w7.cell? ⟨w6.heap.size, j, none⟩ = some (.int .i64 v) ∧ -1 ≤ v ∧ v ≤ 16385 := by
              have hB := (Blk.new w6 3 #[.int .i64 (-1), .int .i64 16385, .int .i64 16384]).cell j
              have hj7 : j = 0 ∨ j = 1 ∨ j = 2 := by omega
              have hlt6 := hC6.lt
              rcases hj7 with rfl | rfl | rfl
              all_goals exact ⟨_, chg1_cell hc7 (by omega) (hB.trans rfl), by omega, by omega⟩
            obtain ⟨p0, p1, p2, p3, p4⟩ := pk_cells hb7
            obtain ⟨q0, q1, q2, q3, q4⟩ := pk_free hb7
            obtain ⟨r0, r1, r2, r3, r4⟩ := pk_cells hr7
            obtain ⟨f0, f1, f2, f3, f4⟩ := pk_free hr7
            go_wp2_with fail
            refine bodyPost_ret (v := .agg #[.int .i64 id, .int .i64 fl, .int .i64 ln, .int .i64 v, .int .i64 dl]) (by simp [results, Try.results8, go_sem, *]) rfl ?_
            refine ⟨id, fl, ln, v, dl, k + 1 + 1 + 1 + 1 + 1 + 1 + 1, rfl, .inl rfl, by omega, by omega, by omega, by omega, by omega, by omega, by omega, by omega, ?_, by omega, ?_⟩
            · refine hC7.chg (S := [b, w.heap.size]) ?_ (by simp; omega) (by simp; omega)
              repeat (first | (with_reducible exact Chg.refl _ _) | (with_reducible refine Chg.alloc ?_ _) | (with_reducible refine Chg.drew ?_) | ((with_reducible refine Chg.setCell ?_ ?hp _); case hp => simp))
            · repeat (first | (with_reducible exact kx) | (with_reducible refine Chg.alloc ?_ _) | (with_reducible refine Chg.drew ?_) | ((with_reducible refine Chg.setCell ?_ ?hp _); case hp => (first | exact .inr hwb | exact .inr (Nat.le_refl _))))
          · have D3 : (nx zs (k + 1 + 1 + 1 + 1 + 1) 25 == 3) = false := beq_eq_false_iff_ne.2 d3
            by_cases d4 : nx zs (k + 1 + 1 + 1 + 1 + 1) 25 = 4
            · rw [d4]
              clear D0 D1 D2 D3
              have hn1 := nx_nonneg zs (k + 1 + 1 + 1 + 1 + 1 + 1) 4
              have hn2 := nx_lt zs (k + 1 + 1 + 1 + 1 + 1 + 1) 4 (by omega)
              obtain ⟨j, hj⟩ := Int.eq_ofNat_of_zero_le hn1
              have hnx : ∀ (W : World), Cho W B c zs (k + 1 + 1 + 1 + 1 + 1 + 1) → Calls Try.prog 13 #[.pointer (some ⟨c, 0, none⟩), .int .i64 4] W fun e w' => e = .returned (.int .i64 (j : Nat)) ∧ Cho w' B c zs (k + 1 + 1 + 1 + 1 + 1 + 1 + 1) ∧ Chg [c] W w' := fun W hW => by
                have := next_c (n := 4) hW (by omega) (by omega)
                rw [hj] at this
                exact this
              rw [hj] at hn1 hn2
              clear hj
              have hlt6 := hC6.lt
              have HNX := Lib.hid hnx
              clear hnx
              obtain ⟨v, hva, hv1, hv2⟩ : ∃ v : Int, (#[.int .i64 (ar - 1), .int .i64 (-2), .int .i64 81919, .int .i64 81920] : Array Value)[j]? = some (.int .i64 v) ∧ -2 ≤ v ∧ v ≤ 81920 := by
                have hj7 : j = 0 ∨ j = 1 ∨ j = 2 ∨ j = 3 := by omega
                rcases hj7 with rfl | rfl | rfl | rfl
                all_goals exact ⟨_, rfl, by omega, by omega⟩
              obtain ⟨p0, p1, p2, p3, p4⟩ := pk_cells hb6
              have hws : IntKind.i64.wrap (ar - 1) = ar - 1 := IntWalk.i64_in _ (by omega)
              go_wp2_with fail
              go_region_with (go_at_call 13; refine (HNX.out _ (by first | exact hC6.chg (Chg.refl [] w6).drew (by simp) (by simp) | exact hC6.chg ((Chg.refl [] w6).alloc _).drew (by simp) (by simp))).mono ?_; rintro e w7 ⟨rfl, hC7, hc7⟩; (try have hv7 := cell_behind_alloc hc7 hlt6 hva); have hb7 : Blk w7 b 24 #[.int .i64 id, .int .i64 fl, .int .i64 ln, .int .i64 ar, .int .i64 dl] := (by first | exact hb6.drew.chg hc7 (by simpa using hbne) | exact (hb6.alloc _).drew.chg hc7 (by simpa using hbne)); have hr7 : Blk w7 w.heap.size 24 #[.int .i64 0, .int .i64 0, .int .i64 0, .int .i64 0, .int .i64 0] := (by first | exact hr6.drew.chg hc7 (by simpa using hrne) | exact (hr6.alloc _).drew.chg hc7 (by simpa using hrne)); have kx : Chg [c] w w7 := (by first | exact k6.drew.trans hc7 (by simp) | exact (k6.alloc _).drew.trans hc7 (by simp)); clear p0 p1 p2 p3 p4; obtain ⟨p0, p1, p2, p3, p4⟩ := pk_cells hb7; obtain ⟨q0, q1, q2, q3, q4⟩ := pk_free hb7; obtain ⟨r0, r1, r2, r3, r4⟩ := pk_cells hr7; obtain ⟨f0, f1, f2, f3, f4⟩ := pk_free hr7; have hl1 := hb7.lt; have hl2 := hr7.lt)
              all_goals
                clear HNX hc7 hva hws hb6 hr6 k6 hC6
                go_wp2_with fail
                refine bodyPost_ret (v := .agg #[.int .i64 id, .int .i64 fl, .int .i64 ln, .int .i64 ar, .int .i64 v]) (by simp [results, Try.results8, go_sem, *]) rfl ?_
                refine ⟨id, fl, ln, ar, v, k + 1 + 1 + 1 + 1 + 1 + 1 + 1, rfl, .inl rfl, by omega, by omega, by omega, by omega, by omega, by omega, by omega, by omega, ?_, by omega, ?_⟩
                · refine hC7.chg (S := [b, w.heap.size]) ?_ (by simp; omega) (by simp; omega)
                  repeat (first | (with_reducible exact Chg.refl _ _) | (with_reducible refine Chg.alloc ?_ _) | (with_reducible refine Chg.drew ?_) | ((with_reducible refine Chg.setCell ?_ ?hp _); case hp => simp))
                · repeat (first | (with_reducible exact kx) | (with_reducible refine Chg.alloc ?_ _) | (with_reducible refine Chg.drew ?_) | ((with_reducible refine Chg.setCell ?_ ?hp _); case hp => (first | exact .inr hwb | exact .inr (Nat.le_refl _))))
            · have D4 : (nx zs (k + 1 + 1 + 1 + 1 + 1) 25 == 4) = false := beq_eq_false_iff_ne.2 d4
              clear d0 d1 d2 d3 d4
              have kx := k6
              obtain ⟨p0, p1, p2, p3, p4⟩ := pk_cells hb6
              obtain ⟨q0, q1, q2, q3, q4⟩ := pk_free hb6
              obtain ⟨r0, r1, r2, r3, r4⟩ := pk_cells hr6
              obtain ⟨f0, f1, f2, f3, f4⟩ := pk_free hr6
              go_wp2_with fail
              refine bodyPost_ret (v := .agg #[.int .i64 id, .int .i64 fl, .int .i64 ln, .int .i64 ar, .int .i64 dl]) (by simp [results, Try.results8, go_sem, *]) rfl ?_
              refine ⟨id, fl, ln, ar, dl, k + 1 + 1 + 1 + 1 + 1 + 1, rfl, .inl rfl, by omega, by omega, by omega, by omega, by omega, by omega, by omega, by omega, ?_, by omega, ?_⟩
              · refine hC6.chg (S := [b, w.heap.size]) ?_ (by simp; omega) (by simp; omega)
                repeat (first | (with_reducible exact Chg.refl _ _) | (with_reducible refine Chg.alloc ?_ _) | (with_reducible refine Chg.drew ?_) | ((with_reducible refine Chg.setCell ?_ ?hp _); case hp => simp))
              · repeat (first | (with_reducible exact kx) | (with_reducible refine Chg.alloc ?_ _) | (with_reducible refine Chg.drew ?_) | ((with_reducible refine Chg.setCell ?_ ?hp _); case hp => (first | exact .inr hwb | exact .inr (Nat.le_refl _))))
  · have hd : (nx zs (k + 1 + 1 + 1) 2 == 0) = false := beq_eq_false_iff_ne.2 h0
    clear h0 hx1 hx2 e3
    have hb9 := hdd1
    clear hdd1
    go_wp2_with fail
    refine (next_c hC4 (by omega) (by omega)).mono ?_
    rintro e w6 ⟨rfl, hC6, hc6⟩
    have hb6 := hb4.chg hc6 (by simpa using hbne)
    have hr6 := hr4.chg hc6 (by simpa using hrne)
    have k6 := k4.trans hc6 (by simp)
    clear hC4 hb4 hr4 k4 hc6
    obtain ⟨dl, hdl⟩ : ∃ dl, dl = dd := ⟨_, rfl⟩
    rw [← hdl] at hb6 hb9
    clear hdl
    have m1 := nx_nonneg zs (k + 1 + 1 + 1 + 1) 25
    by_cases d0 : nx zs (k + 1 + 1 + 1 + 1) 25 = 0
    · rw [d0]
      have hn1 := nx_nonneg zs (k + 1 + 1 + 1 + 1 + 1) 2
      have hn2 := nx_lt zs (k + 1 + 1 + 1 + 1 + 1) 2 (by omega)
      go_wp2_with fail
      refine (next_c hC6 (by omega) (by omega)).mono ?_
      rintro e w7 ⟨rfl, hC7, hc7⟩
      generalize nx zs (k + 1 + 1 + 1 + 1 + 1) 2 = z at hn1 hn2 ⊢
      have kx := k6.trans hc7 (by simp)
      have hb7 := hb6.chg hc7 (by simpa using hbne)
      have hr7 := hr6.chg hc7 (by simpa using hrne)
      obtain ⟨p0, p1, p2, p3, p4⟩ := pk_cells hb7
      obtain ⟨q0, q1, q2, q3, q4⟩ := pk_free hb7
      obtain ⟨r0, r1, r2, r3, r4⟩ := pk_cells hr7
      obtain ⟨f0, f1, f2, f3, f4⟩ := pk_free hr7
      go_wp2_with fail
      refine bodyPost_ret (v := .agg #[.int .i64 (z - 1), .int .i64 fl, .int .i64 ln, .int .i64 ar, .int .i64 dl]) (by simp [results, Try.results8, go_sem, *]) rfl ?_
      refine ⟨(z - 1), fl, ln, ar, dl, k + 1 + 1 + 1 + 1 + 1 + 1, rfl, .inr (by omega), by omega, by omega, by omega, by omega, by omega, by omega, by omega, by omega, ?_, by omega, ?_⟩
      · refine hC7.chg (S := [b, w.heap.size]) ?_ (by simp; omega) (by simp; omega)
        repeat (first | (with_reducible exact Chg.refl _ _) | (with_reducible refine Chg.alloc ?_ _) | (with_reducible refine Chg.drew ?_) | ((with_reducible refine Chg.setCell ?_ ?hp _); case hp => simp))
      · repeat (first | (with_reducible exact kx) | (with_reducible refine Chg.alloc ?_ _) | (with_reducible refine Chg.drew ?_) | ((with_reducible refine Chg.setCell ?_ ?hp _); case hp => (first | exact .inr hwb | exact .inr (Nat.le_refl _))))
    · have D0 : (nx zs (k + 1 + 1 + 1 + 1) 25 == 0) = false := beq_eq_false_iff_ne.2 d0
      by_cases d1 : nx zs (k + 1 + 1 + 1 + 1) 25 = 1
      · rw [d1]
        clear D0
        have hn1 := nx_nonneg zs (k + 1 + 1 + 1 + 1 + 1) 2
        have hn2 := nx_lt zs (k + 1 + 1 + 1 + 1 + 1) 2 (by omega)
        go_wp2_with fail
        refine (next_c (hC6.chg ((Chg.refl [] w6).alloc (.cells #[.int .i64 (-1), .int .i64 32] 3)) (by simp) (by simp)) (by omega) (by omega)).mono ?_
        rintro e w7 ⟨rfl, hC7, hc7⟩
        have kx := (k6.alloc (.cells #[.int .i64 (-1), .int .i64 32] 3)).trans hc7 (by simp)
        have hb7 := (hb6.alloc (.cells #[.int .i64 (-1), .int .i64 32] 3)).chg hc7 (by simpa using hbne)
        have hr7 := (hr6.alloc (.cells #[.int .i64 (-1), .int .i64 32] 3)).chg hc7 (by simpa using hrne)
        obtain ⟨j, hj⟩ := Int.eq_ofNat_of_zero_le hn1
        rw [hj] at hn1 hn2 ⊢
        clear hj
        obtain ⟨v, hv, hv1, hv2⟩ : ∃ v : Int, w7.cell? ⟨w6.heap.size, j, none⟩ = some (.int .i64 v) ∧ -1 ≤ v ∧ v ≤ 32 := by
          have hB := (Blk.new w6 3 #[.int .i64 (-1), .int .i64 32]).cell j
          have hj7 : j = 0 ∨ j = 1 := by omega
          have hlt6 := hC6.lt
          rcases hj7 with rfl | rfl
          all_goals exact ⟨_, chg1_cell hc7 (by omega) (hB.trans rfl), by omega, by omega⟩
        obtain ⟨p0, p1, p2, p3, p4⟩ := pk_cells hb7
        obtain ⟨q0, q1, q2, q3, q4⟩ := pk_free hb7
        obtain ⟨r0, r1, r2, r3, r4⟩ := pk_cells hr7
        obtain ⟨f0, f1, f2, f3, f4⟩ := pk_free hr7
        go_wp2_with fail
        refine bodyPost_ret (v := .agg #[.int .i64 id, .int .i64 v, .int .i64 ln, .int .i64 ar, .int .i64 dl]) (by simp [results, Try.results8, go_sem, *]) rfl ?_
        refine ⟨id, v, ln, ar, dl, k + 1 + 1 + 1 + 1 + 1 + 1, rfl, .inl rfl, by omega, by omega, by omega, by omega, by omega, by omega, by omega, by omega, ?_, by omega, ?_⟩
        · refine hC7.chg (S := [b, w.heap.size]) ?_ (by simp; omega) (by simp; omega)
          repeat (first | (with_reducible exact Chg.refl _ _) | (with_reducible refine Chg.alloc ?_ _) | (with_reducible refine Chg.drew ?_) | ((with_reducible refine Chg.setCell ?_ ?hp _); case hp => simp))
        · repeat (first | (with_reducible exact kx) | (with_reducible refine Chg.alloc ?_ _) | (with_reducible refine Chg.drew ?_) | ((with_reducible refine Chg.setCell ?_ ?hp _); case hp => (first | exact .inr hwb | exact .inr (Nat.le_refl _))))
      · have D1 : (nx zs (k + 1 + 1 + 1 + 1) 25 == 1) = false := beq_eq_false_iff_ne.2 d1
        by_cases d2 : nx zs (k + 1 + 1 + 1 + 1) 25 = 2
        · rw [d2]
          clear D0 D1
          have hn1 := nx_nonneg zs (k + 1 + 1 + 1 + 1 + 1) 2
          have hn2 := nx_lt zs (k + 1 + 1 + 1 + 1 + 1) 2 (by omega)
          go_wp2_with fail
          refine (next_c (hC6.chg ((Chg.refl [] w6).alloc (.cells #[.int .i64 0, .int .i64 4097] 3)) (by simp) (by simp)) (by omega) (by omega)).mono ?_
          rintro e w7 ⟨rfl, hC7, hc7⟩
          have kx := (k6.alloc (.cells #[.int .i64 0, .int .i64 4097] 3)).trans hc7 (by simp)
          have hb7 := (hb6.alloc (.cells #[.int .i64 0, .int .i64 4097] 3)).chg hc7 (by simpa using hbne)
          have hr7 := (hr6.alloc (.cells #[.int .i64 0, .int .i64 4097] 3)).chg hc7 (by simpa using hrne)
          obtain ⟨j, hj⟩ := Int.eq_ofNat_of_zero_le hn1
          rw [hj] at hn1 hn2 ⊢
          clear hj
          obtain ⟨v, hv, hv1, hv2⟩ : ∃ v : Int, w7.cell? ⟨w6.heap.size, j, none⟩ = some (.int .i64 v) ∧ 0 ≤ v ∧ v ≤ 4097 := by
            have hB := (Blk.new w6 3 #[.int .i64 0, .int .i64 4097]).cell j
            have hj7 : j = 0 ∨ j = 1 := by omega
            have hlt6 := hC6.lt
            rcases hj7 with rfl | rfl
            all_goals exact ⟨_, chg1_cell hc7 (by omega) (hB.trans rfl), by omega, by omega⟩
          obtain ⟨p0, p1, p2, p3, p4⟩ := pk_cells hb7
          obtain ⟨q0, q1, q2, q3, q4⟩ := pk_free hb7
          obtain ⟨r0, r1, r2, r3, r4⟩ := pk_cells hr7
          obtain ⟨f0, f1, f2, f3, f4⟩ := pk_free hr7
          go_wp2_with fail
          refine bodyPost_ret (v := .agg #[.int .i64 id, .int .i64 fl, .int .i64 v, .int .i64 ar, .int .i64 dl]) (by simp [results, Try.results8, go_sem, *]) rfl ?_
          refine ⟨id, fl, v, ar, dl, k + 1 + 1 + 1 + 1 + 1 + 1, rfl, .inl rfl, by omega, by omega, by omega, by omega, by omega, by omega, by omega, by omega, ?_, by omega, ?_⟩
          · refine hC7.chg (S := [b, w.heap.size]) ?_ (by simp; omega) (by simp; omega)
            repeat (first | (with_reducible exact Chg.refl _ _) | (with_reducible refine Chg.alloc ?_ _) | (with_reducible refine Chg.drew ?_) | ((with_reducible refine Chg.setCell ?_ ?hp _); case hp => simp))
          · repeat (first | (with_reducible exact kx) | (with_reducible refine Chg.alloc ?_ _) | (with_reducible refine Chg.drew ?_) | ((with_reducible refine Chg.setCell ?_ ?hp _); case hp => (first | exact .inr hwb | exact .inr (Nat.le_refl _))))
        · have D2 : (nx zs (k + 1 + 1 + 1 + 1) 25 == 2) = false := beq_eq_false_iff_ne.2 d2
          by_cases d3 : nx zs (k + 1 + 1 + 1 + 1) 25 = 3
          · rw [d3]
            clear D0 D1 D2
            have hn1 := nx_nonneg zs (k + 1 + 1 + 1 + 1 + 1) 3
            have hn2 := nx_lt zs (k + 1 + 1 + 1 + 1 + 1) 3 (by omega)
            go_wp2_with fail
            refine (next_c (hC6.chg ((Chg.refl [] w6).alloc (.cells #[.int .i64 (-1), .int .i64 16385, .int .i64 16384] 3)) (by simp) (by simp)) (by omega) (by omega)).mono ?_
            rintro e w7 ⟨rfl, hC7, hc7⟩
            have kx := (k6.alloc (.cells #[.int .i64 (-1), .int .i64 16385, .int .i64 16384] 3)).trans hc7 (by simp)
            have hb7 := (hb6.alloc (.cells #[.int .i64 (-1), .int .i64 16385, .int .i64 16384] 3)).chg hc7 (by simpa using hbne)
            have hr7 := (hr6.alloc (.cells #[.int .i64 (-1), .int .i64 16385, .int .i64 16384] 3)).chg hc7 (by simpa using hrne)
            obtain ⟨j, hj⟩ := Int.eq_ofNat_of_zero_le hn1
            rw [hj] at hn1 hn2 ⊢
            clear hj
            obtain ⟨v, hv, hv1, hv2⟩ : ∃ v : Int, w7.cell? ⟨w6.heap.size, j, none⟩ = some (.int .i64 v) ∧ -1 ≤ v ∧ v ≤ 16385 := by
              have hB := (Blk.new w6 3 #[.int .i64 (-1), .int .i64 16385, .int .i64 16384]).cell j
              have hj7 : j = 0 ∨ j = 1 ∨ j = 2 := by omega
              have hlt6 := hC6.lt
              rcases hj7 with rfl | rfl | rfl
              all_goals exact ⟨_, chg1_cell hc7 (by omega) (hB.trans rfl), by omega, by omega⟩
            obtain ⟨p0, p1, p2, p3, p4⟩ := pk_cells hb7
            obtain ⟨q0, q1, q2, q3, q4⟩ := pk_free hb7
            obtain ⟨r0, r1, r2, r3, r4⟩ := pk_cells hr7
            obtain ⟨f0, f1, f2, f3, f4⟩ := pk_free hr7
            go_wp2_with fail
            refine bodyPost_ret (v := .agg #[.int .i64 id, .int .i64 fl, .int .i64 ln, .int .i64 v, .int .i64 dl]) (by simp [results, Try.results8, go_sem, *]) rfl ?_
            refine ⟨id, fl, ln, v, dl, k + 1 + 1 + 1 + 1 + 1 + 1, rfl, .inl rfl, by omega, by omega, by omega, by omega, by omega, by omega, by omega, by omega, ?_, by omega, ?_⟩
            · refine hC7.chg (S := [b, w.heap.size]) ?_ (by simp; omega) (by simp; omega)
              repeat (first | (with_reducible exact Chg.refl _ _) | (with_reducible refine Chg.alloc ?_ _) | (with_reducible refine Chg.drew ?_) | ((with_reducible refine Chg.setCell ?_ ?hp _); case hp => simp))
            · repeat (first | (with_reducible exact kx) | (with_reducible refine Chg.alloc ?_ _) | (with_reducible refine Chg.drew ?_) | ((with_reducible refine Chg.setCell ?_ ?hp _); case hp => (first | exact .inr hwb | exact .inr (Nat.le_refl _))))
          · have D3 : (nx zs (k + 1 + 1 + 1 + 1) 25 == 3) = false := beq_eq_false_iff_ne.2 d3
            by_cases d4 : nx zs (k + 1 + 1 + 1 + 1) 25 = 4
            · rw [d4]
              clear D0 D1 D2 D3
              have hn1 := nx_nonneg zs (k + 1 + 1 + 1 + 1 + 1) 4
              have hn2 := nx_lt zs (k + 1 + 1 + 1 + 1 + 1) 4 (by omega)
              obtain ⟨j, hj⟩ := Int.eq_ofNat_of_zero_le hn1
              have hnx : ∀ (W : World), Cho W B c zs (k + 1 + 1 + 1 + 1 + 1) → Calls Try.prog 13 #[.pointer (some ⟨c, 0, none⟩), .int .i64 4] W fun e w' => e = .returned (.int .i64 (j : Nat)) ∧ Cho w' B c zs (k + 1 + 1 + 1 + 1 + 1 + 1) ∧ Chg [c] W w' := fun W hW => by
                have := next_c (n := 4) hW (by omega) (by omega)
                rw [hj] at this
                exact this
              rw [hj] at hn1 hn2
              clear hj
              have hlt6 := hC6.lt
              have HNX := Lib.hid hnx
              clear hnx
              obtain ⟨v, hva, hv1, hv2⟩ : ∃ v : Int, (#[.int .i64 (ar - 1), .int .i64 (-2), .int .i64 81919, .int .i64 81920] : Array Value)[j]? = some (.int .i64 v) ∧ -2 ≤ v ∧ v ≤ 81920 := by
                have hj7 : j = 0 ∨ j = 1 ∨ j = 2 ∨ j = 3 := by omega
                rcases hj7 with rfl | rfl | rfl | rfl
                all_goals exact ⟨_, rfl, by omega, by omega⟩
              obtain ⟨p0, p1, p2, p3, p4⟩ := pk_cells hb6
              have hws : IntKind.i64.wrap (ar - 1) = ar - 1 := IntWalk.i64_in _ (by omega)
              go_wp2_with fail
              go_region_with (go_at_call 13; refine (HNX.out _ (by first | exact hC6.chg (Chg.refl [] w6).drew (by simp) (by simp) | exact hC6.chg ((Chg.refl [] w6).alloc _).drew (by simp) (by simp))).mono ?_; rintro e w7 ⟨rfl, hC7, hc7⟩; (try have hv7 := cell_behind_alloc hc7 hlt6 hva); have hb7 : Blk w7 b 24 #[.int .i64 id, .int .i64 fl, .int .i64 ln, .int .i64 ar, .int .i64 dl] := (by first | exact hb6.drew.chg hc7 (by simpa using hbne) | exact (hb6.alloc _).drew.chg hc7 (by simpa using hbne)); have hr7 : Blk w7 w.heap.size 24 #[.int .i64 0, .int .i64 0, .int .i64 0, .int .i64 0, .int .i64 0] := (by first | exact hr6.drew.chg hc7 (by simpa using hrne) | exact (hr6.alloc _).drew.chg hc7 (by simpa using hrne)); have kx : Chg [c] w w7 := (by first | exact k6.drew.trans hc7 (by simp) | exact (k6.alloc _).drew.trans hc7 (by simp)); clear p0 p1 p2 p3 p4; obtain ⟨p0, p1, p2, p3, p4⟩ := pk_cells hb7; obtain ⟨q0, q1, q2, q3, q4⟩ := pk_free hb7; obtain ⟨r0, r1, r2, r3, r4⟩ := pk_cells hr7; obtain ⟨f0, f1, f2, f3, f4⟩ := pk_free hr7; have hl1 := hb7.lt; have hl2 := hr7.lt)
              all_goals
                clear HNX hc7 hva hws hb6 hr6 k6 hC6
                go_wp2_with fail
                refine bodyPost_ret (v := .agg #[.int .i64 id, .int .i64 fl, .int .i64 ln, .int .i64 ar, .int .i64 v]) (by simp [results, Try.results8, go_sem, *]) rfl ?_
                refine ⟨id, fl, ln, ar, v, k + 1 + 1 + 1 + 1 + 1 + 1, rfl, .inl rfl, by omega, by omega, by omega, by omega, by omega, by omega, by omega, by omega, ?_, by omega, ?_⟩
                · refine hC7.chg (S := [b, w.heap.size]) ?_ (by simp; omega) (by simp; omega)
                  repeat (first | (with_reducible exact Chg.refl _ _) | (with_reducible refine Chg.alloc ?_ _) | (with_reducible refine Chg.drew ?_) | ((with_reducible refine Chg.setCell ?_ ?hp _); case hp => simp))
                · repeat (first | (with_reducible exact kx) | (with_reducible refine Chg.alloc ?_ _) | (with_reducible refine Chg.drew ?_) | ((with_reducible refine Chg.setCell ?_ ?hp _); case hp => (first | exact .inr hwb | exact .inr (Nat.le_refl _))))
            · have D4 : (nx zs (k + 1 + 1 + 1 + 1) 25 == 4) = false := beq_eq_false_iff_ne.2 d4
              clear d0 d1 d2 d3 d4
              have kx := k6
              obtain ⟨p0, p1, p2, p3, p4⟩ := pk_cells hb6
              obtain ⟨q0, q1, q2, q3, q4⟩ := pk_free hb6
              obtain ⟨r0, r1, r2, r3, r4⟩ := pk_cells hr6
              obtain ⟨f0, f1, f2, f3, f4⟩ := pk_free hr6
              go_wp2_with fail
              refine bodyPost_ret (v := .agg #[.int .i64 id, .int .i64 fl, .int .i64 ln, .int .i64 ar, .int .i64 dl]) (by simp [results, Try.results8, go_sem, *]) rfl ?_
              refine ⟨id, fl, ln, ar, dl, k + 1 + 1 + 1 + 1 + 1, rfl, .inl rfl, by omega, by omega, by omega, by omega, by omega, by omega, by omega, by omega, ?_, by omega, ?_⟩
              · refine hC6.chg (S := [b, w.heap.size]) ?_ (by simp; omega) (by simp; omega)
                repeat (first | (with_reducible exact Chg.refl _ _) | (with_reducible refine Chg.alloc ?_ _) | (with_reducible refine Chg.drew ?_) | ((with_reducible refine Chg.setCell ?_ ?hp _); case hp => simp))
              · repeat (first | (with_reducible exact kx) | (with_reducible refine Chg.alloc ?_ _) | (with_reducible refine Chg.drew ?_) | ((with_reducible refine Chg.setCell ?_ ?hp _); case hp => (first | exact .inr hwb | exact .inr (Nat.le_refl _))))

end Go.Proofs.Ytdlehpohpdepkaa
