/- sets of the law, Uint64 of the choices, small facts. -/
import Derived.Test.YtpohbbmldedmdaaDoorBb
import Derived.Test.YtpohbbmldedmdaaDoorBs
import Derived.Deep.RegionWith
import Derived.Deep.DeepCutAuto
import Derived.Deep.DeepMust
namespace Go.Proofs.YtpohbbmldedmdaaDoor
open Go.RowKit
set_option linter.unusedVariables false
set_option linter.unusedSimpArgs false

set_option maxHeartbeats 2000000 in
theorem lsets (base b seq : Int) (w : World) (h0 : 0 ≤ b) (h1 : b < 18446744073709551616) : Calls Tryd.prog 17 #[.agg #[.int .i64 base, .int .u64 b], .int .i64 seq] w fun e w' => e = .returned (.bool true) ∧ Chg [] w w' := by
  have H1 := Lib.hid (fun W => pset base b seq W h0 h1)
  have H2 := Lib.hid (fun W => rset base b seq W h0 h1)
  have H3 := Lib.hid (fun W => pval base b W)
  have H4 := Lib.hid (fun W => rval base b W)
  have H5 := Lib.hid (fun W => has_raw base b seq W h0 h1)
  have H6 := Lib.hid (fun W => rhas base b seq W h0 h1)
  generalize setM base seq = v1 at H1 H2
  generalize setB base b seq = v2 at H1 H2
  generalize setE base seq = v3 at H1 H2
  generalize seqB base = v4 at H3 H4
  generalize hasB base b seq = v5 at H5 H6
  have hgd := bm_guard
  have hel := bm_eql v1 v2 v1 v2
  go_enter Tryd.func17, Tryd.ntmps17
  go_wp2_with fail
  refine (H1.out _).mono ?_
  rintro e w1 ⟨rfl, hc1⟩
  have k1 := ((Chg.refl [] w).alloc (.cells #[.int .i64 base, .int .u64 b] 29)).trans hc1 (by simp)
  have hm1 := (Blk.new w 29 #[.int .i64 base, .int .u64 b]).chg hc1 (by simp)
  have hmx := hm1.alloc (.cells #[.int .i64 v1, .int .u64 v2] 29)
  have m0 := (hm1.cell 0).trans rfl
  have m1 := (hm1.cell 1).trans rfl
  have hml := hm1.lt
  have hx1 := Blk.new w1 29 #[.int .i64 v1, .int .u64 v2]
  clear hc1 hm1
  go_wp2_with fail
  refine (H2.out _).mono ?_
  rintro e w2 ⟨rfl, hc2⟩
  have k2 := (k1.alloc (.cells #[.int .i64 v1, .int .u64 v2] 29)).trans hc2 (by simp)
  have hm2 := ((hmx.chg hc2 (by simp)).alloc (.cells #[.int .i64 v1, .int .u64 v2] 29)).drew
  have hx2 := ((hx1.chg hc2 (by simp)).alloc (.cells #[.int .i64 v1, .int .u64 v2] 29)).drew
  have hy2 := (Blk.new w2 29 #[.int .i64 v1, .int .u64 v2]).drew
  have k3 := (k2.alloc (.cells #[.int .i64 v1, .int .u64 v2] 29)).drew
  have fac : ∀ W', Chg [] (w2.alloc (.cells #[.int .i64 v1, .int .u64 v2] 29)).drew W' → W'.cell? ⟨w.heap.size, 0, none⟩ = some (.int .i64 base) ∧ W'.cell? ⟨w.heap.size, 1, none⟩ = some (.int .u64 b) ∧ W'.cell? ⟨w1.heap.size, 0, none⟩ = some (.int .i64 v1) ∧ W'.cell? ⟨w1.heap.size, 1, none⟩ = some (.int .u64 v2) ∧ W'.cell? ⟨w2.heap.size, 0, none⟩ = some (.int .i64 v1) ∧ W'.cell? ⟨w2.heap.size, 1, none⟩ = some (.int .u64 v2) := fun W' h =>
    ⟨((hm2.chg h (by simp)).cell 0).trans rfl, ((hm2.chg h (by simp)).cell 1).trans rfl, ((hx2.chg h (by simp)).cell 0).trans rfl, ((hx2.chg h (by simp)).cell 1).trans rfl, ((hy2.chg h (by simp)).cell 0).trans rfl, ((hy2.chg h (by simp)).cell 1).trans rfl⟩
  have FAC := Lib.hid fac
  have hS0 := fac _ (Chg.refl _ _)
  clear fac hm2 hx2 hy2 hmx hx1 hc2 m0 m1 hml H1 H2
  go_wp2_with fail
  go_region_held3 (fun w' => w'.cell? ⟨w.heap.size, 0, none⟩ = some (.int .i64 base) ∧ w'.cell? ⟨w.heap.size, 1, none⟩ = some (.int .u64 b) ∧ w'.cell? ⟨w1.heap.size, 0, none⟩ = some (.int .i64 v1) ∧ w'.cell? ⟨w1.heap.size, 1, none⟩ = some (.int .u64 v2) ∧ w'.cell? ⟨w2.heap.size, 0, none⟩ = some (.int .i64 v1) ∧ w'.cell? ⟨w2.heap.size, 1, none⟩ = some (.int .u64 v2)) (first | exact hS4 | exact hS3 | exact hS2 | exact hS1 | exact hS0 | go_keep)
    (first
      | (go_at_call 26; refine (H3.out _).mono ?_; rintro e wa ⟨rfl, hca⟩; have hS1 := FAC.out _ hca)
      | (go_at_call 37; refine (H4.out _).mono ?_; rintro e wb ⟨rfl, hcb⟩; have hcb := hca.trans hcb (by simp); have hS2 := FAC.out _ hcb)
      | (go_at_call 14; refine (H5.out _).mono ?_; rintro e wc ⟨rfl, hcc⟩; have hcc := hcb.trans hcc (by simp); have hS3 := FAC.out _ hcc)
      | (go_at_call 38; refine (H6.out _).mono ?_; rintro e wd ⟨rfl, hcd⟩; have hcd := hcc.trans hcd (by simp); have hS4 := FAC.out _ hcd))
  go_wp2_with fail
  go_ret
  exact ⟨rfl, k3.trans hcd (by simp)⟩

set_option maxHeartbeats 1000000 in
theorem puint64 {w : World} {B c : Nat} {zs : List Int} {k : Nat} (h : Cho w B c zs k) (hk : k ≤ 900000) :
    Calls Tryd.prog 10 #[.pointer (some ⟨c, 0, none⟩)] w fun e w' =>
      ∃ n : Int, e = .returned (.int .u64 n) ∧ 0 ≤ n ∧ n < 18446744073709551616 ∧ Cho w' B c zs (k + 1) ∧ Chg [c] w w' := by
  have hlt := h.lt
  have hle := h.le
  go_enter Tryd.func10, Tryd.ntmps10
  go_wp2_with fail
  refine (next_c (h.chg ((Chg.refl [] w).alloc _) (by simp) (by simp)) (by omega) (by omega)).mono ?_
  rintro e w1 ⟨rfl, hC1, hc1⟩
  have h1 := nx_nonneg zs k 15
  have h2 := nx_lt zs k 15 (by omega)
  have hch : Chg [c] w w1 := ((Chg.refl [c] w).alloc _).trans hc1 (by simp)
  obtain ⟨j, hj⟩ := Int.eq_ofNat_of_zero_le h1
  rw [hj] at h1 h2 ⊢
  clear hj
  obtain ⟨v, hv, hv1, hv2⟩ : ∃ v : Int, w1.cell? ⟨w.heap.size, j, none⟩ = some (.int .u64 v) ∧ 0 ≤ v ∧ v < 18446744073709551616 := by
    have hB := (Blk.new w 23 #[.int .u64 0, .int .u64 1, .int .u64 2, .int .u64 3, .int .u64 6, .int .u64 10, .int .u64 2147483648, .int .u64 4294967296, .int .u64 4294967295, .int .u64 9223372036854775808, .int .u64 9223372036854775807, .int .u64 18446744073709551615, .int .u64 18446744073709551614, .int .u64 4611686018427387904, .int .u64 720720]).cell j
    have hj7 : j = 0 ∨ j = 1 ∨ j = 2 ∨ j = 3 ∨ j = 4 ∨ j = 5 ∨ j = 6 ∨ j = 7 ∨ j = 8 ∨ j = 9 ∨ j = 10 ∨ j = 11 ∨ j = 12 ∨ j = 13 ∨ j = 14 := by omega
    have hbc : w.heap.size ≠ c := by omega
    rcases hj7 with rfl | rfl | rfl | rfl | rfl | rfl | rfl | rfl | rfl | rfl | rfl | rfl | rfl | rfl | rfl
    all_goals exact ⟨_, (hc1.cell (p := ⟨w.heap.size, _, none⟩) (by simp) (by simpa using hbc)).trans (hB.trans rfl), by omega, by omega⟩
  go_wp2_with fail
  go_ret
  exact ⟨v, rfl, hv1, hv2, hC1, hch⟩

theorem lit_behind {w w' : World} {c j : Nat} {v : Value} {arr : Array Value} {t : TypeId} (hc : Chg [c] (w.alloc (.cells arr t)).drew w') (hlt : c < w.heap.size) (hv : arr[j]? = some v) : w'.cell? ⟨w.heap.size, j, none⟩ = some v :=
  (((Blk.new w t arr).drew.chg hc (by simp; omega)).cell j).trans hv

/-- Behind a call that turned block c alone: what the walk is told of the other blocks. -/
theorem bcell {W W' : World} {c : Nat} (h : Chg [c] W W') : (∀ b o, b < W.heap.size → b ≠ c → W'.cell? ⟨b, o, none⟩ = W.cell? ⟨b, o, none⟩) ∧ (∀ b o, b < W.heap.size → b ≠ c → W'.frozen? ⟨b, o, none⟩ = W.frozen? ⟨b, o, none⟩) :=
  ⟨fun b o hb hc => h.cell (p := ⟨b, o, none⟩) hb (by simpa using hc), fun b o hb hc => h.frozen (p := ⟨b, o, none⟩) hb (by simpa using hc)⟩
theorem chg_of {w a b : World} {r : Nat} (h : Chg [] w a) (k : Chg [r] a b) (hr : w.heap.size ≤ r) : Chg [] w b := h.trans k (by simp; omega)
theorem Cho.al {w : World} {B c : Nat} {zs : List Int} {k : Nat} (h : Cho w B c zs k) (o : Obj) : Cho (w.alloc o) B c zs k := h.chg ((Chg.refl [] w).alloc o) (by simp) (by simp)
theorem Cho.dr {w : World} {B c : Nat} {zs : List Int} {k : Nat} (h : Cho w B c zs k) : Cho w.drew B c zs k := h.chg ((Chg.refl [] w).drew) (by simp) (by simp)
theorem Cho.st {w : World} {B c : Nat} {zs : List Int} {k : Nat} (h : Cho w B c zs k) {p : Addr} (hp : p.block ≠ c) (hB : B ≤ p.block) (u : Value) : Cho (w.setCell p u) B c zs k :=
  h.chg ((Chg.refl [p.block] w).setCell (by simp) u) (by simpa using hp.symm) (by simpa using hB)

end Go.Proofs.YtpohbbmldedmdaaDoor
