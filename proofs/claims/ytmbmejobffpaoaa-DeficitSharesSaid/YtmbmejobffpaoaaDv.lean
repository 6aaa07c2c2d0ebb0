/- The walk of the statement DeficitShares. -/
import Derived.Test.YtmbmejobffpaoaaDs
import Derived.Deep.DeepCutAuto
import Derived.Deep.CutBlock
import Derived.WalkLawsBesides
namespace Go.Proofs.Ytmbmejobffpaoaa
open Go.RowKit
set_option linter.unusedVariables false
set_option linter.unusedSimpArgs false

theorem q3_cell {w : World} {g k : Nat} {t : TypeId} (h : Blk w g t #[.int .i64 256, .int .i64 1000, .int .i64 5000]) (hk : k < 3) : ∃ v : Int, w.cell? ⟨g, k, none⟩ = some (.int .i64 v) ∧ 256 ≤ v ∧ v ≤ 5000 := by
  rw [h.cell]
  have : k = 0 ∨ k = 1 ∨ k = 2 := by omega
  rcases this with rfl | rfl | rfl <;> exact ⟨_, rfl, by omega, by omega⟩

/-- What stands within a round: all but the sums. -/
def ShMid (w wr : World) (q x y : Int) (r c : Nat) (zs : List Int) (K ma mb Y0 Y1 : Int) (pm : Nat) : Prop := ∃ O L now p, DA wr w.heap.size r O q L now ∧ DV q K L ∧ ShInv q x y ma mb L Y0 Y1 ∧ Cho wr w.heap.size c zs p ∧ p ≤ pm ∧ c ∉ r :: O ∧ Chg [] w wr
/-- What stands at the head of DeficitShares' rounds. -/
def ShRel (w wr : World) (q x y : Int) (r c : Nat) (zs : List Int) (f k : Nat) (a b ma mb : Int) : Prop := ∃ Y0 Y1, ShMid w wr q x y r c zs (6294 * (k : Int)) ma mb Y0 Y1 (7 + 9 * k) ∧ ShSum q x y ma mb Y0 Y1 a b k f ∧
  (0 ≤ ma ∧ ma ≤ 6294) ∧ (0 ≤ mb ∧ mb ≤ 6294) ∧ (0 ≤ a ∧ a ≤ 6294 * (k : Int)) ∧ (0 ≤ b ∧ b ≤ 6294 * (k : Int))

/-- What stands while the ready stations are listed. -/
def RdyRel (w wc wr : World) (c : Nat) (zs : List Int) (p0 m : Nat) (v : Value) : Prop := ∃ A d rd p', v = .slice A rd.length d ∧ wr.ownsRow wc.heap.size 3 1 (.slice A rd.length d) rd.length (rd.map (Value.int .i64)) ∧ rdOK (-1) rd = true ∧ (0 : Int) ∈ rd ∧ (1 : Int) ∈ rd ∧ (∀ x ∈ rd, x < (m : Int)) ∧ rd.length ≤ m ∧
  Cho wr w.heap.size c zs p' ∧ p' + 2 ≤ p0 + m ∧ Chg [c] wc wr

theorem any_sid {rd : List Int} {L : List Sd} {x : Int} (hr : x ∈ rd) (h : ∃ k, sid x L = some k) : anyB rd L = true := by
  unfold anyB
  rw [List.any_eq_true]
  obtain ⟨k, hk⟩ := h
  exact ⟨x, hr, by rw [hk]; rfl⟩

theorem lt_snoc {rd : List Int} {m : Nat} (h : ∀ x ∈ rd, x < (m : Int)) : ∀ x ∈ rd ++ [(m : Int)], x < ((m + 1 : Nat) : Int) := by
  intro x hx
  rcases List.mem_append.1 hx with hx | hx
  · have := h x hx
    omega
  · simp at hx
    omega

theorem two_hi {s : Sd} {v : Int} (h : s.i = v) (h2 : 2 ≤ v) : two s = false := by unfold two; rw [h]; simp; omega

/-- The round's end. -/
theorem sh_round {w v4 : World} {q x y ma mb Y0 Y1 sa sb t si ma' mb' sa' sb' : Int} {r c f k p' : Nat} {zs : List Int} {O1 : List Nat} {L L4 : List Sd} (hx : 1 ≤ x) (hy : 1 ≤ y) (hI : ShInv q x y ma mb L Y0 Y1) (hS : ShSum q x y ma mb Y0 Y1 sa sb k f)
    (b1 : 0 ≤ ma ∧ ma ≤ 6294) (b2 : 0 ≤ mb ∧ mb ≤ 6294) (b3 : 0 ≤ sa ∧ sa ≤ 6294 * (k : Int)) (b4 : 0 ≤ sb ∧ sb ≤ 6294 * (k : Int)) (ht : 1 ≤ t ∧ t ≤ 6294) (hk : k < 80)
    (hA : DA v4 w.heap.size r O1 q L4 (-1)) (hV : DV q (6294 * (k : Int) + t) L4) (hI4 : ShInv q x y (if si = 0 then max ma t else ma) (if si = 1 then max mb t else mb) L4 (if si = 0 then Y0 + t else Y0) (if si = 1 then Y1 + t else Y1))
    (hC : Cho v4 w.heap.size c zs p') (hp : p' ≤ 7 + 9 * (k + 1)) (hcs : c ∉ r :: O1) (hK : Chg [] w v4)
    (e1 : ma' = if si = 0 then max ma t else ma) (e2 : mb' = if si = 1 then max mb t else mb) (e3 : sa' = if f ≤ k ∧ si = 0 then sa + t else sa) (e4 : sb' = if f ≤ k ∧ si = 1 then sb + t else sb) :
    ShRel w v4 q x y r c zs f (k + 1) sa' sb' ma' mb' := by
  refine ⟨if si = 0 then Y0 + t else Y0, if si = 1 then Y1 + t else Y1, ⟨O1, L4, -1, p', hA, hV.mono (by omega) (by omega), by rw [e1, e2]; exact hI4, hC, by omega, hcs, hK⟩, ss_grow hx hy hI hS ?_ ?_ ?_ ?_, ?_, ?_, ?_, ?_⟩
  · rw [e1]; split <;> omega
  · rw [e2]; split <;> omega
  · intro h
    rw [e3, e4, if_neg (by omega), if_neg (by omega)]
    exact ⟨rfl, rfl⟩
  · intro h
    rw [e3, e4]
    by_cases c0 : si = 0
    · subst c0
      simp [h]
      omega
    · by_cases c1 : si = 1
      · subst c1
        simp [h]
        omega
      · simp [h, c0, c1]
  · rw [e1]; split <;> omega
  · rw [e2]; split <;> omega
  · rw [e3]; split <;> omega
  · rw [e4]; split <;> omega

set_option maxRecDepth 100000 in
set_option maxHeartbeats 8000000 in
theorem deficitShares_walk {w : World} {a : Option Addr} {len cap : Nat} {zs : List Int} (hz : zs.length = len) (hl : len ≤ 9223372036854775807) (hi : Inp w w.heap.size a zs) :
    Calls Try.prog 5 #[.slice a len cap] w fun e w' => e = .returned (.bool true) ∧ Below w.heap.size w w' := by
  have hgn := gnew_c (cap := cap) hz hl hi
  clear hz hi
  go_enter Try.func5, Try.ntmps5
  go_wp2_with fail
  refine hgn.mono ?_
  rintro e w1 ⟨c, rfl, hC1, hc1⟩
  have hz1 := hc1.size
  have hcl1 := hC1.lt
  have kl1 : Chg [] w1 (w1.alloc (.cells #[.int .i64 256, .int .i64 1000, .int .i64 5000] 2)) := (Chg.refl [] w1).alloc _
  have HN3 := Lib.hid (next_c (n := 3) (hC1.chg kl1 (by simp) (by simp)) (by omega) (by omega))
  have m0 := nx_nonneg zs 0 3
  have m1 := nx_lt zs 0 3 (by omega)
  generalize nx zs 0 3 = j3 at HN3 m0 m1
  obtain ⟨j3, rfl⟩ : ∃ j : Nat, j3 = j := ⟨j3.toNat, by omega⟩
  have HB1 := Lib.hid (Blk.new w1 2 #[.int .i64 256, .int .i64 1000, .int .i64 5000])
  have HK1 := Lib.hid (hc1.trans kl1 (by simp))
  clear hC1 hc1 hgn kl1
  go_wp2_with fail
  refine HN3.out.mono ?_
  rintro e w2 ⟨rfl, hC2, hc2⟩
  obtain ⟨q, hq, hq0, hq1⟩ := q3_cell (HB1.out.chg hc2 (by simp; omega)) (k := j3) (by omega)
  have k2 : Chg [] w w2 := HK1.out.trans hc2 (by simp; exact hC2.le)
  clear hc2 HN3
  have HC2 := Lib.hid hC2
  have HK2 := Lib.hid k2
  clear hC2 k2
  go_wp2_with fail
  refine (dnew_c q hq0 (by omega) w2 HK2.out.size).mono ?_
  rintro e w3 ⟨r, rfl, hA3, hr3, hc3⟩
  have hcr : c ≠ r := by have := HC2.out.lt; omega
  have hC3 := HC2.out.chg hc3 (by simp) (by simp)
  have k3 : Chg [] w w3 := HK2.out.trans hc3 (by simp)
  clear hc3 HC2 HK2 hq
  go_wp2_with fail
  refine (weight_c hC3 k3.size (by omega)).mono ?_
  rintro e w4 ⟨x, rfl, hx, hC4, hc4⟩
  have hA4 := hA3.chg hc4 (by simp; exact hcr.symm) (by simp)
  have k4 : Chg [] w w4 := k3.trans hc4 (by simp; exact hC4.le)
  clear hC3 hA3 hc4 k3
  go_wp2_with fail
  refine (weight_c hC4 k4.size (by omega)).mono ?_
  rintro e w5 ⟨y, rfl, hy, hC5, hc5⟩
  have hA5 := hA4.chg hc5 (by simp; exact hcr.symm) (by simp)
  have k5 : Chg [] w w5 := k4.trans hc5 (by simp; exact hC5.le)
  clear hC4 hA4 hc5 k4
  have bx := qw_bd (q := q) ⟨hq0, by omega⟩ hx
  have b_y := qw_bd (q := q) ⟨hq0, by omega⟩ hy
  have hV5 : DV q 0 [] := DV.nil ⟨hq0, by omega⟩
  go_wp2_with fail
  refine (djoin_c (x := 0) (wt := x) hA5 k5.size (by simp) (by omega) hx (by omega) rfl).mono ?_
  rintro e w6 ⟨rfl, O6, hA6, hO6, hc6⟩
  have hV6 := hV5.join2 (x := 0) (wt := x) (by omega) hx rfl
  have hC6 := hC5.chg hc6 (by simp; exact hcr) (rO_ge hA5)
  have k6 : Chg [] w w6 := k5.trans hc6 (rO_new hA5)
  have hcs6 := nO_of (r := r) (O := []) (by simp; exact hcr) hO6 hC5.lt
  clear hC5 hA5 hc6 k5 hV5
  go_wp2_with fail
  refine (djoin_c (x := 1) (wt := y) hA6 k6.size (by simp) (by omega) hy (by omega) rfl).mono ?_
  rintro e w7 ⟨rfl, O7, hA7, hO7, hc7⟩
  have hV7 := hV6.join2 (x := 1) (wt := y) (by omega) hy rfl
  have hC7 := hC6.chg hc7 hcs6 (rO_ge hA6)
  have k7 : Chg [] w w7 := k6.trans hc7 (rO_new hA6)
  have hcs7 := nO_of hcs6 hO7 hC6.lt
  have hI7 : ShInv q x y 0 0 (([] ++ [(⟨0, x, q * x, 0⟩ : Sd)]) ++ [⟨1, y, q * y, 0⟩]) (0 * (q * x)) (0 * (q * y)) :=
    ⟨⟨0, x, q * x, 0⟩, ⟨1, y, q * y, 0⟩, ⟨rfl, rfl⟩, ⟨rfl, rfl⟩, ⟨by show (-0 : Int) < q * x; omega, Int.le_refl _⟩, ⟨by show (-0 : Int) < q * y; omega, Int.le_refl _⟩, ⟨by simp, by simp⟩, .inl ⟨rfl, rfl, by show q * y - 0 ≤ q * y; omega⟩⟩
  clear hC6 hA6 hc7 k6 hV6 hcs6 hO6 hO7
  have f0 := nx_nonneg zs 3 20
  have f1 := nx_lt zs 3 20 (by omega)
  have HN20 := Lib.hid (next_c (n := 20) hC7 (by omega) (by omega))
  have HA7 := Lib.hid hA7
  have HK7 := Lib.hid k7
  have HV7 := Lib.hid hV7
  have HI7 := Lib.hid hI7
  have HX := Lib.hid hx
  have HY := Lib.hid hy
  have HBX := Lib.hid bx
  have HBY := Lib.hid b_y
  generalize nx zs 3 20 = f at HN20 f0 f1
  obtain ⟨f, rfl⟩ : ∃ j : Nat, f = j := ⟨f.toNat, by omega⟩
  clear hA7 k7 hV7 hI7 hC7 hx hy bx b_y
  go_wp2_with fail
  refine HN20.out.mono ?_
  rintro e w8 ⟨rfl, hC8, hc8⟩
  have HI := Lib.hid (show ShRel w w8 q x y r c zs f 0 0 0 0 0 from ⟨_, _, ⟨O7, _, -1, 4, HA7.out.chg hc8 (by simp; exact hcr.symm) (by simp; intro j hj hjc; subst hjc; exact hcs7 (by simp [hj])), HV7.out, HI7.out, hC8, by omega, hcs7, HK7.out.trans hc8 (by simp; exact hC8.le)⟩, .inl ⟨by omega, rfl, rfl⟩, by omega, by omega, by omega, by omega⟩)
  clear hC8 hc8 HN20
  go_wp2_with fail
  go_loopw [9, 10, 11, 12, 14] (fun va vb vma vmb i wr => ∃ (k : Nat) (a b ma mb : Int), k ≤ 80 ∧ i = .int .i64 k ∧ va = .int .i64 a ∧ vb = .int .i64 b ∧ vma = .int .i64 ma ∧ vmb = .int .i64 mb ∧ ShRel w wr q x y r c zs f k a b ma mb) (fun _ _ _ _ i _ => 80 - (intOf i).toNat)
  case atStart => exact ⟨0, 0, 0, 0, 0, by omega, rfl, rfl, rfl, rfl, rfl, HI.out⟩
  case round =>
    obtain ⟨k, sa, sb, ma, mb, hk, rfl, rfl, rfl, rfl, rfl, Y0, Y1, ⟨O, L, now, p, hA, hV, hI, hC, hp, hcO, hc⟩, hS, ⟨ma0, ma1⟩, ⟨mb0, mb1⟩, ⟨sa0, sa1⟩, ⟨sb0, sb1⟩⟩ := hrel
    clear HI HA7 HK7 HV7 HI7 hcs7
    by_cases hlt : k < 80
    · have hlk : (k : Int) < 80 := by omega
      have HV := Lib.hid hV
      have HI := Lib.hid hI
      have HS := Lib.hid hS
      have n0 := nx_nonneg zs p 8
      have n1 := nx_lt zs p 8 (by omega)
      have HN8 := Lib.hid (next_c (n := 8) hC (by omega) (by omega))
      have HA := Lib.hid hA
      have HC := Lib.hid hc
      generalize nx zs p 8 = v at HN8 n0 n1
      clear hV hI hS hA hC hc
      go_wp2_with fail
      refine HN8.out.mono ?_
      rintro e v1 ⟨rfl, hC1, hc1⟩
      have hA1 := HA.out.chg hc1 (by simp at hcO ⊢; omega) (by intro j hj hjc; simp at hjc; subst hjc; exact hcO (by simp [hj]))
      have k1 : Chg [] w v1 := HC.out.trans hc1 (by simp; exact hC1.le)
      clear hc1 HN8
      go_upto_block 2 with fail
      go_cut [] (fun wx => ShMid w wx q x y r c zs (6294 * (k : Int)) ma mb Y0 Y1 (10 + 9 * k))
      case first =>
        have hp1 : p + 1 ≤ 10 + 9 * k := by omega
        by_cases hv0 : v = 0
        · subst hv0
          have g0 := nx_nonneg zs (p + 1) 2
          have g1 := nx_lt zs (p + 1) 2 (by omega)
          have HNx := Lib.hid (next_c (n := 2) hC1 (by omega) (by omega))
          have HA1 := Lib.hid hA1
          have HK1 := Lib.hid k1
          generalize nx zs (p + 1) 2 = j at HNx g0 g1
          clear hC1 hA1 k1
          go_wp2_with fail
          refine HNx.out.mono ?_
          rintro e v2 ⟨rfl, hC2, hc2⟩
          have hA2 := HA1.out.chg hc2 (by simp at hcO ⊢; omega) (by intro j hj hjc; simp at hjc; subst hjc; exact hcO (by simp [hj]))
          have k2 : Chg [] w v2 := HK1.out.trans hc2 (by simp; exact hC2.le)
          clear hc2 HNx
          go_wp2_with fail
          refine (weight_c hC2 k2.size (by omega)).mono ?_
          rintro e v3 ⟨wt, rfl, hwt, hC3, hc3⟩
          have hA3 := hA2.chg hc3 (by simp at hcO ⊢; omega) (by intro j hj hjc; simp at hjc; subst hjc; exact hcO (by simp [hj]))
          have k3 : Chg [] w v3 := k2.trans hc3 (by simp; exact hC3.le)
          clear hC2 hA2 k2 hc3
          have hll := HV.out.hl
          cases hsd : sid (2 + j) L with
          | some kk =>
            have HJ := Lib.hid (djoin_dup (x := 2 + j) (wt := wt) hA3 (by omega) (by omega) hwt hsd)
            have HA3 := Lib.hid hA3
            have HK3 := Lib.hid k3
            have HC3 := Lib.hid hC3
            clear hA3 k3 hC3 hsd hwt
            go_wp2_with fail
            refine HJ.out.mono ?_
            rintro e v4 ⟨rfl, hc4⟩
            have HM := Lib.hid (show ShMid w v4 q x y r c zs (6294 * (k : Int)) ma mb Y0 Y1 (10 + 9 * k) from ⟨O, L, now, p + 1 + 1 + 1, HA3.out.chg hc4 (by simp) (by simp), HV.out, HI.out, HC3.out.chg hc4 (by simp) (by simp), by omega, hcO, HK3.out.trans hc4 (by simp)⟩)
            clear hc4
            go_wp2_with fail
            go_meet
            exact HM.out
          | none =>
            have HJ := Lib.hid (djoin_c (x := 2 + j) (wt := wt) hA3 k3.size (by omega) (by omega) hwt HV.out.hq hsd)
            have HA3 := Lib.hid hA3
            have HK3 := Lib.hid k3
            have HC3 := Lib.hid hC3
            have HV3 := Lib.hid (HV.out.join2 (x := 2 + j) (by omega) hwt hsd)
            have HI3 := Lib.hid (sh_join (n := ⟨2 + j, wt, q * wt, 0⟩) HI.out (two_hi (v := 2 + j) rfl (by omega)))
            clear hA3 k3 hC3 hsd hwt
            go_wp2_with fail
            refine HJ.out.mono ?_
            rintro e v4 ⟨rfl, O4, hA4, hO4, hc4⟩
            have HM := Lib.hid (show ShMid w v4 q x y r c zs (6294 * (k : Int)) ma mb Y0 Y1 (10 + 9 * k) from ⟨O4, _, -1, p + 1 + 1 + 1, hA4, HV3.out, HI3.out, HC3.out.chg hc4 hcO (rO_ge HA3.out), by omega, nO_of hcO hO4 HC3.out.lt, HK3.out.trans hc4 (rO_new HA3.out)⟩)
            clear hc4 hA4 hO4
            go_wp2_with fail
            go_meet
            exact HM.out
        · have hv0' : (v == 0) = false := by rw [beq_eq_false_iff_ne]; exact hv0
          clear hv0
          by_cases hv1 : v = 1
          · subst hv1
            have g0 := nx_nonneg zs (p + 1) 2
            have g1 := nx_lt zs (p + 1) 2 (by omega)
            have HNx := Lib.hid (next_c (n := 2) hC1 (by omega) (by omega))
            have HA1 := Lib.hid hA1
            have HK1 := Lib.hid k1
            generalize nx zs (p + 1) 2 = j at HNx g0 g1
            clear hC1 hA1 k1
            go_wp2_with fail
            refine HNx.out.mono ?_
            rintro e v2 ⟨rfl, hC2, hc2⟩
            have hA2 := HA1.out.chg hc2 (by simp at hcO ⊢; omega) (by intro j hj hjc; simp at hjc; subst hjc; exact hcO (by simp [hj]))
            have k2 : Chg [] w v2 := HK1.out.trans hc2 (by simp; exact hC2.le)
            clear hc2 HNx
            have hll := HV.out.hl
            cases hsd : sid (2 + j) L with
            | none =>
              have HJ := Lib.hid (dleave_none hA2 (by omega) hsd)
              have HA3 := Lib.hid hA2
              have HK3 := Lib.hid k2
              have HC3 := Lib.hid hC2
              clear hA2 k2 hC2 hsd
              go_wp2_with fail
              refine HJ.out.mono ?_
              rintro e v4 ⟨rfl, hc4⟩
              have HM := Lib.hid (show ShMid w v4 q x y r c zs (6294 * (k : Int)) ma mb Y0 Y1 (10 + 9 * k) from ⟨O, L, now, p + 1 + 1, HA3.out.chg hc4 (by simp) (by simp), HV.out, HI.out, HC3.out.chg hc4 (by simp) (by simp), by omega, hcO, HK3.out.trans hc4 (by simp)⟩)
              clear hc4
              go_wp2_with fail
              go_meet
              exact HM.out
            | some kk =>
              have HJ := Lib.hid (dleave_c hA2 (by omega) hsd)
              have HA3 := Lib.hid hA2
              have HK3 := Lib.hid k2
              have HC3 := Lib.hid hC2
              have HV3 := Lib.hid (HV.out.erase kk)
              have HI3 := Lib.hid (sh_leave HI.out (sid_spec hsd).1 (two_hi (sid_spec hsd).2 (by omega)))
              clear hA2 k2 hC2 hsd
              go_wp2_with fail
              refine HJ.out.mono ?_
              rintro e v4 ⟨rfl, hA4, hc4⟩
              have HM := Lib.hid (show ShMid w v4 q x y r c zs (6294 * (k : Int)) ma mb Y0 Y1 (10 + 9 * k) from ⟨O, _, -1, p + 1 + 1, hA4, HV3.out, HI3.out, HC3.out.chg hc4 hcO (rO_ge HA3.out), by omega, hcO, HK3.out.trans hc4 (rO_new HA3.out)⟩)
              clear hc4 hA4
              go_wp2_with fail
              go_meet
              exact HM.out
          · have hv1' : (v == 1) = false := by rw [beq_eq_false_iff_ne]; exact hv1
            clear hv1
            have HM := Lib.hid (show ShMid w v1 q x y r c zs (6294 * (k : Int)) ma mb Y0 Y1 (10 + 9 * k) from ⟨O, L, now, p + 1, hA1, HV.out, HI.out, hC1, by omega, hcO, k1⟩)
            clear hA1 hC1 k1
            go_wp2_with fail
            go_meet
            exact HM.out
      case rest =>
        clear hA1 hC1 k1 HA HV HC hcO hp
        obtain ⟨O, L, now, p, hA, hV, hI, hC, hp, hcO, hc⟩ := hcut
        have HV := Lib.hid hV
        have HI := Lib.hid hI
        have HA := Lib.hid hA
        have HO := Lib.hid (World.ownsRow_lit (base := wc.heap.size) (e := 3) (size := 1) wc #[.int .i64 0, .int .i64 1] 2 (Nat.le_refl _) (by unfold maxLen; omega) (by simp))
        clear hV hI hA
        go_wp2_with fail
        have hz := hc.size
        have hcl := hC.lt
        have HR := Lib.hid (show RdyRel w wc (wc.alloc (.cells #[.int .i64 0, .int .i64 1] 3)) c zs p 2 (.slice (some ⟨wc.heap.size, 0, none⟩) 2 2) from
          ⟨_, _, [0, 1], p, rfl, HO.out, rfl, by simp, by simp, by intro x hx; simp at hx; omega, by simp, hC.chg ((Chg.refl [] wc).alloc _) (by simp) (by simp), by omega, (Chg.refl _ _).alloc _⟩)
        have HCC := Lib.hid hc
        clear hC hc HO
        go_loopw [15, 16] (fun v i wr => ∃ m : Nat, 2 ≤ m ∧ m ≤ 4 ∧ i = .int .i64 m ∧ RdyRel w wc wr c zs p m v) (fun _ i _ => 4 - (intOf i).toNat)
        case atStart => exact ⟨2, by omega, by omega, rfl, HR.out⟩
        case round =>
          clear HR
          obtain ⟨m, hm0, hm1, rfl, A, d, rd, p', rfl, hown, hok, h0, h1, hlm, hlen, hC, hp', hc⟩ := hrel
          by_cases hm : m < 4
          · have hm' : (m : Int) < 4 := by omega
            have g0 := nx_nonneg zs p' 2
            have g1 := nx_lt zs p' 2 (by omega)
            have HN2 := Lib.hid (next_c (n := 2) hC (by omega) (by omega))
            have HOK := Lib.hid hok
            have HOW := Lib.hid hown
            have HH := Lib.hid (And.intro h0 (And.intro h1 hlm))
            have HC := Lib.hid hc
            generalize nx zs p' 2 = j at HN2 g0 g1
            clear hC hown hok h0 h1 hlm hc
            go_wp2_with fail
            refine HN2.out.mono ?_
            rintro e v2 ⟨rfl, hC2, hc2⟩
            have ho2 := own_chg HOW.out hc2 (fun g hg => by have := (HOW.out.lt g hg).1; simp; omega)
            have k2 : Chg [c] wc v2 := HC.out.trans hc2 (by simp)
            clear hc2 HN2 HOW
            by_cases hj : j = 0
            · subst hj
              have HC2 := Lib.hid hC2
              have HK2 := Lib.hid k2
              have hz2 := k2.size
              have HL := Lib.hid (rdOK_snoc HOK.out HH.out.2.2 (show (-1 : Int) < (m : Int) by omega) (by omega))
              have hone : ∀ u ∈ ([.int .i64 (m : Int)] : List Value), u.oneCell' = true := by intro u hu; simp at hu; subst hu; rfl
              clear hC2 k2
              go_wp2_with (at_builtin; refine list_app (P := Try.prog) (t := 22) Try.underlying22 int_info rfl (by omega) (.tmp 83) (.tmp 85) wc.heap.size (n := rd.length) (m := 1) (N := rd.length + 1) rfl (by omega) hone (by omega) (own_chg ho2 ((Chg.refl [] v2).alloc _) (by simp)) (reads_lit1 v2 3 (.int .i64 (m : Int))) (by simp; omega) (by rfl) (by rfl) (by rfl) (by rfl) ?_; intro A2 d2 W2 hown2 hgrow2 hat2)
              have hlt2 := ho2.lt
              have kW : Chg [] v2 (v2.alloc (.cells #[.int .i64 (m : Int)] 3)) := (Chg.refl [] v2).alloc _
              have kG : Chg (ownL (.slice A rd.length d)) v2 W2 := (kW.mono (S' := ownL (.slice A rd.length d)) (by simp)).grown hgrow2 (fun g hg => .inl (mem_ownL.2 hg))
              have HR := Lib.hid (show RdyRel w wc W2 c zs p (m + 1) (.slice A2 (rd.length + 1) d2) from ⟨A2, d2, rd ++ [(m : Int)], p' + 1, by simp, by simpa using hown2, HL.out, by simp [HH.out.1], by simp [HH.out.2.1], lt_snoc HH.out.2.2, by simp; omega, HC2.out.chg kG (fun hm => by have := (hlt2 c (mem_ownL.1 hm)).1; omega) (fun j hj => by have := (hlt2 j (mem_ownL.1 hj)).1; omega), by omega, HK2.out.trans kG (fun j hj => .inr (hlt2 j (mem_ownL.1 hj)).1)⟩)
              clear hown2 hgrow2 hat2 kG kW hlt2 ho2
              go_roundw
              case rel => exact ⟨m + 1, by omega, by omega, by go_num, HR.out⟩
              case measure => simp [intOf]; omega
            · have hj' : (j == 0) = false := by rw [beq_eq_false_iff_ne]; exact hj
              have HR := Lib.hid (show RdyRel w wc v2 c zs p (m + 1) (.slice A rd.length d) from ⟨A, d, rd, p' + 1, rfl, ho2, HOK.out, HH.out.1, HH.out.2.1, fun x hx => by have := HH.out.2.2 x hx; omega, by omega, hC2, by omega, k2⟩)
              clear hj ho2 hC2 k2
              go_wp2_with fail
              go_roundw
              case rel => exact ⟨m + 1, by omega, by omega, by go_num, HR.out⟩
              case measure => simp [intOf]; omega
          · have hm' : (4 : Int) ≤ (m : Int) := by omega
            obtain ⟨g, hg, hR⟩ := own_rd hown (by omega)
            have hcO' := hcO
            simp at hcO'
            have hA9 := HA.out.chg hc (by simp; omega) (by intro j hj hjc; simp at hjc; subst hjc; exact hcO (by simp [hj]))
            have k9 := HCC.out.trans hc (by simp; exact hC.le)
            have hz9 := k9.size
            have hrl := HA.out.lt
            have HN := Lib.hid (dnext_c (n := rd.length) (d := d) hA9 HV.out hz9 rfl hR ⟨by omega, fun hj => by have := (HA.out.BO g hj).2; omega⟩ hok (any_sid h0 (sh_mem HI.out).1))
            have HC9 := Lib.hid hC
            have HK9 := Lib.hid k9
            have HA9 := Lib.hid hA9
            have H01 := Lib.hid (And.intro h0 h1)
            clear hown hok h0 h1 hlm hC hc hR hA9 k9 HA HCC hcO'
            go_wp2_with fail
            refine HN.out.mono ?_
            rintro e v1 ⟨s, R, O1, rfl, hN, hA1, hO1, hc1⟩
            have HV1 := Lib.hid (HV.out.next hN)
            have HI1 := Lib.hid (sh_next (by have h1 := HBX.out; have h2 := HBY.out; omega) H01.out.1 H01.out.2 hN HI.out)
            obtain ⟨_, _, he, hel⟩ := hN.head
            injection he with he1 he2
            subst he1
            have hd0 : 0 < s.d := hel.1
            have hC1 := HC9.out.chg hc1 hcO (rO_ge HA9.out)
            have k1 := HK9.out.trans hc1 (rO_new HA9.out)
            have HCS := Lib.hid (nO_of hcO hO1 HC9.out.lt)
            have hsi : s.i ≠ -1 := by have := HV1.out.id0 s (by simp); omega
            obtain ⟨si, sw, sd, st⟩ := s
            simp only at hd0 hsi
            have e0 := nx_nonneg zs p' 8
            have e1 := nx_lt zs p' 8 (by omega)
            have e2 := nx_nonneg zs (p' + 1) 900
            have e3 := nx_lt zs (p' + 1) 900 (by omega)
            have HN8 := Lib.hid (next_c (n := 8) hC1 (by omega) (by omega))
            have HN9 := Lib.hid (fun (W : World) (h : Cho W w.heap.size c zs (p' + 1)) => next_c (n := 900) h (by omega) (by omega))
            have HSC := Lib.hid (fun (a : Int) (h1 : 1 ≤ a ∧ a ≤ 1048576) (W : World) (k : Chg [c] v1 W) => dcharge_c (a := a) (k := 0) (hA1.chg k (by have := HCS.out; simp at this ⊢; omega) (by intro j hj hjc; simp at hjc; subst hjc; exact HCS.out (by simp [hj]))) HV1.out.id0 hsi (sid_head (s := ⟨si, sw, sd, st⟩) R) h1 HV1.out.bd)
            have HA1 := Lib.hid hA1
            have HK1 := Lib.hid k1
            generalize nx zs p' 8 = u8 at HN8 e0 e1
            generalize nx zs (p' + 1) 900 = u9 at HN9 e2 e3
            have t0 : 0 ≤ u8 * u9 := Int.mul_nonneg e0 e2
            have t1 : u8 * u9 ≤ 7 * 899 := Int.le_trans (Int.mul_le_mul_of_nonneg_right (show u8 ≤ 7 by omega) e2) (Int.mul_le_mul_of_nonneg_left (show u9 ≤ 899 by omega) (by omega))
            have hw8 : IntKind.i64.wrap (u8 * u9) = u8 * u9 := by rw [IntKind.wrap_i64]; omega
            clear hN hA1 hO1 hc1 he2 hel hC1 k1 HC9 HK9 HA9 HN
            go_wp2_with fail
            refine HN8.out.mono ?_
            rintro e v2 ⟨rfl, hC2, hc2⟩
            have HC2 := Lib.hid hc2
            go_wp2_with fail
            refine (HN9.out _ hC2).mono ?_
            rintro e v3 ⟨rfl, hC3, hc3⟩
            have HC3 := Lib.hid (HC2.out.trans hc3 (by simp))
            have HCh3 := Lib.hid hC3
            clear hC2 hc2 hC3 hc3 HN8 HN9 HC2
            go_wp2_with fail
            refine (HSC.out (1 + u8 * u9) (by omega) v3 HC3.out).mono ?_
            rintro e v4 ⟨rfl, hA4, hc4⟩
            have HC4 := Lib.hid (HCh3.out.chg hc4 HCS.out (rO_ge HA1.out))
            have HK4 := Lib.hid ((HK1.out.trans HC3.out (by simp; exact HCh3.out.le)).trans hc4 (rO_new HA1.out))
            have HV4 := Lib.hid (HV1.out.charge (a := 1 + u8 * u9) hd0 (by omega) (by omega) (by omega))
            have HI4 := Lib.hid (sh_charge (t := 1 + u8 * u9) hd0 (by omega) HI1.out)
            have HA4 := Lib.hid hA4
            clear hA4 hc4 HCh3 HC3 HSC
            generalize u8 * u9 = uu at t0 t1 HV4 HI4 HA4
            clear hw8
            have HF := Lib.hid (fun (ma' mb' sa' sb' : Int) => sh_round (ma' := ma') (mb' := mb') (sa' := sa') (sb' := sb') HX.out.1 HY.out.1 HI.out HS.out ⟨ma0, ma1⟩ ⟨mb0, mb1⟩ ⟨sa0, sa1⟩ ⟨sb0, sb1⟩ (t := 1 + uu) (by omega) hlt HA4.out HV4.out HI4.out HC4.out (by omega) HCS.out HK4.out)
            clear HI4 HV4 HA4 HC4 HK4 HV1 HI1 HCS HA1 HK1 hd0 hsi HI HV HS HX HY HBX HBY H01 e0 e1 e2 e3 hg hm hm' hm0 hm1 hlen hp' hcO hp hz9 hrl hz hcl n0 n1 f0 f1 m0 m1 hz1 hcl1
            by_cases c0 : si = 0
            · subst c0
              by_cases hf : f ≤ k
              · have hf' : (f : Int) ≤ (k : Int) := by omega
                go_wp2_with fail
                go_roundw
                case rel =>
                  refine ⟨k + 1, _, _, _, _, by omega, by go_num, rfl, rfl, rfl, rfl, ?_⟩
                  refine HF.out _ _ _ _ ?_ ?_ ?_ ?_
                  · rw [if_pos trivial]; split <;> omega
                  · rw [if_neg (by omega)]
                  · rw [if_pos ⟨hf, trivial⟩]
                  · rw [if_neg (by omega)]
                case measure => simp [intOf]; omega
              · have hf' : (k : Int) < (f : Int) := by omega
                go_wp2_with fail
                go_roundw
                case rel =>
                  refine ⟨k + 1, _, _, _, _, by omega, by go_num, rfl, rfl, rfl, rfl, ?_⟩
                  refine HF.out _ _ _ _ ?_ ?_ ?_ ?_
                  · rw [if_pos trivial]; split <;> omega
                  · rw [if_neg (by omega)]
                  · rw [if_neg (by omega)]
                  · rw [if_neg (by omega)]
                case measure => simp [intOf]; omega
            · have c0' : (si == 0) = false := by rw [beq_eq_false_iff_ne]; exact c0
              by_cases c1 : si = 1
              · subst c1
                by_cases hf : f ≤ k
                · have hf' : (f : Int) ≤ (k : Int) := by omega
                  go_wp2_with fail
                  go_roundw
                  case rel =>
                    refine ⟨k + 1, _, _, _, _, by omega, by go_num, rfl, rfl, rfl, rfl, ?_⟩
                    refine HF.out _ _ _ _ ?_ ?_ ?_ ?_
                    · rw [if_neg (by omega)]
                    · rw [if_pos trivial]; split <;> omega
                    · rw [if_neg (by omega)]
                    · rw [if_pos ⟨hf, trivial⟩]
                  case measure => simp [intOf]; omega
                · have hf' : (k : Int) < (f : Int) := by omega
                  go_wp2_with fail
                  go_roundw
                  case rel =>
                    refine ⟨k + 1, _, _, _, _, by omega, by go_num, rfl, rfl, rfl, rfl, ?_⟩
                    refine HF.out _ _ _ _ ?_ ?_ ?_ ?_
                    · rw [if_neg (by omega)]
                    · rw [if_pos trivial]; split <;> omega
                    · rw [if_neg (by omega)]
                    · rw [if_neg (by omega)]
                  case measure => simp [intOf]; omega
              · have c1' : (si == 1) = false := by rw [beq_eq_false_iff_ne]; exact c1
                by_cases hf : f ≤ k
                · have hf' : (f : Int) ≤ (k : Int) := by omega
                  go_wp2_with fail
                  go_roundw
                  case rel =>
                    refine ⟨k + 1, _, _, _, _, by omega, by go_num, rfl, rfl, rfl, rfl, ?_⟩
                    refine HF.out _ _ _ _ ?_ ?_ ?_ ?_
                    · rw [if_neg (by omega)]
                    · rw [if_neg (by omega)]
                    · rw [if_neg (by omega)]
                    · rw [if_neg (by omega)]
                  case measure => simp [intOf]; omega
                · have hf' : (k : Int) < (f : Int) := by omega
                  go_wp2_with fail
                  go_roundw
                  case rel =>
                    refine ⟨k + 1, _, _, _, _, by omega, by go_num, rfl, rfl, rfl, rfl, ?_⟩
                    refine HF.out _ _ _ _ ?_ ?_ ?_ ?_
                    · rw [if_neg (by omega)]
                    · rw [if_neg (by omega)]
                    · rw [if_neg (by omega)]
                    · rw [if_neg (by omega)]
                  case measure => simp [intOf]; omega
    · have hk80 : k = 80 := by omega
      have hk80' : (80 : Int) ≤ (k : Int) := by omega
      have hx := HX.out
      have hy := HY.out
      have bx := HBX.out
      have b_y := HBY.out
      have a0 : 0 ≤ sa * y ∧ sa * y ≤ 503520 * 16 := ⟨Int.mul_nonneg sa0 (by omega), Int.le_trans (Int.mul_le_mul_of_nonneg_right (show sa ≤ 503520 by omega) (by omega)) (Int.mul_le_mul_of_nonneg_left hy.2 (by omega))⟩
      have a1 : 0 ≤ sb * x ∧ sb * x ≤ 503520 * 16 := ⟨Int.mul_nonneg sb0 (by omega), Int.le_trans (Int.mul_le_mul_of_nonneg_right (show sb ≤ 503520 by omega) (by omega)) (Int.mul_le_mul_of_nonneg_left hx.2 (by omega))⟩
      have a2 : 0 ≤ ma * y ∧ ma * y ≤ 6294 * 16 := ⟨Int.mul_nonneg ma0 (by omega), Int.le_trans (Int.mul_le_mul_of_nonneg_right ma1 (by omega)) (Int.mul_le_mul_of_nonneg_left hy.2 (by omega))⟩
      have a3 : 0 ≤ mb * x ∧ mb * x ≤ 6294 * 16 := ⟨Int.mul_nonneg mb0 (by omega), Int.le_trans (Int.mul_le_mul_of_nonneg_right mb1 (by omega)) (Int.mul_le_mul_of_nonneg_left hx.2 (by omega))⟩
      have a4 : 0 ≤ 2 * q * x ∧ 2 * q * x ≤ 160000 := by rw [Int.mul_assoc]; have h2 : q * x ≤ 5000 * 16 := Int.le_trans (Int.mul_le_mul_of_nonneg_right hq1 (by omega)) (Int.mul_le_mul_of_nonneg_left hx.2 (by omega)); omega
      have a5 : 0 ≤ 2 * q * x * y ∧ 2 * q * x * y ≤ 160000 * 16 := ⟨Int.mul_nonneg a4.1 (by omega), Int.le_trans (Int.mul_le_mul_of_nonneg_right a4.2 (by omega)) (Int.mul_le_mul_of_nonneg_left hy.2 (by omega))⟩
      obtain ⟨f1', f2'⟩ := sh_final hx.1 hy.1 (Int.mul_nonneg (by omega) (by omega)) a2.1 a3.1 hI hS (by omega)
      have HK := Lib.hid hc
      obtain ⟨a00, a01⟩ := a0
      obtain ⟨a10, a11⟩ := a1
      obtain ⟨a20, a21⟩ := a2
      obtain ⟨a30, a31⟩ := a3
      obtain ⟨a40, a41⟩ := a4
      obtain ⟨a50, a51⟩ := a5
      clear hA hV hI hS hC hc hk80 hx hy bx b_y
      by_cases hneg : sa * y - sb * x < -(sa * y - sb * x)
      · have hle : -(sa * y - sb * x) ≤ 2 * q * x * y + ma * y + mb * x := f2'
        go_wp2_with fail
        refine (dawake_c _).mono ?_
        rintro e v1 ⟨rfl, kc⟩
        go_wp2_with fail
        go_ret
        exact ⟨rfl, (HK.out.trans kc (by simp)).below (Nat.le_refl _) (by simp)⟩
      · have hle : sa * y - sb * x ≤ 2 * q * x * y + ma * y + mb * x := f1'
        go_wp2_with fail
        refine (dawake_c _).mono ?_
        rintro e v1 ⟨rfl, kc⟩
        go_wp2_with fail
        go_ret
        exact ⟨rfl, (HK.out.trans kc (by simp)).below (Nat.le_refl _) (by simp)⟩

end Go.Proofs.Ytmbmejobffpaoaa
