/- The walk of the statement DeficitTurns. -/
import Derived.Test.YtmbmejobffpaoaaDk
namespace Go.Proofs.Ytmbmejobffpaoaa
open Go.RowKit
set_option linter.unusedVariables false
set_option linter.unusedSimpArgs false

/-- The stations of three stand in one of three rotations, with their turns. -/
def TuInv (w0 w1 w2 : Int) (L : List Sd) : Prop := ∃ s0 s1 s2 : Sd, (s0.i = 0 ∧ s1.i = 1 ∧ s2.i = 2) ∧ (s0.w = w0 ∧ s1.w = w1 ∧ s2.w = w2) ∧
  ((L = [s0, s1, s2] ∧ s0.t = s1.t ∧ s1.t = s2.t) ∨ (L = [s1, s2, s0] ∧ s0.t = s1.t + 1 ∧ s1.t = s2.t) ∨ (L = [s2, s0, s1] ∧ s0.t = s1.t ∧ s1.t = s2.t + 1))

theorem rot_t {q : Int} {s : Sd} (h : s.d ≤ 0) : (rot q s).t = s.t + 1 := by unfold rot; rw [if_pos h]
theorem tu_step {q w0 w1 w2 : Int} {s : Sd} {r : List Sd} (h : TuInv w0 w1 w2 (s :: r)) (hn : ¬ elig [0, 1, 2] s) : TuInv w0 w1 w2 (r ++ [rot q s]) := by
  have hd : s.i = 0 ∨ s.i = 1 ∨ s.i = 2 → s.d ≤ 0 := fun hi => Int.not_lt.1 fun h0 => hn ⟨h0, by rcases hi with h | h | h <;> simp [h]⟩
  obtain ⟨s0, s1, s2, ⟨i0, i1, i2⟩, ⟨a0, a1, a2⟩, h | h | h⟩ := h
  all_goals
    obtain ⟨he, t1, t2⟩ := h
    injection he with he1 he2
    subst he1
    subst he2
  · have ht := rot_t (q := q) (hd (.inl i0))
    exact ⟨rot q s, s1, s2, ⟨by rw [rot_i]; exact i0, i1, i2⟩, ⟨by rw [rot_w]; exact a0, a1, a2⟩, .inr (.inl ⟨rfl, by rw [ht]; omega, t2⟩)⟩
  · have ht := rot_t (q := q) (hd (.inr (.inl i1)))
    exact ⟨s0, rot q s, s2, ⟨i0, by rw [rot_i]; exact i1, i2⟩, ⟨a0, by rw [rot_w]; exact a1, a2⟩, .inr (.inr ⟨rfl, by rw [ht]; omega, by rw [ht]; omega⟩)⟩
  · have ht := rot_t (q := q) (hd (.inr (.inr i2)))
    exact ⟨s0, s1, rot q s, ⟨i0, i1, by rw [rot_i]; exact i2⟩, ⟨a0, a1, by rw [rot_w]; exact a2⟩, .inl ⟨rfl, t1, by rw [ht]; omega⟩⟩
theorem tu_next {q w0 w1 w2 : Int} {L L' : List Sd} (h : Nxt q [0, 1, 2] L L') (hI : TuInv w0 w1 w2 L) : TuInv w0 w1 w2 L' :=
  h.inv (P := TuInv w0 w1 w2) (fun s r hP hn => tu_step hP hn) hI
theorem tu_charge {a w0 w1 w2 : Int} {s : Sd} {r : List Sd} (h : TuInv w0 w1 w2 (s :: r)) : TuInv w0 w1 w2 (chA a (s :: r) 0) := by
  rw [chA_head]
  obtain ⟨s0, s1, s2, ⟨i0, i1, i2⟩, ⟨a0, a1, a2⟩, h | h | h⟩ := h
  all_goals
    obtain ⟨he, t1, t2⟩ := h
    injection he with he1 he2
    subst he1
    subst he2
  · exact ⟨⟨s.i, s.w, s.d - a, s.t⟩, s1, s2, ⟨i0, i1, i2⟩, ⟨a0, a1, a2⟩, .inl ⟨rfl, t1, t2⟩⟩
  · exact ⟨s0, ⟨s.i, s.w, s.d - a, s.t⟩, s2, ⟨i0, i1, i2⟩, ⟨a0, a1, a2⟩, .inr (.inl ⟨rfl, t1, t2⟩)⟩
  · exact ⟨s0, s1, ⟨s.i, s.w, s.d - a, s.t⟩, ⟨i0, i1, i2⟩, ⟨a0, a1, a2⟩, .inr (.inr ⟨rfl, t1, t2⟩)⟩
theorem tu_perm {w0 w1 w2 : Int} {L : List Sd} (h : TuInv w0 w1 w2 L) : (ids L).Perm [0, 1, 2] := by
  obtain ⟨s0, s1, s2, ⟨i0, i1, i2⟩, _, h | h | h⟩ := h
  all_goals
    obtain ⟨rfl, _⟩ := h
    simp only [ids, List.map_cons, List.map_nil, i0, i1, i2]
    decide

def wAt (w0 w1 w2 : Int) (k : Nat) : Int := match k with
  | 0 => w0
  | 1 => w1
  | _ => w2

theorem tu_get {q K w0 w1 w2 : Int} {L : List Sd} (h : TuInv w0 w1 w2 L) (hv : DV q K L) {k : Nat} (hk : k < 3) :
    (sid (k : Int) L).isSome = true ∧ dfD k L ≤ q * wAt w0 w1 w2 k ∧ -1048576 < dfD k L ∧ -1 ≤ dfT k L - dfT 0 L ∧ dfT k L - dfT 0 L ≤ 1 ∧ 0 ≤ dfT k L ∧ dfT k L ≤ K ∧ 0 ≤ dfT 0 L ∧ dfT 0 L ≤ K := by
  have hb : ∀ s ∈ L, s.d ≤ q * s.w ∧ -1048576 < s.d ∧ 0 ≤ s.t ∧ s.t ≤ K := fun s hs => ⟨(hv.ok s hs).2.2.1.2, (hv.ok s hs).2.2.1.1, (hv.ok s hs).2.2.2.1, (hv.ok s hs).t_le hv.hq⟩
  have hk3 : k = 0 ∨ k = 1 ∨ k = 2 := by omega
  obtain ⟨s0, s1, s2, ⟨i0, i1, i2⟩, ⟨a0, a1, a2⟩, h | h | h⟩ := h
  all_goals
    obtain ⟨rfl, t1, t2⟩ := h
    have b0 := hb s0 (by simp)
    have b1 := hb s1 (by simp)
    have b2 := hb s2 (by simp)
    rw [a0] at b0
    rw [a1] at b1
    rw [a2] at b2
    rcases hk3 with rfl | rfl | rfl
    all_goals
      simp [dfD, dfT, sid, wAt, i0, i1, i2]
      omega

/-- The stations that have joined. -/
def jnL (q w0 w1 w2 : Int) : Nat → List Sd
  | 0 => []
  | k + 1 => jnL q w0 w1 w2 k ++ [⟨k, wAt w0 w1 w2 k, q * wAt w0 w1 w2 k, 0⟩]
theorem jnL_len (q w0 w1 w2 : Int) : ∀ k, (jnL q w0 w1 w2 k).length = k
  | 0 => rfl
  | k + 1 => by rw [jnL, List.length_append, jnL_len q w0 w1 w2 k]; rfl
theorem jnL_ids (q w0 w1 w2 : Int) : ∀ k, ids (jnL q w0 w1 w2 k) = upto k
  | 0 => rfl
  | k + 1 => by rw [jnL, upto_succ, ← jnL_ids q w0 w1 w2 k]; simp [ids]
theorem jnL_tu (q w0 w1 w2 : Int) : TuInv w0 w1 w2 (jnL q w0 w1 w2 3) := ⟨⟨0, w0, q * w0, 0⟩, ⟨1, w1, q * w1, 0⟩, ⟨2, w2, q * w2, 0⟩, ⟨rfl, rfl, rfl⟩, ⟨rfl, rfl, rfl⟩, .inl ⟨rfl, rfl, rfl⟩⟩

theorem w_cell {w : World} {g k : Nat} {t : TypeId} {w0 w1 w2 : Int} (h : Blk w g t #[.int .i64 w0, .int .i64 w1, .int .i64 w2]) (hk : k < 3) : w.cell? ⟨g, k, none⟩ = some (.int .i64 (wAt w0 w1 w2 k)) := by
  rw [h.cell]
  have : k = 0 ∨ k = 1 ∨ k = 2 := by omega
  rcases this with rfl | rfl | rfl <;> rfl
theorem wAt_bd {w0 w1 w2 : Int} (h0 : 1 ≤ w0 ∧ w0 ≤ 16) (h1 : 1 ≤ w1 ∧ w1 ≤ 16) (h2 : 1 ≤ w2 ∧ w2 ≤ 16) (k : Nat) : 1 ≤ wAt w0 w1 w2 k ∧ wAt w0 w1 w2 k ≤ 16 := by
  unfold wAt
  split
  · exact h0
  · exact h1
  · exact h2

/-- What stands while the stations join. -/
def TjRel (w wr : World) (w0 w1 w2 : Int) (r c gw : Nat) (zs : List Int) (k : Nat) : Prop := ∃ O, DA wr w.heap.size r O 256 (jnL 256 w0 w1 w2 k) (-1) ∧ DV 256 0 (jnL 256 w0 w1 w2 k) ∧ Cho wr w.heap.size c zs 3 ∧
  Blk wr gw 3 #[.int .i64 w0, .int .i64 w1, .int .i64 w2] ∧ c ∉ r :: O ∧ gw ∉ r :: O ∧ c ≠ gw ∧ w.heap.size ≤ gw ∧ Chg [] w wr
/-- What stands at the head of DeficitTurns' rounds. -/
def TuRel (w wr : World) (w0 w1 w2 : Int) (r c gw : Nat) (zs : List Int) (k : Nat) : Prop := ∃ O L now p, DA wr w.heap.size r O 256 L now ∧ DV 256 (3000 * (k : Int)) L ∧ TuInv w0 w1 w2 L ∧ Cho wr w.heap.size c zs p ∧ p ≤ 3 + k ∧
  Blk wr gw 3 #[.int .i64 w0, .int .i64 w1, .int .i64 w2] ∧ c ∉ r :: O ∧ gw ∉ r :: O ∧ c ≠ gw ∧ w.heap.size ≤ gw ∧ Chg [] w wr

set_option maxRecDepth 100000 in
set_option maxHeartbeats 8000000 in
theorem deficitTurns_walk {w : World} {a : Option Addr} {len cap : Nat} {zs : List Int} (hz : zs.length = len) (hl : len ≤ 9223372036854775807) (hi : Inp w w.heap.size a zs) :
    Calls Try.prog 3 #[.slice a len cap] w fun e w' => e = .returned (.bool true) ∧ Below w.heap.size w w' := by
  have hgn := gnew_c (cap := cap) hz hl hi
  clear hz hi
  go_enter Try.func3, Try.ntmps3
  go_wp2_with fail
  refine hgn.mono ?_
  rintro e w1 ⟨c, rfl, hC1, hc1⟩
  have hz1 := hc1.size
  go_wp2_with fail
  refine (dnew_c 256 (by omega) (by omega) w1 hz1).mono ?_
  rintro e w2 ⟨r, rfl, hA2, hr2, hc2⟩
  have hcl1 := hC1.lt
  have hcr : c ≠ r := by omega
  have hC2 := hC1.chg hc2 (by simp) (by simp)
  have k2 : Chg [] w w2 := hc1.trans hc2 (by simp)
  clear hC1 hc1 hc2 hgn
  go_wp2_with fail
  refine (weight_c hC2 k2.size (by omega)).mono ?_
  rintro e w3 ⟨x0, rfl, hx0, hC3, hc3⟩
  have hA3 := hA2.chg hc3 (by simp; exact hcr.symm) (by simp)
  have k3 : Chg [] w w3 := k2.trans hc3 (by simp; exact hC3.le)
  clear hC2 hA2 hc3 k2
  go_wp2_with fail
  refine (weight_c hC3 k3.size (by omega)).mono ?_
  rintro e w4 ⟨x1, rfl, hx1, hC4, hc4⟩
  have hA4 := hA3.chg hc4 (by simp; exact hcr.symm) (by simp)
  have k4 : Chg [] w w4 := k3.trans hc4 (by simp; exact hC4.le)
  clear hC3 hA3 hc4 k3
  go_wp2_with fail
  refine (weight_c hC4 k4.size (by omega)).mono ?_
  rintro e w5 ⟨x2, rfl, hx2, hC5, hc5⟩
  have hA5 := hA4.chg hc5 (by simp; exact hcr.symm) (by simp)
  have k5 : Chg [] w w5 := k4.trans hc5 (by simp; exact hC5.le)
  clear hC4 hA4 hc5 k4
  have hwb := wAt_bd hx0 hx1 hx2
  have HWB := Lib.hid hwb
  have kl5 : Chg [] w5 (w5.alloc (.cells #[.int .i64 x0, .int .i64 x1, .int .i64 x2] 3)) := (Chg.refl [] w5).alloc _
  have HI := Lib.hid (show TjRel w (w5.alloc (.cells #[.int .i64 x0, .int .i64 x1, .int .i64 x2] 3)) x0 x1 x2 r c w5.heap.size zs 0 from
    ⟨[], hA5.chg kl5 (by simp) (by simp), DV.nil (by omega), hC5.chg kl5 (by simp) (by simp), Blk.new _ _ _, by simp; exact hcr, by have := hA5.lt; simp; omega, by have := hC5.lt; omega, k5.size, k5.trans kl5 (by simp)⟩)
  have hz5 := k5.size
  clear hA5 hC5 k5 kl5 hwb hx0 hx1 hx2
  go_wp2_with fail
  go_loopw [7] (fun i wr => ∃ k : Nat, k ≤ 3 ∧ i = .int .i64 k ∧ TjRel w wr x0 x1 x2 r c w5.heap.size zs k) (fun i _ => 3 - (intOf i).toNat)
  case atStart => exact ⟨0, by omega, rfl, HI.out⟩
  case round =>
    obtain ⟨k, hk, rfl, O, hA, hV, hC, hB, hcO, hgO, hcg, hgw, hc⟩ := hrel
    clear HI
    by_cases hlt : k < 3
    · have hcell := w_cell hB hlt
      obtain ⟨b0, b1⟩ := HWB.out k
      have HL := Lib.hid (jnL_len 256 x0 x1 x2 k)
      have HJ := Lib.hid (djoin_c (x := k) (wt := wAt x0 x1 x2 k) hA hc.size (by rw [HL.out]; omega) (by omega) ⟨b0, b1⟩ (by omega) (sid_upto (jnL_ids 256 x0 x1 x2 k)))
      have HV := Lib.hid (hV.join (x := k) (by omega) ⟨b0, b1⟩ (sid_upto (jnL_ids 256 x0 x1 x2 k)) (by rw [HL.out]; omega))
      rw [show jnL 256 x0 x1 x2 k ++ [⟨(k : Int), wAt x0 x1 x2 k, 256 * wAt x0 x1 x2 k, 0⟩] = jnL 256 x0 x1 x2 (k + 1) from rfl] at HV HJ
      have HA := Lib.hid hA
      have HC := Lib.hid hC
      have HB := Lib.hid hB
      have HK := Lib.hid hc
      generalize wAt x0 x1 x2 k = v at hcell b0 b1 HJ
      have hk0 : (0 : Int) ≤ (k : Int) := by omega
      have hk3 : (k : Int) < 3 := by omega
      clear hA hV hC hB hc
      go_wp2_with fail
      refine HJ.out.mono ?_
      rintro e v1 ⟨rfl, O2, hA2, hO2, kc⟩
      have HR := Lib.hid (show TjRel w v1 x0 x1 x2 r c w5.heap.size zs (k + 1) from ⟨O2, hA2, HV.out, HC.out.chg kc hcO (rO_ge HA.out), HB.out.chg kc hgO, nO_of hcO hO2 HC.out.lt, nO_of hgO hO2 HB.out.lt, hcg, hgw, HK.out.trans kc (rO_new HA.out)⟩)
      clear hA2 hO2 kc
      go_wp2_with fail
      go_roundw
      case rel => exact ⟨k + 1, by omega, by go_num, HR.out⟩
      case measure => simp [intOf]; omega
    · have HI2 := Lib.hid (show TuRel w wr x0 x1 x2 r c w5.heap.size zs 0 from by
        obtain rfl : k = 3 := by omega
        exact ⟨O, _, -1, 3, hA, hV, jnL_tu 256 x0 x1 x2, hC, by omega, hB, hcO, hgO, hcg, hgw, hc⟩)
      have hk4 : (3 : Int) ≤ (k : Int) := by omega
      clear hA hV hB hC hc hk hlt
      generalize hkk : (k : Int) = k4 at hk4
      clear hkk
      go_wp2_with fail
      go_loopw [8] (fun i wr => ∃ k : Nat, k ≤ 60 ∧ i = .int .i64 k ∧ TuRel w wr x0 x1 x2 r c w5.heap.size zs k) (fun i _ => 60 - (intOf i).toNat)
      case atStart => exact ⟨0, by omega, rfl, HI2.out⟩
      case round =>
        clear HI2
        obtain ⟨k, hk, rfl, O, L, now, p, hA, hV, hT, hC, hp, hB, hcO, hgO, hcg, hgw, hc⟩ := hrel
        by_cases hlt : k < 60
        · have HP := Lib.hid (tu_perm hT)
          have HT := Lib.hid hT
          have HV := Lib.hid hV
          have HB := Lib.hid hB
          have hz := hc.size
          have hlk : (k : Int) < 60 := by omega
          clear hT hV hB
          go_wp2_with fail
          have kl : Chg [] wr (wr.alloc (.cells #[.int .i64 0, .int .i64 1, .int .i64 2] 3)) := (Chg.refl [] wr).alloc _
          refine (dnext_c (n := 3) (d := 3) (rd := [0, 1, 2]) (hA.chg kl (by simp) (by simp)) HV.out (by have := kl.size; omega) rfl (rd_lit (by simp)) ⟨by have := hA.lt; omega, fun hj => by have := (hA.BO _ hj).2; omega⟩ rfl (any_perm HP.out (x := 0) (by simp) (by simp))).mono ?_
          rintro e v6 ⟨s, R, O6, rfl, hN, hA6, hO6, kc6⟩
          have HV6 := Lib.hid (HV.out.next hN)
          have HT6 := Lib.hid (tu_next hN HT.out)
          obtain ⟨_, _, he, hel⟩ := hN.head
          injection he with he1 he2
          subst he1
          have hd0 : 0 < s.d := hel.1
          have kc6' : Chg (r :: O) wr v6 := (kl.mono (S' := r :: O) (by simp)).trans kc6 (fun j hj => .inl hj)
          have hC6 := hC.chg kc6' hcO (rO_ge hA)
          have HB6 := Lib.hid (HB.out.chg kc6' hgO)
          have k6 := hc.trans kc6' (rO_new hA)
          have HCS6 := Lib.hid (nO_of hcO hO6 (by have := hC.lt; have := kl.size; omega))
          have HGS6 := Lib.hid (nO_of hgO hO6 (by have := HB.out.lt; have := kl.size; omega))
          have hsi : s.i ≠ -1 := by have := HV6.out.id0 s (by simp); omega
          obtain ⟨si, sw, sd, st⟩ := s
          simp only at hd0 hsi
          have hx0 := nx_nonneg zs p 3000
          have hx1 := nx_lt zs p 3000 (by omega)
          have HNx := Lib.hid (next_c (n := 3000) hC6 (by omega) (by omega))
          have HSC := Lib.hid (fun (a : Int) (h1 : 1 ≤ a ∧ a ≤ 1048576) (W : World) (k : Chg [c] v6 W) => dcharge_c (a := a) (k := 0) (hA6.chg k (by have := HCS6.out; simp at this ⊢; omega) (by intro j hj hjc; simp at hjc; subst hjc; exact HCS6.out (by simp [hj]))) HV6.out.id0 hsi (sid_head (s := ⟨si, sw, sd, st⟩) R) h1 HV6.out.bd)
          have HA6 := Lib.hid hA6
          have HK6 := Lib.hid k6
          generalize nx zs p 3000 = x at hx0 hx1 HNx
          clear hA hC hc kl hN hO6 kc6 he2 hel kc6' HV HP HB hA6 k6 hC6 hcO hgO
          go_wp2_with fail
          refine HNx.out.mono ?_
          rintro e v9 ⟨rfl, hC9, kc9⟩
          have HC9 := Lib.hid hC9
          have HKc9 := Lib.hid kc9
          clear hC9 kc9 HNx
          go_wp2_with fail
          refine (HSC.out (1 + x) (by omega) v9 HKc9.out).mono ?_
          rintro e v10 ⟨rfl, hA10, kc10⟩
          have HC10 := Lib.hid (HC9.out.chg kc10 HCS6.out (rO_ge HA6.out))
          have HB10 := Lib.hid ((HB6.out.chg HKc9.out (by simp; exact hcg.symm)).chg kc10 HGS6.out)
          have HK10 := Lib.hid ((HK6.out.trans HKc9.out (by simp; exact HC9.out.le)).trans kc10 (rO_new HA6.out))
          have HV10 := Lib.hid (HV6.out.charge (a := 1 + x) hd0 (by omega) (by omega) (by omega))
          have HT10 := Lib.hid (tu_charge (a := 1 + x) HT6.out)
          have HA10 := Lib.hid hA10
          generalize hL10 : chA (1 + x) ((⟨si, sw, sd, st⟩ : Sd) :: R) 0 = L10 at HV10 HT10 HA10
          have HGet := Lib.hid (fun j (hj : j < 3) => tu_get HT10.out HV10.out hj)
          have HL10 := Lib.hid (show L10.length = 3 from perm_len (tu_perm HT10.out))
          clear kc10 HC9 HKc9 HSC hA10 hL10
          go_wp2_with fail
          go_loopw [11] (fun j wv => ∃ m : Nat, m ≤ 3 ∧ j = .int .i64 m ∧ Chg [] v10 wv) (fun j _ => 3 - (intOf j).toNat)
          case atStart => exact ⟨0, by omega, rfl, Chg.refl _ _⟩
          case round =>
            obtain ⟨m, hm, rfl, kv⟩ := hrel
            by_cases hm3 : m < 3
            · obtain ⟨gs, gd, gd', gt, gt', t0, t1, u0, u1⟩ := HGet.out m hm3
              have HAv := Lib.hid (HA10.out.chg kv (by simp) (by simp))
              have hcell := w_cell (HB10.out.chg kv (by simp)) hm3
              have hwb := HWB.out m
              have HD := Lib.hid (fun (W : World) (k : Chg [] v10 W) => ddef_c (HA10.out.chg k (by simp) (by simp)) (by rw [HL10.out]; simp) (m : Int))
              rw [gs] at HD
              have HTm := Lib.hid (fun (W : World) (k : Chg [] v10 W) => dturns_c (HA10.out.chg k (by simp) (by simp)) (by rw [HL10.out]; simp) (m : Int))
              have HT0 := Lib.hid (fun (W : World) (k : Chg [] v10 W) => dturns_c (HA10.out.chg k (by simp) (by simp)) (by rw [HL10.out]; simp) 0)
              generalize dfD (m : Int) L10 = dd at gd gd' HD
              generalize dfT (m : Int) L10 = tt at gt gt' t0 t1 HTm
              generalize dfT 0 L10 = uu at gt gt' u0 u1 HT0
              generalize wAt x0 x1 x2 m = ww at hcell hwb gd
              obtain ⟨hw0, hw1⟩ := hwb
              have hm0 : (0 : Int) ≤ (m : Int) := by omega
              have hm3' : (m : Int) < 3 := by omega
              have HB := Lib.hid (fun (W : World) (k : Chg [] _ W) => (k.cell (p := ⟨w5.heap.size, m, none⟩) (block_lt_of_cell hcell) (by simp)).trans hcell)
              have HKV := Lib.hid kv
              clear gs hcell kv HGet
              go_wp2_with fail
              refine (HD.out _ HKV.out).mono ?_
              rintro e y1 ⟨rfl, ky1⟩
              have HK1 := Lib.hid (HKV.out.trans ky1 (by simp))
              have HY1 := Lib.hid ky1
              clear ky1 HD
              go_wp2_with fail
              refine (HTm.out _ HK1.out).mono ?_
              rintro e y2 ⟨rfl, ky2⟩
              have HK2 := Lib.hid (HK1.out.trans ky2 (by simp))
              have HY2 := Lib.hid (HY1.out.trans ky2 (by simp))
              clear ky2 HTm
              go_wp2_with fail
              refine (HT0.out _ HK2.out).mono ?_
              rintro e y3 ⟨rfl, ky3⟩
              have HK3 := Lib.hid (HK2.out.trans ky3 (by simp))
              have hcell := HB.out _ (HY2.out.trans ky3 (by simp))
              clear ky3 HT0
              go_wp2_with fail
              go_roundw
              case rel => exact ⟨m + 1, by omega, by go_num, HK3.out⟩
              case measure => simp [intOf]; omega
            · have HKV := Lib.hid kv
              clear kv
              go_wp2_with fail
              go_roundw
              case rel =>
                have kv := HKV.out
                exact ⟨k + 1, by omega, by go_num, O6, _, _, p + 1, HA10.out.chg kv (by simp) (by simp), HV10.out.mono (by omega) (by omega), HT10.out, HC10.out.chg kv (by simp) (by simp), by omega, HB10.out.chg kv (by simp), HCS6.out, HGS6.out, hcg, hgw, HK10.out.trans kv (by simp)⟩
              case measure => simp [intOf]; omega
        · have HK := Lib.hid hc
          have hk6 : (60 : Int) ≤ (k : Int) := by omega
          clear hA hV hT hC hc hB
          go_wp2_with fail
          refine (dawake_c _).mono ?_
          rintro e v1 ⟨rfl, kc⟩
          go_wp2_with fail
          go_ret
          exact ⟨rfl, (HK.out.trans kc (by simp)).below (Nat.le_refl _) (by simp)⟩

end Go.Proofs.Ytmbmejobffpaoaa
