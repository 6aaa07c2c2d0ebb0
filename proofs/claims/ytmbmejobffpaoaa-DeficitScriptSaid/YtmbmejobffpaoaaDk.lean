/- The walk of the statement DeficitHead. -/
import Derived.Test.YtmbmejobffpaoaaDh
namespace Go.Proofs.Ytmbmejobffpaoaa
open Go.RowKit
set_option linter.unusedVariables false
set_option linter.unusedSimpArgs false

theorem own_rd {w : World} {base n c : Nat} {e : TypeId} {A : Option Addr} {L : List Int} (h : w.ownsRow base e 1 (.slice A n c) n (L.map (Value.int .i64))) (hl : L.length ≤ 9223372036854775807) : ∃ g, base ≤ g ∧ Rd w g A L := by
  rcases h.2 with ⟨_, h0⟩ | ⟨g, cap, cur, hv, hg, hh, h1, h2, h3, h4⟩
  · subst h0
    have : L = [] := by
      have := h.1
      simpa using this
    subst this
    exact ⟨base, Nat.le_refl _, Rd.nil _ _ _⟩
  · injection hv with hv
    subst hv
    refine ⟨g, hg, hl, fun i hi => ⟨0, rfl, ?_⟩⟩
    have hb : Blk w g e cur := hh
    rw [hb.cell]
    have h5 : (L.map (Value.int .i64))[i]? = some (.int .i64 (L.getD i 0)) := by simp [hi]
    rw [← h4, List.getElem?_take] at h5
    split at h5
    · rw [Nat.zero_add, ← Array.getElem?_toList]; exact h5
    · cases h5

/-- The numbers of the stations. -/
def ids (L : List Sd) : List Int := L.map (·.i)

theorem dorder_c {w : World} {B r : Nat} {O : List Nat} {q now : Int} {L : List Sd} (h : DA w B r O q L now) (hl : L.length ≤ 1000) :
    Calls Try.prog 17 #[.pointer (some ⟨r, 0, none⟩)] w fun e w' => ∃ A' c' g, e = .returned (.slice A' L.length c') ∧ w.heap.size ≤ g ∧ Rd w' g A' (ids L) ∧ Chg [] w w' := by
  obtain ⟨M, A, c, sn, h1, rfl, h2⟩ := h
  refine (dorder_m h1 (by rw [vw_len] at hl; exact hl)).mono ?_
  rintro e w' ⟨A', c', rfl, ho, hc⟩
  obtain ⟨g, hg, hR⟩ := own_rd (L := ids (vw M)) (by simpa [ids, List.map_map, Function.comp_def] using ho) (by simp [ids]; omega)
  exact ⟨A', c', g, by rw [vw_len], hg, hR, hc⟩

def upto (n : Nat) : List Int := (List.range n).map fun k : Nat => (k : Int)
theorem upto_succ (n : Nat) : upto (n + 1) = upto n ++ [(n : Int)] := by simp [upto, List.range_succ]
theorem sid_upto {L : List Sd} {n : Nat} (h : ids L = upto n) : sid (n : Int) L = none := by
  refine sid_none fun k hk he => ?_
  have : (n : Int) ∈ upto n := by
    rw [← h, ← he]
    exact List.mem_map.2 ⟨L[k], by simp, rfl⟩
  unfold upto at this
  obtain ⟨j, hj, he⟩ := List.mem_map.1 this
  have := List.mem_range.1 hj
  omega

/-- What stands at the head of the loop that lets the stations join. -/
def JnRel (w wr : World) (q : Int) (r c : Nat) (zs : List Int) (k : Nat) : Prop := ∃ O L, DA wr w.heap.size r O q L (-1) ∧ DV q 0 L ∧ ids L = upto k ∧ Cho wr w.heap.size c zs k ∧ c ≠ r ∧ c ∉ O ∧ Chg [] w wr

theorem jn_step {w wr W1 W2 : World} {q v : Int} {r c k : Nat} {O O2 : List Nat} {L : List Sd} {zs : List Int} (hA : DA wr w.heap.size r O q L (-1)) (hV : DV q 0 L) (hi : ids L = upto k) (hk : k < 16) (hcr : c ≠ r) (hcO : c ∉ O) (hc : Chg [] w wr) (hv : 1 ≤ v ∧ v ≤ 16)
    (hC1 : Cho W1 w.heap.size c zs (k + 1)) (hc1 : Chg [c] wr W1) (hA2 : DA W2 w.heap.size r O2 q (L ++ [⟨k, v, q * v, 0⟩]) (-1)) (hO2 : ∀ j ∈ O2, j ∈ O ∨ W1.heap.size ≤ j) (hc2 : Chg (r :: O) W1 W2) : JnRel w W2 q r c zs (k + 1) := by
  have hcl := hC1.lt
  have hle := hC1.le
  have hll : L.length = k := by have := congrArg List.length hi; simpa [ids, upto] using this
  refine ⟨O2, _, hA2, hV.join (by omega) hv (sid_upto hi) (by omega), ?_, hC1.chg hc2 (by simp; exact ⟨hcr, hcO⟩) (fun j hj => ?_), hcr, fun hj => ?_, ?_⟩
  · rw [upto_succ, ← hi]
    simp [ids]
  · rcases List.mem_cons.1 hj with rfl | hj
    · exact hA.Br
    · exact (hA.BO j hj).1
  · rcases hO2 c hj with h | h
    · exact hcO h
    · omega
  · refine (hc.trans hc1 (fun j hj => ?_)).trans hc2 (fun j hj => ?_)
    · simp at hj
      subst hj
      exact .inr hle
    · rcases List.mem_cons.1 hj with rfl | hj
      · exact .inr hA.Br
      · exact .inr (hA.BO j hj).1

/-- What stands at the head of DeficitHead's rounds. -/
def HdRel (w wr : World) (r c : Nat) (zs : List Int) (k : Nat) : Prop := ∃ O L now p, DA wr w.heap.size r O 1000 L now ∧ DV 1000 (1500 * (k : Int)) L ∧ (ids L).Perm [0, 1, 2, 3] ∧ Cho wr w.heap.size c zs p ∧ p ≤ 4 + k ∧ c ≠ r ∧ c ∉ O ∧ Chg [] w wr

theorem upto4 : upto 4 = [0, 1, 2, 3] := rfl

theorem rd_lit {w : World} {L : List Int} {t : TypeId} (h : L.length ≤ 100) : Rd (w.alloc (.cells (L.map (Value.int .i64)).toArray t)) w.heap.size (some ⟨w.heap.size, 0, none⟩) L := Rd.of_blk (Blk.new w t _) (by omega)

theorem sid_head (s : Sd) (R : List Sd) : sid s.i (s :: R) = some 0 := by simp [sid]
theorem dfD_head (s : Sd) (R : List Sd) : dfD s.i (s :: R) = s.d := by rw [dfD, sid_head]; rfl
theorem dfT_head (s : Sd) (R : List Sd) : dfT s.i (s :: R) = s.t := by rw [dfT, sid_head]; rfl
theorem perm_len {L : List Sd} {l : List Int} (h : (ids L).Perm l) : L.length = l.length := by have := h.length_eq; simpa [ids] using this

/-- The blocks of the round, seen from the choices and from where the call began. -/
theorem rO_new {w wr : World} {r : Nat} {O : List Nat} {q now : Int} {L : List Sd} (h : DA wr w.heap.size r O q L now) : ∀ j ∈ r :: O, j ∈ ([] : List Nat) ∨ w.heap.size ≤ j := by
  intro j hj
  rcases List.mem_cons.1 hj with rfl | hj
  · exact .inr h.Br
  · exact .inr (h.BO j hj).1
theorem rO_ge {w wr : World} {r : Nat} {O : List Nat} {q now : Int} {L : List Sd} (h : DA wr w.heap.size r O q L now) : ∀ j ∈ r :: O, w.heap.size ≤ j := by
  intro j hj
  rcases List.mem_cons.1 hj with rfl | hj
  · exact h.Br
  · exact (h.BO j hj).1

theorem equal_k {w : World} {g h c d : Nat} {a b : Option Addr} {L M : List Int} {n1 n2 : Nat} (e1 : L.length = n1) (e2 : M.length = n2) (hL : Rd w g a L) (hM : Rd w h b M) :
    Calls Try.prog 18 #[.slice a n1 c, .slice b n2 d] w fun e w' => e = .returned (.bool (decide (L = M))) ∧ Chg [] w w' :=
  (equal_c e1 e2 hL hM).mono (by rintro e w' ⟨rfl, m, rfl⟩; exact ⟨rfl, (Chg.refl [] _).drewN m⟩)

theorem nO_of {W : World} {c r : Nat} {O O2 : List Nat} (hc : c ∉ r :: O) (hO : ∀ j ∈ O2, j ∈ O ∨ W.heap.size ≤ j) (hl : c < W.heap.size) : c ∉ r :: O2 := by
  intro hm
  rcases List.mem_cons.1 hm with h | h
  · exact hc (by simp [h])
  · rcases hO c h with h | h
    · exact hc (by simp [h])
    · omega

set_option maxRecDepth 100000 in
set_option maxHeartbeats 8000000 in
theorem deficitHead_walk {w : World} {a : Option Addr} {len cap : Nat} {zs : List Int} (hz : zs.length = len) (hl : len ≤ 9223372036854775807) (hi : Inp w w.heap.size a zs) :
    Calls Try.prog 4 #[.slice a len cap] w fun e w' => e = .returned (.bool true) ∧ Below w.heap.size w w' := by
  have hgn := gnew_c (cap := cap) hz hl hi
  clear hz hi
  go_enter Try.func4, Try.ntmps4
  go_wp2_with fail
  refine hgn.mono ?_
  rintro e w1 ⟨c, rfl, hC1, hc1⟩
  have hz1 := hc1.size
  go_wp2_with fail
  refine (dnew_c 1000 (by omega) (by omega) w1 hz1).mono ?_
  rintro e w2 ⟨r, rfl, hA2, hr2, hc2⟩
  have hcl1 := hC1.lt
  have hcr : c ≠ r := by omega
  have HI := Lib.hid (show JnRel w w2 1000 r c zs 0 from ⟨[], [], hA2, DV.nil (by omega), rfl, hC1.chg hc2 (by simp) (by simp), hcr, by simp, hc1.trans hc2 (by simp)⟩)
  clear hC1 hc1 hA2 hc2 hgn
  go_wp2_with fail
  go_loopw [6] (fun i wr => ∃ k : Nat, k ≤ 4 ∧ i = .int .i64 k ∧ JnRel w wr 1000 r c zs k) (fun i _ => 4 - (intOf i).toNat)
  case atStart => exact ⟨0, by omega, rfl, HI.out⟩
  case round =>
    obtain ⟨k, hk, rfl, O, L, hA, hV, hids, hC, hcr', hcO, hc⟩ := hrel
    clear HI
    by_cases hlt : k < 4
    · have hz := hc.size
      have hll : L.length = k := by have := congrArg List.length hids; simpa [ids, upto] using this
      have HIDS := Lib.hid hids
      have HLL := Lib.hid hll
      clear hids hll
      go_wp2_with fail
      refine (weight_c hC hz (by omega)).mono ?_
      rintro e w3 ⟨v, rfl, hv, hC3, hc3⟩
      have hz3 := hc3.size
      have hA3 := hA.chg hc3 (by simp; exact hcr'.symm) (by simp; intro j hj hjc; subst hjc; exact hcO hj)
      have HV := Lib.hid hV
      have HC := Lib.hid hc
      have HA := Lib.hid hA
      clear hC hV hc hA
      go_wp2_with fail
      refine (djoin_c (x := k) (wt := v) hA3 (by omega) (by rw [HLL.out]; omega) (by omega) hv (by omega) (sid_upto HIDS.out)).mono ?_
      rintro e w4 ⟨rfl, O4, hA4, hO4, hc4⟩
      have HR := Lib.hid (jn_step HA.out HV.out HIDS.out (by omega) hcr' hcO HC.out hv hC3 hc3 hA4 hO4 hc4)
      clear hA3 hC3 hc3 hA4 hO4 hc4
      go_wp2_with fail
      go_roundw
      case rel => exact ⟨k + 1, by omega, by go_num, HR.out⟩
      case measure => simp [intOf]; omega
    · have HI2 := Lib.hid (show HdRel w wr r c zs 0 from by
        obtain rfl : k = 4 := by omega
        exact ⟨O, L, -1, 4, hA, hV, by rw [hids, upto4], hC, by omega, hcr', hcO, hc⟩)
      have hk4 : (4 : Int) ≤ (k : Int) := by omega
      clear hA hV hids hC hc hk hlt
      generalize hkk : (k : Int) = k4 at hk4
      clear hkk
      go_wp2_with fail
      go_loopw [7] (fun i wr => ∃ k : Nat, k ≤ 40 ∧ i = .int .i64 k ∧ HdRel w wr r c zs k) (fun i _ => 40 - (intOf i).toNat)
      case atStart => exact ⟨0, by omega, rfl, HI2.out⟩
      case round =>
        clear HI2
        obtain ⟨k, hk, rfl, O, L, now, p, hA, hV, hP, hC, hp, hcr', hcO, hc⟩ := hrel
        by_cases hlt : k < 40
        · have hlen : L.length = 4 := perm_len hP
          have HP := Lib.hid hP
          have HV := Lib.hid hV
          have HL := Lib.hid hlen
          have hcs : c ∉ r :: O := by simp; exact ⟨hcr', hcO⟩
          have HCS := Lib.hid hcs
          clear hP hV hlen hcs
          have hz := hc.size
          go_wp2_with fail
          -- before
          refine (dorder_c hA (by rw [HL.out]; omega)).mono ?_
          rintro e v1 ⟨A1, d1, g1, rfl, hg1, hR1, kc1⟩
          rw [HL.out]
          have hA1 := hA.chg kc1 (by simp) (by simp)
          have hC1 := hC.chg kc1 (by simp) (by simp)
          have k1 := hc.trans kc1 (by simp)
          have HR1 := Lib.hid hR1
          clear hA hC hc kc1 hR1
          go_wp2_with fail
          -- Next of 5, 6
          have hA1' := hA1.chg ((Chg.refl [] v1).alloc (.cells #[.int .i64 5, .int .i64 6] 3)) (by simp) (by simp)
          refine (dnext_empty (n := 2) (d := 2) (rd := [5, 6]) hA1' (by rw [HL.out]; omega) rfl (rd_lit (by simp)) rfl (any_not HP.out (by decide))).mono ?_
          rintro e v2 ⟨rfl, kc2⟩
          have kc2' : Chg [] v1 v2 := ((Chg.refl [] v1).alloc _).trans kc2 (by simp)
          have hA2 := hA1.chg kc2' (by simp) (by simp)
          have hC2 := hC1.chg kc2' (by simp) (by simp)
          have k2 := k1.trans kc2' (by simp)
          have HR2 := Lib.hid (HR1.out.chg kc2' (by simp))
          clear hA1 hA1' hC1 k1 kc2 kc2' HR1
          go_wp2_with fail
          -- Next of 2, 1
          refine (dnext_inv (n := 2) (d := 2) (rd := [2, 1]) rfl (rd_lit (by simp)) rfl).mono ?_
          rintro e v3 ⟨rfl, kc3⟩
          have kc3' : Chg [] v2 v3 := ((Chg.refl [] v2).alloc _).trans kc3 (by simp)
          have hA3 := hA2.chg kc3' (by simp) (by simp)
          have hC3 := hC2.chg kc3' (by simp) (by simp)
          have k3 := k2.trans kc3' (by simp)
          have HR3 := Lib.hid (HR2.out.chg kc3' (by simp))
          clear hA2 hC2 k2 kc3 kc3' HR2
          go_wp2_with fail
          -- Order again, Equal
          refine (dorder_c hA3 (by rw [HL.out]; omega)).mono ?_
          rintro e v4 ⟨A4, d4, g4, rfl, hg4, hR4, kc4⟩
          rw [HL.out]
          have hA4 := hA3.chg kc4 (by simp) (by simp)
          have hC4 := hC3.chg kc4 (by simp) (by simp)
          have k4 := k3.trans kc4 (by simp)
          have HR4 := Lib.hid (HR3.out.chg kc4 (by simp))
          have HR4' := Lib.hid hR4
          have HLi := Lib.hid (show (ids L).length = 4 from by simp [ids, HL.out])
          clear hA3 hC3 k3 kc4 hR4 HR3
          go_wp2_with fail
          refine (equal_k HLi.out HLi.out HR4.out HR4'.out).mono ?_
          rintro e v5 ⟨rfl, kc5⟩
          rw [decide_eq_true rfl]
          have hA5 := hA4.chg kc5 (by simp) (by simp)
          have hC5 := hC4.chg kc5 (by simp) (by simp)
          have k5 := k4.trans kc5 (by simp)
          have hz5 := k5.size
          clear hA4 hC4 k4 HR4 HR4' kc5
          go_wp2_with fail
          -- Next of all
          have kl5 : Chg [] v5 (v5.alloc (.cells #[.int .i64 0, .int .i64 1, .int .i64 2, .int .i64 3] 3)) := (Chg.refl [] v5).alloc _
          refine (dnext_c (n := 4) (d := 4) (rd := [0, 1, 2, 3]) (hA5.chg kl5 (by simp) (by simp)) HV.out (by have := kl5.size; omega) rfl (rd_lit (by simp)) ⟨by have := hA5.lt; omega, fun hj => by have := (hA5.BO _ hj).2; omega⟩ rfl (any_perm HP.out (x := 0) (by simp) (by simp))).mono ?_
          rintro e v6 ⟨s, R, O6, rfl, hN, hA6, hO6, kc6⟩
          have HV6 := Lib.hid (HV.out.next hN)
          have HP6 := Lib.hid (perm_ids hN HP.out)
          obtain ⟨_, _, he, hel⟩ := hN.head
          injection he with he1 he2
          subst he1
          have hd0 : 0 < s.d := hel.1
          have HEL := Lib.hid hel.2
          have kc6' : Chg (r :: O) v5 v6 := (kl5.mono (S' := r :: O) (by simp)).trans kc6 (fun j hj => .inl hj)
          have hC6 := hC5.chg kc6' HCS.out (rO_ge hA5)
          have k6 := k5.trans kc6' (rO_new hA5)
          have HCS6 := Lib.hid (nO_of HCS.out hO6 (by have := hC5.lt; have := kl5.size; omega))
          have hsi : s.i ≠ -1 := by have := HV6.out.id0 s (by simp); omega
          have HL6 := Lib.hid (perm_len HP6.out)
          have HSD := Lib.hid (HV6.out.bd s (by simp))
          obtain ⟨si, sw, sd, st⟩ := s
          simp only at hd0 hsi HEL
          clear hA5 hC5 k5 kl5 hN hO6 kc6 he2 hel kc6' HV HP HL HLi HCS
          go_wp2_with fail
          -- its deficit
          refine (ddef_c hA6 (by rw [HL6.out]; simp) si).mono ?_
          rintro e v7 ⟨rfl, kc7⟩
          rw [show dfD si ((⟨si, sw, sd, st⟩ : Sd) :: R) = sd from dfD_head _ _, show (sid si ((⟨si, sw, sd, st⟩ : Sd) :: R)).isSome = true from by rw [sid_head (s := ⟨si, sw, sd, st⟩)]; rfl]
          have hA7 := hA6.chg kc7 (by simp) (by simp)
          have hC7 := hC6.chg kc7 (by simp) (by simp)
          have k7 := k6.trans kc7 (by simp)
          clear hA6 hC6 k6 kc7
          go_wp2_with fail
          refine (dorder_c hA7 (by rw [HL6.out]; simp)).mono ?_
          rintro e v8 ⟨A8, d8, g8, rfl, hg8, hR8, kc8⟩
          rw [HL6.out]
          have hA8 := hA7.chg kc8 (by simp) (by simp)
          have hC8 := hC7.chg kc8 (by simp) (by simp)
          have k8 := k7.trans kc8 (by simp)
          obtain ⟨off, rfl, c8⟩ := hR8.2 0 (by simp [ids])
          rw [show (ids ((⟨si, sw, sd, st⟩ : Sd) :: R)).getD 0 0 = si from rfl, Nat.add_zero] at c8
          clear hA7 hC7 k7 kc8 hR8
          have hx0 := nx_nonneg zs p 1500
          have hx1 := nx_lt zs p 1500 (by omega)
          have HNx := Lib.hid (next_c (n := 1500) hC8 (by omega) (by omega))
          have HSC := Lib.hid (fun (a : Int) (h1 : 1 ≤ a ∧ a ≤ 1048576) (W : World) (k : Chg [c] v8 W) => dcharge_c (a := a) (k := 0) (hA8.chg k (by have := HCS6.out; simp at this ⊢; omega) (by intro j hj hjc; simp at hjc; subst hjc; exact HCS6.out (by simp [hj]))) HV6.out.id0 hsi (sid_head (s := ⟨si, sw, sd, st⟩) R) h1 HV6.out.bd)
          have HA8 := Lib.hid hA8
          have HK8 := Lib.hid k8
          generalize nx zs p 1500 = x at hx0 hx1 HNx
          clear hA8 k8 hC8
          go_wp2_with fail
          refine HNx.out.mono ?_
          rintro e v9 ⟨rfl, hC9, kc9⟩
          have HC9 := Lib.hid hC9
          have HKc9 := Lib.hid kc9
          clear hC9 kc9 HNx
          go_wp2_with fail
          refine (HSC.out (1 + x) (by omega) v9 HKc9.out).mono ?_
          rintro e v10 ⟨rfl, hA10, kc10⟩
          rw [chA_head] at hA10
          have HC10 := Lib.hid (HC9.out.chg kc10 HCS6.out (rO_ge HA8.out))
          have HK10 := Lib.hid ((HK8.out.trans HKc9.out (by simp; exact HC9.out.le)).trans kc10 (rO_new HA8.out))
          have HV10 := Lib.hid (HV6.out.charge (a := 1 + x) hd0 (by omega) (by omega) (by omega))
          have HP10 := Lib.hid (show (ids (chA (1 + x) ((⟨si, sw, sd, st⟩ : Sd) :: R) 0)).Perm [0, 1, 2, 3] from HP6.out)
          have HL10 := Lib.hid (show ((⟨si, sw, sd - (1 + x), st⟩ : Sd) :: R).length = 4 from by have := HL6.out; simpa using this)
          rw [chA_head] at HV10 HP10
          simp only at hA10 HV10 HP10
          clear kc10 HC9 HKc9 HSC
          go_wp2_with fail
          refine (ddef_c hA10 (by rw [HL10.out]; simp) si).mono ?_
          rintro e v11 ⟨rfl, kc11⟩
          rw [show dfD si ((⟨si, sw, sd - (1 + x), st⟩ : Sd) :: R) = sd - (1 + x) from dfD_head _ _, show (sid si ((⟨si, sw, sd - (1 + x), st⟩ : Sd) :: R)).isSome = true from by rw [sid_head (s := ⟨si, sw, sd - (1 + x), st⟩)]; rfl]
          have hA11 := hA10.chg kc11 (by simp) (by simp)
          have HC11 := Lib.hid (HC10.out.chg kc11 (by simp) (by simp))
          have k11 := HK10.out.trans kc11 (by simp)
          clear hA10 kc11 HC10 HK10
          by_cases hleft : 0 < sd - (1 + x)
          · have hleft' : (1 + x : Int) < sd := by omega
            go_wp2_with fail
            have kl : Chg [] v11 (v11.alloc (.cells #[.int .i64 0, .int .i64 1, .int .i64 2, .int .i64 3] 3)) := (Chg.refl [] v11).alloc _
            refine (dnext_c (n := 4) (d := 4) (rd := [0, 1, 2, 3]) (hA11.chg kl (by simp) (by simp)) HV10.out (by have := kl.size; have := k11.size; omega) rfl (rd_lit (by simp)) ⟨by have := hA11.lt; omega, fun hj => by have := (hA11.BO _ hj).2; omega⟩ rfl (any_perm HP10.out (x := 0) (by simp) (by simp))).mono ?_
            rintro e v12 ⟨s2, R2, O12, rfl, hN, hA12, hO12, kc12⟩
            have hdet := hN.det (.stop ⟨hleft, HEL.out⟩)
            injection hdet with hd1 hd2
            subst hd1
            have kc12' : Chg (r :: O6) v11 v12 := (kl.mono (S' := r :: O6) (by simp)).trans kc12 (fun j hj => .inl hj)
            have HC12 := Lib.hid (HC11.out.chg kc12' HCS6.out (rO_ge hA11))
            have HK12 := Lib.hid (k11.trans kc12' (rO_new hA11))
            have HCS12 := Lib.hid (nO_of HCS6.out hO12 (by have := HC11.out.lt; have := kl.size; omega))
            have HV12 := Lib.hid (HV10.out.next hN)
            have HP12 := Lib.hid (perm_ids hN HP10.out)
            have HA12 := Lib.hid hA12
            clear hN hO12 kc12 kc12' kl hA12 hA11 k11
            simp only
            go_wp2_with fail
            go_roundw
            case rel =>
              have hcs := HCS12.out
              simp only [List.mem_cons, not_or] at hcs
              exact ⟨k + 1, by omega, by go_num, O12, _, _, _, HA12.out, HV12.out.mono (by omega) (by omega), HP12.out, HC12.out, by omega, hcs.1, hcs.2, HK12.out⟩
            case measure => simp [intOf]; omega
          · have hleft' : sd ≤ (1 + x : Int) := by omega
            have HA11 := Lib.hid hA11
            have HK11 := Lib.hid k11
            clear hA11 k11
            go_wp2_with fail
            go_roundw
            case rel =>
              have hcs := HCS6.out
              simp only [List.mem_cons, not_or] at hcs
              exact ⟨k + 1, by omega, by go_num, O6, _, _, _, HA11.out, HV10.out.mono (by omega) (by omega), HP10.out, HC11.out, by omega, hcs.1, hcs.2, HK11.out⟩
            case measure => simp [intOf]; omega
        · obtain rfl : k = 40 := by omega
          have HK := Lib.hid hc
          clear hA hV hP hC hc
          go_wp2_with fail
          refine (dawake_c _).mono ?_
          rintro e v1 ⟨rfl, kc⟩
          go_wp2_with fail
          go_ret
          exact ⟨rfl, (HK.out.trans kc (by simp)).below (Nat.le_refl _) (by simp)⟩

end Go.Proofs.Ytmbmejobffpaoaa
