/- The walk of the statement QueueOrder. -/
import Derived.Test.YtdlehpohpdepkaaQuG
import Derived.Test.YtdlehpohpdepkaaSome
namespace Go.Proofs.Ytdlehpohpdepkaa
open Go.RowKit
set_option linter.unusedVariables false
set_option linter.unusedSimpArgs false

/-- A row of packets of the call's own, read. -/
theorem own_pk {w : World} {B n c k : Nat} {A : Option Addr} {ps : List Pk} (h : w.ownsRow B 24 5 (.slice A n c) n (ps.flatMap pkC)) (hk : k < ps.length) :
    ∃ g, A = some ⟨g, 0, none⟩ ∧ w.cell? ⟨g, k * 5, none⟩ = some (.int .i64 (pkAt ps k).i) ∧ w.cell? ⟨g, k * 5 + 4, none⟩ = some (.int .i64 (pkAt ps k).d) := by
  have hl : n = ps.length := by have := h.1; rw [flat_length] at this; omega
  subst hl
  rcases h.2 with ⟨_, h0⟩ | ⟨g, cap, cur, e1, hg, hh, hnc, hcm, hcs, htk⟩
  · omega
  · injection e1 with e1 e2 e3
    have hb : Blk w g 24 cur := hh
    have hat : ∀ r, r < 5 → cur[k * 5 + r]? = (pkC (pkAt ps k))[r]? := fun r hr => by
      rw [← flat_at ps k hk r hr, ← htk, List.getElem?_take, if_pos (by omega), Array.getElem?_toList]
    exact ⟨g, e1, (hb.cell (k * 5)).trans (hat 0 (by omega)), (hb.cell (k * 5 + 4)).trans (hat 4 (by omega))⟩

/-- The numbers rise, from above last to below i. -/
def Rise (last i : Int) : List Pk → Prop
  | [] => True
  | p :: r => last < p.i ∧ p.i < i ∧ Rise p.i i r

theorem Rise.more {last i j : Int} {ps : List Pk} (h : Rise last i ps) (hj : i ≤ j) : Rise last j ps := by
  induction ps generalizing last with
  | nil => trivial
  | cons p r ih => exact ⟨h.1, by have := h.2.1; omega, ih h.2.2⟩
theorem Rise.low {last l2 i : Int} {ps : List Pk} (h : Rise last i ps) (hl : l2 ≤ last) : Rise l2 i ps := by
  cases ps with
  | nil => trivial
  | cons p r => exact ⟨by have := h.1; omega, h.2.1, h.2.2⟩
theorem Rise.filter {last i : Int} {ps : List Pk} (f : Pk → Bool) (h : Rise last i ps) : Rise last i (ps.filter f) := by
  induction ps generalizing last with
  | nil => trivial
  | cons p r ih =>
    rw [List.filter_cons]
    split
    · exact ⟨h.1, h.2.1, ih h.2.2⟩
    · exact (ih h.2.2).low (by have := h.1; omega)
theorem Rise.snoc {last i : Int} {ps : List Pk} {p : Pk} (h : Rise last i ps) (h0 : last < i) (hp : p.i = i) : Rise last (i + 1) (ps ++ [p]) := by
  induction ps generalizing last with
  | nil => exact ⟨by omega, by omega, trivial⟩
  | cons q r ih => exact ⟨h.1, by have := h.2.1; omega, ih h.2.2 h.2.1⟩
theorem Rise.step {last i : Int} {ps : List Pk} (h : Rise last i ps) {k : Nat} (hk : k + 1 < ps.length) : (pkAt ps k).i < (pkAt ps (k + 1)).i := by
  induction ps generalizing last k with
  | nil => simp at hk
  | cons p r ih =>
    cases k with
    | zero =>
      cases r with
      | nil => simp at hk
      | cons q t => exact h.2.2.1
    | succ k => exact ih h.2.2 (k := k) (by simpa using hk)

theorem lates_at {s : Int} {ps : List Pk} {k : Nat} (hv : ∀ p ∈ ps, vld p = true) (hk : k < (lates s ps).length) : 0 ≤ (pkAt (lates s ps) k).d ∧ (pkAt (lates s ps) k).d < s := by
  have hm : pkAt (lates s ps) k ∈ lates s ps := by simp [pkAt, hk]
  obtain ⟨h1, h2⟩ := List.mem_filter.1 hm
  have h3 := hv _ h1
  unfold vld validB at h3
  have h4 := of_decide_eq_true h3
  unfold lateB at h2
  have h5 := of_decide_eq_true h2
  omega
theorem stays_at {s : Int} {ps : List Pk} {k : Nat} (hk : k < (stays s ps).length) : ¬ (0 ≤ (pkAt (stays s ps) k).d ∧ (pkAt (stays s ps) k).d < s) := by
  have hm : pkAt (stays s ps) k ∈ stays s ps := by simp [pkAt, hk]
  obtain ⟨h1, h2⟩ := List.mem_filter.1 hm
  unfold lateB at h2
  simp at h2
  omega

set_option maxRecDepth 100000 in
set_option maxHeartbeats 4000000 in
theorem queueOrder_walk {w : World} {a : Option Addr} {len cap : Nat} {zs : List Int} (hz : zs.length = len) (hl : len ≤ 9223372036854775807) (hi : Inp w w.heap.size a zs) :
    Calls Try.prog 5 #[.slice a len cap] w fun e w' => e = .returned (.bool true) ∧ Below w.heap.size w w' := by
  have hgn := gnew_c (cap := cap) hz hl hi
  clear hz hi
  go_enter Try.func5, Try.ntmps5
  go_wp2_with fail
  refine hgn.mono ?_
  rintro e w1 ⟨c, rfl, hC1, hc1⟩
  clear hgn
  have hcl := hC1.lt
  go_wp2_with fail
  refine (qnew_c 8 262144 (by omega) (by omega) (by omega) (by omega) w1 (B := w.heap.size) hc1.size).mono ?_
  rintro e w2 ⟨q, rfl, hQ2, hq, hc2⟩
  have s2 : QS w2 w.heap.size c q [] zs 0 8 262144 [] := ⟨hC1.chg hc2 (by simp) (by simp), hQ2, by omega, by simp, by simp, by simp, Nat.le_trans hc1.size hc2.size⟩
  have k2 := hc1.trans hc2 (by simp)
  clear hC1 hQ2 hc1 hc2
  go_wp2_with fail
  go_loopw [6, 7] (fun vl vi wr => ∃ (j kk : Nat) (l : Int) (O : List Nat) (ps : List Pk), 1 ≤ j ∧ j ≤ 40 ∧ kk ≤ 12 * j ∧ vl = .int .i64 l ∧ vi = .int .i64 j ∧ 0 ≤ l ∧ l < j ∧ Rise l j ps ∧ QS wr w.heap.size c q O zs kk 8 262144 ps ∧ Chg [] w wr) (fun _ vi _ => 40 - (intOf vi).toNat)
  case atStart => exact ⟨1, 0, 0, [], [], by omega, by omega, by omega, rfl, rfl, by omega, by omega, trivial, s2, k2⟩
  case round =>
    obtain ⟨j, kk, l, O, ps, hj1, hj, hk, rfl, rfl, hl0, hlj, hR, s3, k3⟩ := hrel
    clear s2 k2
    have HR := Lib.hid hR
    clear hR
    by_cases hj40 : j < 40
    · have hj' : (j : Int) < 40 := by omega
      have m1 := nx_nonneg zs kk 2
      have m2 := nx_lt zs kk 2 (by omega)
      go_wp2_with fail
      refine (next_c s3.cho (by omega) (by omega)).mono ?_
      rintro e w4 ⟨rfl, hC4, hc4⟩
      have s4 := s3.toCho hC4 hc4
      have k4 := chg_of k3 hc4 s3.cho.le
      clear s3 k3 hC4 hc4
      by_cases d0 : nx zs kk 2 = 0
      · rw [d0]
        go_wp2_with fail
        refine (some_c s4.cho (by omega)).mono ?_
        rintro e w5 ⟨i5, f5, l5, a5, d5, k5, rfl, hid5, _, _, _, _, _, _, _, _, hC5, hk5, hc5⟩
        have s5 := s4.toCho hC5 hc5
        have k6 := chg_of k4 hc5 s4.cho.le
        clear s4 k4 hC5 hc5
        go_wp2_with fail
        refine (qpush_c s5.que (by exact s5.hB) _ _ _ _ _).mono ?_
        rintro e w7 ⟨rfl, O', hQ7, hO7, hc7⟩
        have hR2 : Rise l (j + 1 : Nat) (qpL 8 262144 ps ⟨i5, f5, l5, a5, d5⟩) := by
          unfold qpL
          split
          · rename_i hv
            split
            · exact HR.out.more (by omega)
            · have := vld_len hv
              simp only at this
              exact HR.out.snoc hlj (by simp only; omega)
          · exact HR.out.more (by omega)
        go_wp2_with fail
        go_roundw
        case rel => exact ⟨j + 1, k5, l, O', _, by omega, by omega, by omega, rfl, by go_num, hl0, by omega, hR2, s5.toQue hQ7 hO7 hc7, s5.below k6 rfl hc7⟩
        case measure => simp [intOf]; omega
      · have D0 : (nx zs kk 2 == 0) = false := beq_eq_false_iff_ne.2 d0
        have m3 := nx_nonneg zs (kk + 1) 10
        have m4 := nx_lt zs (kk + 1) 10 (by omega)
        go_wp2_with fail
        refine (next_c s4.cho (by omega) (by omega)).mono ?_
        rintro e w5 ⟨rfl, hC5, hc5⟩
        have s5 := s4.toCho hC5 hc5
        have k5 := chg_of k4 hc5 s4.cho.le
        clear s4 k4 hC5 hc5 D0 d0
        generalize nx zs (kk + 1) 10 = s at m3 m4 ⊢
        go_wp2_with fail
        refine (qexpire_c s5.que s s5.hB).mono ?_
        rintro e w6 ⟨A6, c6, rfl, ho6, hQ6, hc6⟩
        have hv6 := s5.que.2.2.2.2.1
        have s6 := s5.toQue hQ6 (fun _ h => .inl h) hc6
        have k6 := s5.below k5 rfl hc6
        have HL := Lib.hid (fun (k : Nat) (hk : k < (lates s ps).length) => lates_at (s := s) hv6 hk)
        have HR6 := Lib.hid (HR.out.filter fun p => !lateB p.d s)
        have hll := lates_le s ps
        have hpl := s5.que.2.2.2.1
        clear s5 k5 hQ6 hc6 hv6
        have HM := Lib.hid (fun (k : Nat) (hk : k < (stays s ps).length) => stays_at (s := s) (ps := ps) hk)
        have hml := stays_le s ps
        change Hid (Rise l j (stays s ps)) at HR6
        generalize hlq : lates s ps = L at ho6 HL hll
        generalize hmq : stays s ps = M at s6 HR6 HM hml
        clear hlq hmq
        go_wp2_with fail
        go_loopw [10] (fun vk wr => ∃ k m : Nat, k ≤ L.length ∧ vk = .int .i64 k ∧ wr = w6.drewN m) (fun vk _ => L.length - (intOf vk).toNat)
        case atStart => exact ⟨0, 0, Nat.zero_le _, rfl, rfl⟩
        case round =>
          obtain ⟨k, m, hk6, rfl, rfl⟩ := hrel
          by_cases hlt : k < L.length
          · obtain ⟨g, rfl, c0, c4⟩ := own_pk ho6 hlt
            obtain ⟨hd1, hd2⟩ := HL.out k hlt
            generalize (pkAt L k).d = d at c4 hd1 hd2
            clear c0
            have hI : (k : Int) < (L.length : Int) := by omega
            have hJ : (0 : Int) ≤ (k : Int) := by omega
            have b1 : decide (d < 0) = false := by simpa using hd1
            have b2 : decide (s ≤ d) = false := by simpa using hd2
            go_wp2_with fail
            go_roundw
            case rel => exact ⟨k + 1, _, by omega, by go_num, rfl⟩
            case measure => simp [intOf]; omega
          · obtain rfl : k = L.length := by omega
            have s7 := s6.toQuiet ((Chg.refl [] w6).drewN m)
            have k7 := k6.drewN m
            generalize hw7 : w6.drewN m = w7 at *
            clear hw7 s6 k6
            go_wp2_with fail
            refine (qpackets_c s7.que).mono ?_
            rintro e w8 ⟨A8, c8, rfl, ho8, hc8⟩
            have s8 := s7.toQuiet hc8
            have k8 := k7.trans hc8 (by simp)
            clear s7 k7 hc8 ho6 hlt HL
            go_wp2_with fail
            go_loopw [12] (fun vk wr => ∃ k m : Nat, k ≤ M.length ∧ vk = .int .i64 k ∧ wr = w8.drewN m) (fun vk _ => M.length - (intOf vk).toNat)
            case atStart => exact ⟨0, 0, Nat.zero_le _, rfl, rfl⟩
            case round =>
              obtain ⟨k, m, hk8, rfl, rfl⟩ := hrel
              by_cases hlt : k < M.length
              · obtain ⟨g, rfl, c0, c4⟩ := own_pk ho8 hlt
                have hd := HM.out k hlt
                have hI : (k : Int) < (M.length : Int) := by omega
                have hJ : (0 : Int) ≤ (k : Int) := by omega
                rcases Nat.eq_zero_or_pos k with rfl | hk0
                · generalize (pkAt M 0).d = d at c4 hd
                  clear c0
                  by_cases e0 : 0 ≤ d
                  · have b1 : decide (0 ≤ d) = true := by simpa using e0
                    have b2 : decide (d < s) = false := by simp; omega
                    go_wp2_with fail
                    go_quiet (fail)
                    go_wp2_with fail
                    go_roundw
                    case rel => exact ⟨0 + 1, _, by omega, by go_num, rfl⟩
                    case measure => simp [intOf]; omega
                  · have b1 : decide (0 ≤ d) = false := by simp; omega
                    go_wp2_with fail
                    go_quiet (fail)
                    go_wp2_with fail
                    go_roundw
                    case rel => exact ⟨0 + 1, _, by omega, by go_num, rfl⟩
                    case measure => simp [intOf]; omega
                · obtain ⟨k', rfl⟩ : ∃ k', k = k' + 1 := ⟨k - 1, by omega⟩
                  have hst := HR6.out.step hlt
                  obtain ⟨g', hg', x0, _⟩ := own_pk ho8 (show k' < M.length by omega)
                  injection hg' with hg'
                  injection hg' with hg'
                  subst hg'
                  generalize (pkAt M (k' + 1)).d = d at c4 hd
                  generalize (pkAt M (k' + 1)).i = i1 at c0 hst
                  generalize (pkAt M k').i = i0 at x0 hst
                  have b3 : decide (i1 ≤ i0) = false := by simpa using hst
                  have b4 : (0 : Int) ≤ (k' : Int) := by omega
                  have b5 : (k' : Int) < (M.length : Int) := by omega
                  by_cases e0 : 0 ≤ d
                  · have b1 : decide (0 ≤ d) = true := by simpa using e0
                    have b2 : decide (d < s) = false := by simp; omega
                    go_wp2_with fail
                    go_quiet (fail)
                    go_wp2_with fail
                    go_roundw
                    case rel => exact ⟨k' + 1 + 1, _, by omega, by go_num, rfl⟩
                    case measure => simp [intOf]; omega
                  · have b1 : decide (0 ≤ d) = false := by simp; omega
                    go_wp2_with fail
                    go_quiet (fail)
                    go_wp2_with fail
                    go_roundw
                    case rel => exact ⟨k' + 1 + 1, _, by omega, by go_num, rfl⟩
                    case measure => simp [intOf]; omega
              · obtain rfl : k = M.length := by omega
                have s9 := s8.toQuiet ((Chg.refl [] w8).drewN m)
                have k9 := k8.drewN m
                generalize hw9 : w8.drewN m = w9 at *
                clear hw9 s8 k8 ho8 hlt HM
                cases M with
                | nil =>
                  go_wp2_with fail
                  refine (qpop_nil s9.que).mono ?_
                  rintro e wa ⟨rfl, hQa, hca⟩
                  have sa := s9.toQue hQa (fun _ h => .inl h) hca
                  have ka := s9.below k9 rfl hca
                  have sb := sa.toQuiet ((Chg.refl [] wa).alloc (.cells #[.int .i64 0, .int .i64 0, .int .i64 0, .int .i64 0, .int .i64 0] 24))
                  have kb := ka.alloc (.cells #[.int .i64 0, .int .i64 0, .int .i64 0, .int .i64 0, .int .i64 0] 24)
                  go_wp2_with fail
                  go_roundw
                  case rel => exact ⟨j + 1, kk + 2, l, O, _, by omega, by omega, by omega, rfl, by go_num, hl0, by omega, HR6.out.more (by omega), sb, kb⟩
                  case measure => simp [intOf]; omega
                | cons p r =>
                  obtain ⟨p1, p2, p3⟩ := HR6.out
                  go_wp2_with fail
                  refine (qpop_cons s9.que).mono ?_
                  rintro e wa ⟨rfl, hQa, hca⟩
                  have sa := s9.toQue hQa (fun _ h => .inl h) hca
                  have ka := s9.below k9 rfl hca
                  have sb := sa.toQuiet ((Chg.refl [] wa).alloc (.cells #[.int .i64 p.i, .int .i64 p.f, .int .i64 p.l, .int .i64 p.a, .int .i64 p.d] 24))
                  have kb := ka.alloc (.cells #[.int .i64 p.i, .int .i64 p.f, .int .i64 p.l, .int .i64 p.a, .int .i64 p.d] 24)
                  go_wp2_with fail
                  go_roundw
                  case rel => exact ⟨j + 1, kk + 2, p.i, O, r, by omega, by omega, by omega, rfl, by go_num, by omega, by omega, p3.more (by omega), sb, kb⟩
                  case measure => simp [intOf]; omega
    · have hge : (40 : Int) ≤ (j : Int) := by omega
      go_wp2_with fail
      refine (qawake_c _).mono ?_
      rintro e wi ⟨rfl, hci⟩
      go_wp2_with fail
      go_ret
      exact ⟨rfl, (k3.trans hci (by simp)).below (Nat.le_refl _) (by simp)⟩

end Go.Proofs.Ytdlehpohpdepkaa
