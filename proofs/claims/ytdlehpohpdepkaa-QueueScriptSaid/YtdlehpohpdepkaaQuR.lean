/- Pop, Len, SetCaps said of QA; the walk of the statement QueueCaps. -/
import Derived.Test.YtdlehpohpdepkaaQuP
namespace Go.Proofs.Ytdlehpohpdepkaa
open Go.RowKit
set_option linter.unusedVariables false
set_option linter.unusedSimpArgs false

theorem chg_of {w a b : World} {r : Nat} (h : Chg [] w a) (k : Chg [r] a b) (hr : w.heap.size ≤ r) : Chg [] w b := h.trans k (by simp; omega)

section
variable {w : World} {B q : Nat} {O : List Nat} {most mb : Int} {ps : List Pk}
theorem qpop_nil (h : QA w B q O most mb []) :
    Calls Try.prog 15 #[.pointer (some ⟨q, 0, none⟩)] w fun e w' => e = .returned (.tuple #[.agg #[.int .i64 0, .int .i64 0, .int .i64 0, .int .i64 0, .int .i64 0], .int .i64 5]) ∧ QA w' B q O most mb [] ∧ Chg (q :: O) w w' := by
  have h0 := h
  obtain ⟨h1, h2, h3, h4, h5, A, c, h6, h7, h8⟩ := h
  refine (qpop_none q A c w ((h6.cell 2).trans rfl)).mono ?_
  rintro e w' ⟨rfl, hc⟩
  exact ⟨rfl, h0.chg hc (by simp) (by simp), hc.mono (by simp)⟩

theorem qpop_cons {p : Pk} {r : List Pk} (h : QA w B q O most mb (p :: r)) :
    Calls Try.prog 15 #[.pointer (some ⟨q, 0, none⟩)] w fun e w' => e = .returned (.tuple #[.agg #[.int .i64 p.i, .int .i64 p.f, .int .i64 p.l, .int .i64 p.a, .int .i64 p.d], .int .i64 0]) ∧ QA w' B q O most mb r ∧ Chg (q :: O) w w' := by
  obtain ⟨h1, h2, h3, h4, h5, A, c, h6, h7, h8⟩ := h
  have hv := vld_len (h5 p (by simp))
  have ht := tot_bd h5
  have hr5 : ∀ x ∈ r, vld x = true := fun x hx => h5 x (by simp [hx])
  rcases h7.2 with ⟨_, h0⟩ | ⟨g, cap, cur, e1, hg, hh, hnc, hcm, hcs, htk⟩
  · simp at h0
  · simp at e1
    obtain ⟨rfl, rfl⟩ := e1
    have hb : Blk w g 24 cur := hh
    have hgO : g ∈ O := h8 g (mem_ownL.2 rfl)
    simp only [List.length_cons] at hnc htk h6 h4
    have hat : ∀ j, j < (r.length + 1) * 5 → cur[j]? = ((p :: r).flatMap pkC)[j]? := fun j hj => by
      rw [← htk, List.getElem?_take, if_pos hj, Array.getElem?_toList]
    have hlen : ∀ j, j < 5 → cur[j]? = (pkC p)[j]? := fun j hj => by
      rw [hat j (by omega), List.flatMap_cons, List.getElem?_append_left (by simp [pkC]; omega)]
    unfold maxLen at hcm
    refine (qpop_some q g r.length c p.i p.f p.l p.a p.d most mb (tot (p :: r)) cur w h6 hb hcs hnc (by omega) hcm (by rw [htk]; exact flat_one _) (hlen 0 (by omega)) (hlen 1 (by omega)) (hlen 2 (by omega)) (hlen 3 (by omega)) (hlen 4 (by omega)) (by omega) hv.2.1 ht.1 (by have := ht.2; simp at this; omega)).mono ?_
    rintro e w' ⟨rfl, cs', hq', hb', hs', hc', hch⟩
    refine ⟨rfl, ⟨h1, h2, h3, by omega, hr5, some ⟨g, 0, none⟩, c, ?_, ?_, fun j hj => ?_⟩, hch.mono (fun x hx => ?_)⟩
    · rw [show tot r = tot (p :: r) - p.l from by simp [tot]; omega]
      exact hq'
    · refine ⟨flat_length r, .inr ⟨g, c, cs', rfl, hg, hb', by omega, by unfold maxLen; omega, hs', ?_⟩⟩
      apply List.ext_getElem?
      intro j
      rw [List.getElem?_take]
      by_cases hj : j < r.length * 5
      · rw [if_pos hj, Array.getElem?_toList, hc' j hj, hat (j + 5) (by omega), List.flatMap_cons, List.getElem?_append_right (by simp [pkC])]
        simp [pkC]
      · rw [if_neg hj, List.getElem?_eq_none (by rw [flat_length]; omega)]
    · have := mem_ownL.1 hj
      simp [Value.ownBlock] at this
      subst this
      exact hgO
    · simp at hx
      rcases hx with rfl | rfl
      · simp
      · simp [hgO]
end

set_option maxHeartbeats 400000 in
theorem qlen_raw (q : Nat) (A : Option Addr) (n c : Nat) (w : World) (h : w.cell? ⟨q, 2, none⟩ = some (.slice A n c)) :
    Calls Try.prog 17 #[.pointer (some ⟨q, 0, none⟩)] w fun e w' => e = .returned (.int .i64 (n : Nat)) ∧ ∃ m, w' = w.drewN m := by
  go_enter Try.func17, Try.ntmps17
  go_wp2
  go_ret
  exact ⟨rfl, 0, rfl⟩
theorem qlen_c {w : World} {B q : Nat} {O : List Nat} {most mb : Int} {ps : List Pk} (h : QA w B q O most mb ps) :
    Calls Try.prog 17 #[.pointer (some ⟨q, 0, none⟩)] w fun e w' => e = .returned (.int .i64 (ps.length : Nat)) ∧ ∃ m, w' = w.drewN m := by
  obtain ⟨h1, h2, h3, h4, h5, A, c, h6, h7, h8⟩ := h
  exact qlen_raw q _ _ _ w ((h6.cell 2).trans rfl)

set_option maxHeartbeats 1000000 in
theorem qcaps_raw (q : Nat) (n k v0 v1 : Int) (w : World) (hn : 1 ≤ n ∧ n ≤ 64 ∧ 1 ≤ k ∧ k ≤ 262144) (h0 : w.cell? ⟨q, 0, none⟩ = some (.int .i64 v0)) (h1 : w.cell? ⟨q, 1, none⟩ = some (.int .i64 v1)) (f0 : w.frozen? ⟨q, 0, none⟩ = false) (f1 : w.frozen? ⟨q, 1, none⟩ = false) :
    Calls Try.prog 14 #[.pointer (some ⟨q, 0, none⟩), .int .i64 n, .int .i64 k] w fun e w' => e = .returned (.int .i64 0) ∧ ∃ m, w' = ((w.setCell ⟨q, 0, none⟩ (.int .i64 n)).setCell ⟨q, 1, none⟩ (.int .i64 k)).drewN m := by
  obtain ⟨a1, a2, a3, a4⟩ := hn
  go_enter Try.func14, Try.ntmps14
  go_wp2
  try go_region
  all_goals
    go_wp2
    go_ret
    first | exact ⟨rfl, 0, rfl⟩ | exact ⟨rfl, _, rfl⟩

theorem qcaps_c {w : World} {B q : Nat} {O : List Nat} {most mb : Int} {ps : List Pk} (h : QA w B q O most mb ps) (n k : Int) (hn : 1 ≤ n ∧ n ≤ 64 ∧ 1 ≤ k ∧ k ≤ 262144) (hO : q ∉ O) :
    Calls Try.prog 14 #[.pointer (some ⟨q, 0, none⟩), .int .i64 n, .int .i64 k] w fun e w' => e = .returned (.int .i64 0) ∧ QA w' B q O n k ps ∧ Chg [q] w w' := by
  obtain ⟨h1, h2, h3, h4, h5, A, c, h6, h7, h8⟩ := h
  refine (qcaps_raw q n k most mb w hn ((h6.cell 0).trans rfl) ((h6.cell 1).trans rfl) (h6.frozen 0) (h6.frozen 1)).mono ?_
  rintro e w' ⟨rfl, m, rfl⟩
  have hc : Chg [q] w (((w.setCell ⟨q, 0, none⟩ (.int .i64 n)).setCell ⟨q, 1, none⟩ (.int .i64 k)).drewN m) := (((Chg.refl [q] w).setCell (by simp) _).setCell (by simp) _).drewN m
  refine ⟨rfl, ⟨h1, hn.2.1, hn.2.2.2, h4, h5, A, c, ?_, own_chg h7 hc (fun g hg => by simp; rintro rfl; exact hO (h8 g (mem_ownL.2 hg))), h8⟩, hc⟩
  have := ((h6.set_ 0 (.int .i64 n)).set_ 1 (.int .i64 k)).drewN m
  simp only [List.setIfInBounds_toArray, List.set_cons_succ, List.set_cons_zero] at this
  exact this

theorem QA.drewN {w : World} {B q : Nat} {O : List Nat} {most mb : Int} {ps : List Pk} (h : QA w B q O most mb ps) (m : Nat) : QA (w.drewN m) B q O most mb ps := h.chg ((Chg.refl [] w).drewN m) (by simp) (by simp)

/-- The state between two calls: the choices in block c, the queue in q and O. -/
structure QS (w : World) (B c q : Nat) (O : List Nat) (zs : List Int) (k : Nat) (most mb : Int) (ps : List Pk) : Prop where
  cho : Cho w B c zs k
  que : QA w B q O most mb ps
  cq : c ≠ q
  cO : c ∉ O
  qO : q ∉ O
  BO : ∀ j ∈ O, B ≤ j
  hB : B ≤ w.heap.size
section
variable {w w' : World} {B c q k : Nat} {O : List Nat} {zs : List Int} {most mb : Int} {ps : List Pk}
theorem QS.toCho {k' : Nat} (h : QS w B c q O zs k most mb ps) (hC : Cho w' B c zs k') (hc : Chg [c] w w') : QS w' B c q O zs k' most mb ps :=
  ⟨hC, h.que.chg hc (by simpa using h.cq.symm) (fun j hj => by simp; rintro rfl; exact h.cO hj), h.cq, h.cO, h.qO, h.BO, Nat.le_trans h.hB hc.size⟩
theorem QS.toQuiet (h : QS w B c q O zs k most mb ps) (hc : Chg [] w w') : QS w' B c q O zs k most mb ps :=
  ⟨h.cho.chg hc (by simp) (by simp), h.que.chg hc (by simp) (by simp), h.cq, h.cO, h.qO, h.BO, Nat.le_trans h.hB hc.size⟩
theorem QS.toQue {O' : List Nat} {most' mb' : Int} {ps' : List Pk} (h : QS w B c q O zs k most mb ps) (hQ : QA w' B q O' most' mb' ps') (hO : ∀ j ∈ O', j ∈ O ∨ w.heap.size ≤ j) (hc : Chg (q :: O) w w') : QS w' B c q O' zs k most' mb' ps' := by
  have h1 := h.cho.lt
  have h2 := h.que.lt
  have h3 := h.hB
  refine ⟨h.cho.chg hc (by simp [h.cq, h.cO]) (by simp; exact ⟨h2.1, h.BO⟩), hQ, h.cq, fun hm => ?_, fun hm => ?_, fun j hj => ?_, Nat.le_trans h.hB hc.size⟩
  · rcases hO _ hm with hx | hx
    · exact h.cO hx
    · omega
  · rcases hO _ hm with hx | hx
    · exact h.qO hx
    · omega
  · rcases hO j hj with hx | hx
    · exact h.BO j hx
    · omega
theorem QS.below {w0 : World} (h : QS w B c q O zs k most mb ps) (h0 : Chg [] w0 w) (hB : w0.heap.size = B) (hc : Chg (q :: O) w w') : Chg [] w0 w' :=
  h0.trans hc (by simp; exact ⟨by rw [hB]; exact h.que.lt.1, fun j hj => by rw [hB]; exact h.BO j hj⟩)
end

set_option maxRecDepth 100000 in
set_option maxHeartbeats 4000000 in
theorem queueCaps_walk {w : World} {a : Option Addr} {len cap : Nat} {zs : List Int} (hz : zs.length = len) (hl : len ≤ 9223372036854775807) (hi : Inp w w.heap.size a zs) :
    Calls Try.prog 4 #[.slice a len cap] w fun e w' => e = .returned (.bool true) ∧ Below w.heap.size w w' := by
  have hgn := gnew_c (cap := cap) hz hl hi
  clear hz hi
  go_enter Try.func4, Try.ntmps4
  go_wp2_with fail
  refine hgn.mono ?_
  rintro e w1 ⟨c, rfl, hC1, hc1⟩
  clear hgn
  have hcl := hC1.lt
  go_wp2_with fail
  refine (qnew_c 4 6000 (by omega) (by omega) (by omega) (by omega) w1 (B := w.heap.size) hc1.size).mono ?_
  rintro e w2 ⟨q, rfl, hQ2, hq, hc2⟩
  have s2 : QS w2 w.heap.size c q [] zs 0 4 6000 [] := ⟨hC1.chg hc2 (by simp) (by simp), hQ2, by omega, by simp, by simp, by simp, Nat.le_trans hc1.size hc2.size⟩
  have k2 := hc1.trans hc2 (by simp)
  clear hC1 hQ2 hc1 hc2
  go_wp2_with fail
  go_loopw [6, 7, 8] (fun vn vk vi wr => ∃ (j kk : Nat) (n k : Int) (O : List Nat) (ps : List Pk), 1 ≤ j ∧ j ≤ 30 ∧ kk ≤ 4 * j ∧ vn = .int .i64 n ∧ vk = .int .i64 k ∧ vi = .int .i64 j ∧ (1 ≤ n ∧ n ≤ 64 ∧ 1 ≤ k ∧ k ≤ 262144) ∧ QS wr w.heap.size c q O zs kk n k ps ∧ Chg [] w wr) (fun _ _ vi _ => 30 - (intOf vi).toNat)
  case atStart => exact ⟨1, 0, 4, 6000, [], [], by omega, by omega, by omega, rfl, rfl, rfl, by omega, s2, k2⟩
  case round =>
    obtain ⟨j, kk, n, k, O, ps, hj1, hj, hk, rfl, rfl, rfl, hnk, s3, k3⟩ := hrel
    clear s2 k2
    by_cases hj30 : j < 30
    · have hj' : (j : Int) < 30 := by omega
      have m1 := nx_nonneg zs kk 4
      have m2 := nx_lt zs kk 4 (by omega)
      go_wp2_with fail
      refine (next_c s3.cho (by omega) (by omega)).mono ?_
      rintro e w4 ⟨rfl, hC4, hc4⟩
      have s4 := s3.toCho hC4 hc4
      have k4 := chg_of k3 hc4 s3.cho.le
      clear s3 k3 hC4 hc4
      by_cases d0 : nx zs kk 4 = 0
      · rw [d0]
        have m3 := nx_nonneg zs (kk + 1) 5
        have m4 := nx_lt zs (kk + 1) 5 (by omega)
        have m5 := nx_nonneg zs (kk + 1 + 1) 4
        have m6 := nx_lt zs (kk + 1 + 1) 4 (by omega)
        go_wp2_with fail
        refine (next_c s4.cho (by omega) (by omega)).mono ?_
        rintro e w5 ⟨rfl, hC5, hc5⟩
        have s5 := s4.toCho hC5 hc5
        have k5 := chg_of k4 hc5 s4.cho.le
        go_wp2_with fail
        refine (next_c hC5 (by omega) (by omega)).mono ?_
        rintro e w6 ⟨rfl, hC6, hc6⟩
        have s6 := s5.toCho hC6 hc6
        have k6 := chg_of k5 hc6 s5.cho.le
        clear s4 s5 k4 k5 hC5 hC6 hc5 hc6
        generalize nx zs (kk + 1) 5 = na at m3 m4 ⊢
        generalize nx zs (kk + 1 + 1) 4 = nb at m5 m6 ⊢
        go_wp2_with fail
        refine (qcaps_c s6.que (1 + na) (1 + 2000 * nb) (by omega) s6.qO).mono ?_
        rintro e w7 ⟨rfl, hQ7, hc7⟩
        have hc7' := hc7.mono (S' := q :: O) (by simp)
        go_wp2_with fail
        go_roundw
        case rel => exact ⟨j + 1, kk + 3, _, _, O, ps, by omega, by omega, by omega, rfl, rfl, by go_num, by omega, s6.toQue hQ7 (fun _ h => .inl h) hc7', s6.below k6 rfl hc7'⟩
        case measure => simp [intOf]; omega
      · have D0 : (nx zs kk 4 == 0) = false := beq_eq_false_iff_ne.2 d0
        by_cases d1 : nx zs kk 4 = 1
        · rw [d1]
          clear D0
          cases ps with
          | nil =>
            go_wp2_with fail
            refine (qpop_nil s4.que).mono ?_
            rintro e w5 ⟨rfl, hQ5, hc5⟩
            go_wp2_with fail
            go_roundw
            case rel => exact ⟨j + 1, kk + 1, n, k, O, _, by omega, by omega, by omega, rfl, rfl, by go_num, hnk, s4.toQue hQ5 (fun _ h => .inl h) hc5, s4.below k4 rfl hc5⟩
            case measure => simp [intOf]; omega
          | cons p r =>
            go_wp2_with fail
            refine (qpop_cons s4.que).mono ?_
            rintro e w5 ⟨rfl, hQ5, hc5⟩
            go_wp2_with fail
            go_roundw
            case rel => exact ⟨j + 1, kk + 1, n, k, O, _, by omega, by omega, by omega, rfl, rfl, by go_num, hnk, s4.toQue hQ5 (fun _ h => .inl h) hc5, s4.below k4 rfl hc5⟩
            case measure => simp [intOf]; omega
        · have D1 : (nx zs kk 4 == 1) = false := beq_eq_false_iff_ne.2 d1
          go_wp2_with fail
          refine (length_c s4.cho (by omega)).mono ?_
          rintro e w5 ⟨ln, rfl, n1, n2, hC5, hc5⟩
          have s6 := (s4.toCho hC5 hc5).toQuiet ((Chg.refl [] w5).alloc (.cells #[.int .i64 (j : Nat), .int .i64 0, .int .i64 ln, .int .i64 0, .int .i64 (-1)] 24))
          have k6 := (chg_of k4 hc5 s4.cho.le).alloc (.cells #[.int .i64 (j : Nat), .int .i64 0, .int .i64 ln, .int .i64 0, .int .i64 (-1)] 24)
          have hx := Blk.new w5 24 #[.int .i64 (j : Nat), .int .i64 0, .int .i64 ln, .int .i64 0, .int .i64 (-1)]
          obtain ⟨x0, x1, x2, x3, x4⟩ := pk5 hx
          have htot := tot_bd s6.que.2.2.2.2.1
          have hps := s6.que.2.2.2.1
          have hvd : vld ⟨j, 0, ln, 0, -1⟩ = true := by
            unfold vld validB
            refine decide_eq_true ?_
            dsimp only
            omega
          clear s4 k4 hC5 hc5 hx
          by_cases hA : n < (ps.length : Int) + 1
          · have HE := Lib.hid (show qpE n k ps ⟨j, 0, ln, 0, -1⟩ = 4 from by rw [qpE, hvd, if_pos rfl, if_pos (.inl (by omega))])
            clear hvd
            skip
            go_wp2_with fail
            go_quiet ((first | (go_at_call 17; exact Calls.quiet_of (qlen_c (s6.que.drewN _))) | (go_at_call 18; exact Calls.quiet_of (qbytes_c (s6.que.drewN _)))))
            go_wp2_with fail
            refine (qpush_c (s6.que.drewN _) (by have := s6.hB; simp at this ⊢; omega) _ _ _ _ _).mono ?_
            rintro e w7 ⟨rfl, O', hQ7, hO7, hc7⟩
            rw [HE.out]
            go_wp2_with fail
            go_roundw
            case rel => exact ⟨j + 1, kk + 2, n, k, O', _, by omega, by omega, by omega, rfl, rfl, by go_num, hnk, (s6.toQuiet ((Chg.refl [] _).drewN _)).toQue hQ7 hO7 hc7, (s6.toQuiet ((Chg.refl [] _).drewN _)).below (k6.drewN _) rfl hc7⟩
            case measure => simp [intOf]; omega
          · by_cases hBt : k < tot ps + ln
            · have HE := Lib.hid (show qpE n k ps ⟨j, 0, ln, 0, -1⟩ = 4 from by rw [qpE, hvd, if_pos rfl, if_pos (.inr hBt)])
              clear hvd
              have hd : decide (n < (ps.length : Int) + 1) = false := by simpa using hA
              skip
              go_wp2_with fail
              go_quiet ((first | (go_at_call 17; exact Calls.quiet_of (qlen_c (s6.que.drewN _))) | (go_at_call 18; exact Calls.quiet_of (qbytes_c (s6.que.drewN _)))))
              go_wp2_with fail
              refine (qpush_c (s6.que.drewN _) (by have := s6.hB; simp at this ⊢; omega) _ _ _ _ _).mono ?_
              rintro e w7 ⟨rfl, O', hQ7, hO7, hc7⟩
              rw [HE.out]
              go_wp2_with fail
              go_roundw
              case rel => exact ⟨j + 1, kk + 2, n, k, O', _, by omega, by omega, by omega, rfl, rfl, by go_num, hnk, (s6.toQuiet ((Chg.refl [] _).drewN _)).toQue hQ7 hO7 hc7, (s6.toQuiet ((Chg.refl [] _).drewN _)).below (k6.drewN _) rfl hc7⟩
              case measure => simp [intOf]; omega
            · have HE := Lib.hid (show qpE n k ps ⟨j, 0, ln, 0, -1⟩ = 0 from by rw [qpE, hvd, if_pos rfl, if_neg (by dsimp only; omega)])
              clear hvd
              have hd : decide (n < (ps.length : Int) + 1) = false := by simpa using hA
              skip
              go_wp2_with fail
              go_quiet ((first | (go_at_call 17; exact Calls.quiet_of (qlen_c (s6.que.drewN _))) | (go_at_call 18; exact Calls.quiet_of (qbytes_c (s6.que.drewN _)))))
              go_wp2_with fail
              refine (qpush_c (s6.que.drewN _) (by have := s6.hB; simp at this ⊢; omega) _ _ _ _ _).mono ?_
              rintro e w7 ⟨rfl, O', hQ7, hO7, hc7⟩
              rw [HE.out]
              go_wp2_with fail
              go_roundw
              case rel => exact ⟨j + 1, kk + 2, n, k, O', _, by omega, by omega, by omega, rfl, rfl, by go_num, hnk, (s6.toQuiet ((Chg.refl [] _).drewN _)).toQue hQ7 hO7 hc7, (s6.toQuiet ((Chg.refl [] _).drewN _)).below (k6.drewN _) rfl hc7⟩
              case measure => simp [intOf]; omega
    · have hge : (30 : Int) ≤ (j : Int) := by omega
      go_wp2_with fail
      refine (qawake_c _).mono ?_
      rintro e wi ⟨rfl, hci⟩
      go_wp2_with fail
      go_ret
      exact ⟨rfl, (k3.trans hci (by simp)).below (Nat.le_refl _) (by simp)⟩

end Go.Proofs.Ytdlehpohpdepkaa
