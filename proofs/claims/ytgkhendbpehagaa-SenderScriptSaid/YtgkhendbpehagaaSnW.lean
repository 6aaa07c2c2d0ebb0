/- The walk of the statement SenderWindow. -/
import Derived.Test.YtgkhendbpehagaaSnY
namespace Go.Proofs.Ytgkhendbpehagaa
open Go.RowKit
set_option linter.unusedVariables false
set_option linter.unusedSimpArgs false

/-- Numbers and ids rise, from above lo and lid to below nx and i. -/
def RiseW (lo lid nx i : Int) : List Sn → Prop
  | [] => True
  | p :: r => lo < p.q ∧ p.q < nx ∧ lid < p.i ∧ p.i < i ∧ RiseW p.q p.i nx i r

section
variable {lo lid nx i lo' lid' nx' i' : Int} {ps qs : List Sn}
theorem RiseW.low (h : RiseW lo lid nx i ps) (h1 : lo' ≤ lo) (h2 : lid' ≤ lid) : RiseW lo' lid' nx i ps := by
  cases ps with
  | nil => trivial
  | cons p r => exact ⟨by have := h.1; omega, h.2.1, by have := h.2.2.1; omega, h.2.2.2⟩
theorem RiseW.more (h : RiseW lo lid nx i ps) (h1 : nx ≤ nx') (h2 : i ≤ i') : RiseW lo lid nx' i' ps := by
  induction ps generalizing lo lid with
  | nil => trivial
  | cons p r ih => exact ⟨h.1, by have := h.2.1; omega, h.2.2.1, by have := h.2.2.2.1; omega, ih h.2.2.2.2⟩
theorem RiseW.sub (h : RiseW lo lid nx i ps) (hs : List.Sublist qs ps) : RiseW lo lid nx i qs := by
  induction hs generalizing lo lid with
  | slnil => trivial
  | cons a _ ih => exact (ih h.2.2.2.2).low (by have := h.1; omega) (by have := h.2.2.1; omega)
  | cons_cons a _ ih => exact ⟨h.1, h.2.1, h.2.2.1, h.2.2.2.1, ih h.2.2.2.2⟩
theorem RiseW.base (h : RiseW lo lid nx i ps) (h0 : lo < nx) : lo < bs nx ps ∧ bs nx ps ≤ nx := by
  cases ps with
  | nil => exact ⟨h0, Int.le_refl _⟩
  | cons p r => exact ⟨h.1, by have := h.2.1; show p.q ≤ nx; omega⟩
theorem RiseW.bs_sub (h : RiseW lo lid nx i ps) (hs : List.Sublist qs ps) : bs nx ps ≤ bs nx qs := by
  induction hs generalizing lo lid with
  | slnil => exact Int.le_refl _
  | cons a hs ih =>
    have := (h.2.2.2.2.sub hs).base h.2.1
    show a.q ≤ _
    omega
  | cons_cons a _ _ => exact Int.le_refl _
theorem RiseW.snoc (h : RiseW lo lid nx i ps) (h0 : lo < nx) (h1 : lid < i) (t : Int) : RiseW lo lid (nx + 1) (i + 1) (ps ++ [⟨nx, i, t⟩]) := by
  induction ps generalizing lo lid with
  | nil => exact ⟨h0, by show nx < nx + 1; omega, h1, by show i < i + 1; omega, trivial⟩
  | cons p r ih => exact ⟨h.1, by have := h.2.1; omega, h.2.2.1, by have := h.2.2.2.1; omega, ih h.2.2.2.2 h.2.1 h.2.2.2.1⟩
theorem RiseW.at_ (h : RiseW lo lid nx i ps) {k : Nat} (hk : k < ps.length) : lo < ps[k].q ∧ ps[k].q < nx := by
  induction ps generalizing lo lid k with
  | nil => simp at hk
  | cons p r ih =>
    cases k with
    | zero => exact ⟨h.1, h.2.1⟩
    | succ k =>
      have := ih h.2.2.2.2 (k := k) (by simpa using hk)
      have h1 := h.1
      exact ⟨by show lo < (r[k]'_).q; omega, this.2⟩
theorem RiseW.step (h : RiseW lo lid nx i ps) {k : Nat} (hk : k + 1 < ps.length) : ps[k].q < ps[k + 1].q ∧ ps[k].i < ps[k + 1].i := by
  induction ps generalizing lo lid k with
  | nil => simp at hk
  | cons p r ih =>
    cases k with
    | zero =>
      cases r with
      | nil => simp at hk
      | cons q t => exact ⟨h.2.2.2.2.1, h.2.2.2.2.2.2.1⟩
    | succ k => exact ih h.2.2.2.2 (k := k) (by simpa using hk)
end

/-- The window. -/
def Win (wd nx i : Int) (ps : List Sn) : Prop := RiseW (-1) 0 nx i ps ∧ nx - bs nx ps ≤ wd

theorem Win.sub {wd nx i : Int} {ps qs : List Sn} (h : Win wd nx i ps) (hs : List.Sublist qs ps) : Win wd nx i qs :=
  ⟨h.1.sub hs, by have := h.1.bs_sub hs; have := h.2; omega⟩
theorem Win.more {wd nx i j : Int} {ps : List Sn} (h : Win wd nx i ps) (hj : i ≤ j) : Win wd nx j ps := ⟨h.1.more (Int.le_refl _) hj, h.2⟩
theorem dst_le {a b : Int} (h0 : 0 ≤ a) (h1 : a ≤ b) (h2 : b < 65536) : dst a b = b - a := by unfold dst; omega
theorem dst_self {a : Int} : dst a a = 0 := by unfold dst; omega
theorem bs_snoc (nx : Int) (ps : List Sn) (i t : Int) : bs (nx + 1) (ps ++ [⟨nx, i, t⟩]) = bs nx ps := by
  cases ps <;> rfl
theorem Win.snoc {wd nx i : Int} {ps : List Sn} (h : Win wd nx i ps) (h0 : 0 ≤ nx) (h1 : 0 < i) (hn : nx < 65536) (hd : dst (bs nx ps) nx < wd) : Win wd (nx + 1) (i + 1) (ps ++ [⟨nx, i, 0⟩]) := by
  have hb := h.1.base (by omega)
  rw [dst_le (by omega) hb.2 hn] at hd
  exact ⟨h.1.snoc (by omega) h1 0, by rw [bs_snoc]; omega⟩

/-- The state between two calls: the choices in block c, the sender in s and O. -/
structure SS (w : World) (B c s : Nat) (O : List Nat) (zs : List Int) (k : Nat) (wd tr nx : Int) (ps : List Sn) : Prop where
  cho : Cho w B c zs k
  snd : SA w B s O wd tr nx ps
  cs : c ≠ s
  cO : c ∉ O
  hB : B ≤ w.heap.size
section
variable {w w' : World} {B c s k : Nat} {O : List Nat} {zs : List Int} {wd tr nx : Int} {ps : List Sn}
theorem SS.toCho {k' : Nat} (h : SS w B c s O zs k wd tr nx ps) (hC : Cho w' B c zs k') (hc : Chg [c] w w') : SS w' B c s O zs k' wd tr nx ps :=
  ⟨hC, h.snd.chg hc (by simpa using h.cs.symm) (fun j hj => by simp; rintro rfl; exact h.cO hj), h.cs, h.cO, Nat.le_trans h.hB hc.size⟩
theorem SS.toQuiet (h : SS w B c s O zs k wd tr nx ps) (hc : Chg [] w w') : SS w' B c s O zs k wd tr nx ps :=
  ⟨h.cho.chg hc (by simp) (by simp), h.snd.chg hc (by simp) (by simp), h.cs, h.cO, Nat.le_trans h.hB hc.size⟩
theorem SS.toSnd {O' : List Nat} {nx' : Int} {ps' : List Sn} (h : SS w B c s O zs k wd tr nx ps) (hA : SA w' B s O' wd tr nx' ps') (hO : ∀ j ∈ O', j ∈ O ∨ w.heap.size ≤ j) (hc : Chg (s :: O) w w') : SS w' B c s O' zs k wd tr nx' ps' := by
  have h1 := h.cho.lt
  refine ⟨h.cho.chg hc (by simp [h.cs, h.cO]) (by simp; exact ⟨h.snd.Bs, h.snd.BO⟩), hA, h.cs, fun hm => ?_, Nat.le_trans h.hB hc.size⟩
  rcases hO _ hm with hx | hx
  · exact h.cO hx
  · omega
theorem SS.below {w0 : World} (h : SS w B c s O zs k wd tr nx ps) (h0 : Chg [] w0 w) (hB : w0.heap.size = B) (hc : Chg (s :: O) w w') : Chg [] w0 w' :=
  h0.trans hc (by simp; exact ⟨by rw [hB]; exact h.snd.Bs, fun j hj => by rw [hB]; exact h.snd.BO j hj⟩)
end
theorem chg_of {w a b : World} {r : Nat} (h : Chg [] w a) (k : Chg [r] a b) (hr : w.heap.size ≤ r) : Chg [] w b := h.trans k (by simp; omega)

theorem own_sn {w : World} {B n c k : Nat} {A : Option Addr} {ps : List Sn} (h : w.ownsRow B 39 3 (.slice A n c) n (ps.flatMap snC)) (hk : k < ps.length) :
    ∃ g, A = some ⟨g, 0, none⟩ ∧ w.cell? ⟨g, k * 3, none⟩ = some (.int .i64 ps[k].q) ∧ w.cell? ⟨g, k * 3 + 1, none⟩ = some (.int .i64 ps[k].i) ∧ w.cell? ⟨g, k * 3 + 2, none⟩ = some (.int .i64 ps[k].t) := by
  rcases (own_row snCells (by omega) h).2 with ⟨_, _, rfl⟩ | ⟨g, rfl, _, hr⟩
  · simp at hk
  · exact ⟨g, rfl, row_sn hr hk⟩

set_option maxRecDepth 100000 in
set_option maxHeartbeats 8000000 in
theorem senderWindow_walk {w : World} {a : Option Addr} {len cap : Nat} {zs : List Int} (hz : zs.length = len) (hl : len ≤ 9223372036854775807) (hi : Inp w w.heap.size a zs) :
    Calls Try.prog 4 #[.slice a len cap] w fun e w' => e = .returned (.bool true) ∧ Below w.heap.size w w' := by
  have hgn := gnew_c (cap := cap) hz hl hi
  clear hz hi
  have m1 := nx_nonneg zs 0 8
  have m2 := nx_lt zs 0 8 (by omega)
  go_enter Try.func4, Try.ntmps4
  go_wp2_with fail
  refine hgn.mono ?_
  rintro e w1 ⟨c, rfl, hC1, hc1⟩
  clear hgn
  go_wp2_with fail
  refine (next_c hC1 (by omega) (by omega)).mono ?_
  rintro e w1' ⟨rfl, hC1', hc1'⟩
  have k1 := chg_of hc1 hc1' hC1.le
  have hcl := hC1'.lt
  generalize nx zs 0 8 = wz at m1 m2 ⊢
  clear hC1 hc1 hc1'
  go_wp2_with fail
  refine (snew_c (1 + wz) 2 (by omega) (by omega) (by omega) (by omega) w1' (B := w.heap.size) k1.size).mono ?_
  rintro e w2 ⟨s, rfl, hA2, hs, hc2⟩
  have s2 : SS w2 w.heap.size c s [] zs 1 (1 + wz) 2 0 [] := ⟨hC1'.chg hc2 (by simp) (by simp), hA2, by omega, by simp, Nat.le_trans k1.size hc2.size⟩
  have k2 := k1.trans hc2 (by simp)
  clear hC1' hA2 k1 hc2
  go_wp2_with fail
  go_loopw [7, 8] (fun vn vi wr => ∃ (j kk : Nat) (nx : Int) (O : List Nat) (ps : List Sn), 1 ≤ j ∧ j ≤ 60 ∧ kk ≤ 4 * j ∧ vn = .int .i64 nx ∧ vi = .int .i64 j ∧ 0 ≤ nx ∧ nx < j ∧ ps.length < j ∧ Win (1 + wz) nx j ps ∧ SS wr w.heap.size c s O zs kk (1 + wz) 2 nx ps ∧ Chg [] w wr) (fun _ vi _ => 60 - (intOf vi).toNat)
  case atStart => exact ⟨1, 1, 0, [], [], by omega, by omega, by omega, rfl, rfl, by omega, by omega, by simp, ⟨trivial, by show (0 : Int) - 0 ≤ _; omega⟩, s2, k2⟩
  case round =>
    obtain ⟨j, kk, nn, O, ps, hj1, hj, hk, rfl, rfl, hn0, hnj, hpl, hW, s3, k3⟩ := hrel
    clear s2 k2
    have HW := Lib.hid hW
    clear hW
    by_cases hj60 : j < 60
    · have hj' : (j : Int) < 60 := by omega
      have m1 := nx_nonneg zs kk 3
      have m2 := nx_lt zs kk 3 (by omega)
      go_wp2_with fail
      refine (next_c s3.cho (by omega) (by omega)).mono ?_
      rintro e w4 ⟨rfl, hC4, hc4⟩
      have s4 := s3.toCho hC4 hc4
      have k4 := chg_of k3 hc4 s3.cho.le
      clear s3 k3 hC4 hc4
      by_cases d0 : nx zs kk 3 = 0
      · clear m1 m2
        rw [d0]
        have m5 := nx_nonneg zs (kk + 1) 64
        have m6 := nx_lt zs (kk + 1) 64 (by omega)
        go_wp2_with fail
        refine (sbase_c s4.snd).mono ?_
        rintro e w5 ⟨rfl, mb, rfl⟩
        have sb := s4.toQuiet ((Chg.refl [] w4).drewN mb)
        have kb := k4.drewN mb
        clear s4 k4
        generalize w4.drewN mb = w5 at *
        have hbb := sb.snd.bs
        go_wp2_with fail
        refine (next_c sb.cho (by omega) (by omega)).mono ?_
        rintro e w6 ⟨rfl, hC6, hc6⟩
        have s6 := sb.toCho hC6 hc6
        have k6 := chg_of kb hc6 sb.cho.le
        clear sb kb hC6 hc6
        generalize nx zs (kk + 1) 64 = bits at m5 m6 ⊢
        have hcv : IntKind.u64.wrap bits = bits := by rw [IntKind.wrap_u64]; omega
        go_wp2_with fail
        refine (sack_c s6.snd (bs nn ps) bits ⟨hbb, by rw [dst_self]; omega, by rw [dst_self]; exact (dst_bd _ _).1⟩ m5 (by omega)).mono ?_
        rintro e w7 ⟨A7, c7, O5, rfl, _, hA7, hO7, _, hc7⟩
        have s5 := s6.toSnd hA7 (fun j hj => .inr (hO7 j hj)) hc7
        have k5 := s6.below k6 rfl hc7
        have HW5 := Lib.hid ((HW.out.sub (List.filter_sublist (p := fun p => !ackB (bs nn ps) bits p))).more (show (j : Int) ≤ (j : Int) + 1 by omega))
        have hpl5 : (kept (bs nn ps) bits ps).length < j + 1 := by have := kept_le (bs nn ps) bits ps; omega
        change Hid (Win (1 + wz) nn (↑j + 1) (kept (bs nn ps) bits ps)) at HW5
        clear s6 k6 hA7 hc7 hO7 hcv
        go_wp2_with fail
        refine (spend_c s5.snd).mono ?_
        rintro e w8 ⟨A8, c8, rfl, ho8, hc8⟩
        have s8 := s5.toQuiet hc8
        have k8 := k5.trans hc8 (by simp)
        have hB8 : 0 ≤ w8.heap.size := Nat.zero_le _
        clear s5 k5 hc8
        have hx5 : 0 ≤ nn ∧ nn < (j : Int) + 1 := by omega
        generalize kept (bs nn ps) bits ps = PS at *
        generalize nn = nx5 at *
        go_wp2_with fail
        go_loopw [12] (fun vk wr => ∃ k : Nat, k ≤ PS.length ∧ vk = .int .i64 k ∧ SS wr w.heap.size c s O5 zs (kk + 1 + 1) (1 + wz) 2 nx5 PS ∧ Chg [] w wr ∧ wr.ownsRow 0 39 3 (.slice A8 PS.length c8) PS.length (PS.flatMap snC)) (fun vk _ => PS.length - (intOf vk).toNat)
        case atStart => exact ⟨0, Nat.zero_le _, rfl, s8, k8, own_base ho8 (Nat.zero_le _)⟩
        case round =>
          clear s8 k8 ho8
          obtain ⟨k, hk8, rfl, s9, k9, ho9⟩ := hrel
          by_cases hlt : k < PS.length
          · obtain ⟨g, rfl, c0, c1, _⟩ := own_sn ho9 hlt
            have hq := HW5.out.1.at_ hlt
            have hbw := HW5.out.2
            have hb := HW5.out.1.base (by omega)
            have HB := Lib.hid (fun n => sbase_c (s9.snd.drewN n))
            have HO9 := Lib.hid ho9
            have HST := Lib.hid (fun k' (h : k' + 1 < PS.length) => HW5.out.1.step h)
            have HC := Lib.hid (fun k' (h : k' < PS.length) => own_sn ho9 h)
            clear ho9
            generalize bs nx5 PS = b at hbw hb HB
            have hI : (k : Int) < (PS.length : Int) := by omega
            have hJ : (0 : Int) ≤ (k : Int) := by omega
            rcases Nat.eq_zero_or_pos k with rfl | hk0
            · generalize (PS[0]).q = q at c0 hq
              clear c1
              have b1 : decide (1 + wz ≤ q - b) = false := decide_eq_false (by omega)
              have b2 : decide (nx5 ≤ q) = false := decide_eq_false (by omega)
              go_wp2_with fail
              go_quiet ((go_at_call 14; exact Calls.quiet_of (HB.out _)))
              go_wp2_with fail
              go_roundw
              case rel => exact ⟨0 + 1, by omega, by go_num, s9.toQuiet ((Chg.refl [] _).drewN _), k9.drewN _, own_chg (HO9.out) ((Chg.refl [] _).drewN _) (by simp)⟩
              case measure => simp [intOf]; omega
            · obtain ⟨k', rfl⟩ : ∃ k', k = k' + 1 := ⟨k - 1, by omega⟩
              have hst := HST.out k' hlt
              obtain ⟨g', hg', x0, x1, _⟩ := HC.out k' (by omega)
              injection hg' with hg'
              injection hg' with hg'
              subst hg'
              clear HST HC
              generalize (PS[k' + 1]).q = q at c0 hq hst
              generalize (PS[k' + 1]).i = id1 at c1 hst
              generalize (PS[k']'(by omega)).q = q0 at x0 hst
              generalize (PS[k']'(by omega)).i = id0 at x1 hst
              have b1 : decide (1 + wz ≤ q - b) = false := decide_eq_false (by omega)
              have b2 : decide (nx5 ≤ q) = false := decide_eq_false (by omega)
              have b3 : decide (q ≤ q0) = false := decide_eq_false (by omega)
              have b4 : decide (id1 ≤ id0) = false := decide_eq_false (by omega)
              have b5 : (0 : Int) ≤ (k' : Int) := by omega
              have b6 : (k' : Int) < (PS.length : Int) := by omega
              go_wp2_with fail
              go_quiet ((go_at_call 14; exact Calls.quiet_of (HB.out _)))
              go_wp2_with fail
              go_roundw
              case rel => exact ⟨k' + 1 + 1, by omega, by go_num, s9.toQuiet ((Chg.refl [] _).drewN _), k9.drewN _, own_chg (HO9.out) ((Chg.refl [] _).drewN _) (by simp)⟩
              case measure => simp [intOf]; omega
          · obtain rfl : k = PS.length := by omega
            clear ho9
            go_wp2_with fail
            go_roundw
            case rel => exact ⟨j + 1, (kk + 1 + 1), nx5, O5, PS, by omega, by omega, by omega, rfl, by go_num, by omega, by omega, by omega, HW5.out, s9, k9⟩
            case measure => simp [intOf]; omega
      · have D0 : (nx zs kk 3 == 0) = false := beq_eq_false_iff_ne.2 d0
        by_cases d1 : nx zs kk 3 = 1
        · clear m1 m2
          rw [d1]
          clear D0
          have m5 := nx_nonneg zs (kk + 1) 4
          have m6 := nx_lt zs (kk + 1) 4 (by omega)
          go_wp2_with fail
          refine (sbase_c s4.snd).mono ?_
          rintro e w5 ⟨rfl, mb, rfl⟩
          have sb := s4.toQuiet ((Chg.refl [] w4).drewN mb)
          have kb := k4.drewN mb
          clear s4 k4
          generalize w4.drewN mb = w5 at *
          have hbb := sb.snd.bs
          go_wp2_with fail
          refine (next_c sb.cho (by omega) (by omega)).mono ?_
          rintro e w6 ⟨rfl, hC6, hc6⟩
          have s6 := sb.toCho hC6 hc6
          have k6 := chg_of kb hc6 sb.cho.le
          clear sb kb hC6 hc6
          generalize nx zs (kk + 1) 4 = z at m5 m6 ⊢
          generalize bs nn ps = b at hbb ⊢
          go_wp2_with fail
          cases hf : fnd ((b + z) % 65536) ps with
          | none =>
            refine (sdrop_none s6.snd ((b + z) % 65536) hf).mono ?_
            rintro e w7 ⟨rfl, hc7⟩
            have s5 := s6.toQuiet hc7
            have k5 := k6.trans hc7 (by simp)
            have HW5 := Lib.hid (HW.out.more (show (j : Int) ≤ (j : Int) + 1 by omega))
            have hpl5 : ps.length < j + 1 := by omega
            obtain ⟨O5, hO5⟩ : ∃ O5, O5 = O := ⟨_, rfl⟩
            rw [← hO5] at s5
            clear s6 k6 hc7 hf hO5
            go_wp2_with fail
            refine (spend_c s5.snd).mono ?_
            rintro e w8 ⟨A8, c8, rfl, ho8, hc8⟩
            have s8 := s5.toQuiet hc8
            have k8 := k5.trans hc8 (by simp)
            have hB8 : 0 ≤ w8.heap.size := Nat.zero_le _
            clear s5 k5 hc8
            have hx5 : 0 ≤ nn ∧ nn < (j : Int) + 1 := by omega
            generalize ps = PS at *
            generalize nn = nx5 at *
            go_wp2_with fail
            go_loopw [12] (fun vk wr => ∃ k : Nat, k ≤ PS.length ∧ vk = .int .i64 k ∧ SS wr w.heap.size c s O5 zs (kk + 1 + 1) (1 + wz) 2 nx5 PS ∧ Chg [] w wr ∧ wr.ownsRow 0 39 3 (.slice A8 PS.length c8) PS.length (PS.flatMap snC)) (fun vk _ => PS.length - (intOf vk).toNat)
            case atStart => exact ⟨0, Nat.zero_le _, rfl, s8, k8, own_base ho8 (Nat.zero_le _)⟩
            case round =>
              clear s8 k8 ho8
              obtain ⟨k, hk8, rfl, s9, k9, ho9⟩ := hrel
              by_cases hlt : k < PS.length
              · obtain ⟨g, rfl, c0, c1, _⟩ := own_sn ho9 hlt
                have hq := HW5.out.1.at_ hlt
                have hbw := HW5.out.2
                have hb := HW5.out.1.base (by omega)
                have HB := Lib.hid (fun n => sbase_c (s9.snd.drewN n))
                have HO9 := Lib.hid ho9
                have HST := Lib.hid (fun k' (h : k' + 1 < PS.length) => HW5.out.1.step h)
                have HC := Lib.hid (fun k' (h : k' < PS.length) => own_sn ho9 h)
                clear ho9
                generalize bs nx5 PS = b at hbw hb HB
                have hI : (k : Int) < (PS.length : Int) := by omega
                have hJ : (0 : Int) ≤ (k : Int) := by omega
                rcases Nat.eq_zero_or_pos k with rfl | hk0
                · generalize (PS[0]).q = q at c0 hq
                  clear c1
                  have b1 : decide (1 + wz ≤ q - b) = false := decide_eq_false (by omega)
                  have b2 : decide (nx5 ≤ q) = false := decide_eq_false (by omega)
                  go_wp2_with fail
                  go_quiet ((go_at_call 14; exact Calls.quiet_of (HB.out _)))
                  go_wp2_with fail
                  go_roundw
                  case rel => exact ⟨0 + 1, by omega, by go_num, s9.toQuiet ((Chg.refl [] _).drewN _), k9.drewN _, own_chg (HO9.out) ((Chg.refl [] _).drewN _) (by simp)⟩
                  case measure => simp [intOf]; omega
                · obtain ⟨k', rfl⟩ : ∃ k', k = k' + 1 := ⟨k - 1, by omega⟩
                  have hst := HST.out k' hlt
                  obtain ⟨g', hg', x0, x1, _⟩ := HC.out k' (by omega)
                  injection hg' with hg'
                  injection hg' with hg'
                  subst hg'
                  clear HST HC
                  generalize (PS[k' + 1]).q = q at c0 hq hst
                  generalize (PS[k' + 1]).i = id1 at c1 hst
                  generalize (PS[k']'(by omega)).q = q0 at x0 hst
                  generalize (PS[k']'(by omega)).i = id0 at x1 hst
                  have b1 : decide (1 + wz ≤ q - b) = false := decide_eq_false (by omega)
                  have b2 : decide (nx5 ≤ q) = false := decide_eq_false (by omega)
                  have b3 : decide (q ≤ q0) = false := decide_eq_false (by omega)
                  have b4 : decide (id1 ≤ id0) = false := decide_eq_false (by omega)
                  have b5 : (0 : Int) ≤ (k' : Int) := by omega
                  have b6 : (k' : Int) < (PS.length : Int) := by omega
                  go_wp2_with fail
                  go_quiet ((go_at_call 14; exact Calls.quiet_of (HB.out _)))
                  go_wp2_with fail
                  go_roundw
                  case rel => exact ⟨k' + 1 + 1, by omega, by go_num, s9.toQuiet ((Chg.refl [] _).drewN _), k9.drewN _, own_chg (HO9.out) ((Chg.refl [] _).drewN _) (by simp)⟩
                  case measure => simp [intOf]; omega
              · obtain rfl : k = PS.length := by omega
                clear ho9
                go_wp2_with fail
                go_roundw
                case rel => exact ⟨j + 1, (kk + 1 + 1), nx5, O5, PS, by omega, by omega, by omega, rfl, by go_num, by omega, by omega, by omega, HW5.out, s9, k9⟩
                case measure => simp [intOf]; omega
          | some i =>
            obtain ⟨hik, _⟩ := fnd_spec hf
            refine (sdrop_c s6.snd ((b + z) % 65536) hf hik).mono ?_
            rintro e w7 ⟨rfl, hA7, hc7⟩
            have s5 := s6.toSnd hA7 (fun j hj => .inl hj) hc7
            have k5 := s6.below k6 rfl hc7
            have HW5 := Lib.hid ((HW.out.sub (List.eraseIdx_sublist ps i)).more (show (j : Int) ≤ (j : Int) + 1 by omega))
            have hpl5 : (ps.eraseIdx i).length < j + 1 := by have := List.length_eraseIdx_le ps i; omega
            obtain ⟨O5, hO5⟩ : ∃ O5, O5 = O := ⟨_, rfl⟩
            rw [← hO5] at s5
            clear s6 k6 hc7 hA7 hf hO5
            go_wp2_with fail
            refine (spend_c s5.snd).mono ?_
            rintro e w8 ⟨A8, c8, rfl, ho8, hc8⟩
            have s8 := s5.toQuiet hc8
            have k8 := k5.trans hc8 (by simp)
            have hB8 : 0 ≤ w8.heap.size := Nat.zero_le _
            clear s5 k5 hc8
            have hx5 : 0 ≤ nn ∧ nn < (j : Int) + 1 := by omega
            generalize ps.eraseIdx i = PS at *
            generalize nn = nx5 at *
            go_wp2_with fail
            go_loopw [12] (fun vk wr => ∃ k : Nat, k ≤ PS.length ∧ vk = .int .i64 k ∧ SS wr w.heap.size c s O5 zs (kk + 1 + 1) (1 + wz) 2 nx5 PS ∧ Chg [] w wr ∧ wr.ownsRow 0 39 3 (.slice A8 PS.length c8) PS.length (PS.flatMap snC)) (fun vk _ => PS.length - (intOf vk).toNat)
            case atStart => exact ⟨0, Nat.zero_le _, rfl, s8, k8, own_base ho8 (Nat.zero_le _)⟩
            case round =>
              clear s8 k8 ho8
              obtain ⟨k, hk8, rfl, s9, k9, ho9⟩ := hrel
              by_cases hlt : k < PS.length
              · obtain ⟨g, rfl, c0, c1, _⟩ := own_sn ho9 hlt
                have hq := HW5.out.1.at_ hlt
                have hbw := HW5.out.2
                have hb := HW5.out.1.base (by omega)
                have HB := Lib.hid (fun n => sbase_c (s9.snd.drewN n))
                have HO9 := Lib.hid ho9
                have HST := Lib.hid (fun k' (h : k' + 1 < PS.length) => HW5.out.1.step h)
                have HC := Lib.hid (fun k' (h : k' < PS.length) => own_sn ho9 h)
                clear ho9
                generalize bs nx5 PS = b at hbw hb HB
                have hI : (k : Int) < (PS.length : Int) := by omega
                have hJ : (0 : Int) ≤ (k : Int) := by omega
                rcases Nat.eq_zero_or_pos k with rfl | hk0
                · generalize (PS[0]).q = q at c0 hq
                  clear c1
                  have b1 : decide (1 + wz ≤ q - b) = false := decide_eq_false (by omega)
                  have b2 : decide (nx5 ≤ q) = false := decide_eq_false (by omega)
                  go_wp2_with fail
                  go_quiet ((go_at_call 14; exact Calls.quiet_of (HB.out _)))
                  go_wp2_with fail
                  go_roundw
                  case rel => exact ⟨0 + 1, by omega, by go_num, s9.toQuiet ((Chg.refl [] _).drewN _), k9.drewN _, own_chg (HO9.out) ((Chg.refl [] _).drewN _) (by simp)⟩
                  case measure => simp [intOf]; omega
                · obtain ⟨k', rfl⟩ : ∃ k', k = k' + 1 := ⟨k - 1, by omega⟩
                  have hst := HST.out k' hlt
                  obtain ⟨g', hg', x0, x1, _⟩ := HC.out k' (by omega)
                  injection hg' with hg'
                  injection hg' with hg'
                  subst hg'
                  clear HST HC
                  generalize (PS[k' + 1]).q = q at c0 hq hst
                  generalize (PS[k' + 1]).i = id1 at c1 hst
                  generalize (PS[k']'(by omega)).q = q0 at x0 hst
                  generalize (PS[k']'(by omega)).i = id0 at x1 hst
                  have b1 : decide (1 + wz ≤ q - b) = false := decide_eq_false (by omega)
                  have b2 : decide (nx5 ≤ q) = false := decide_eq_false (by omega)
                  have b3 : decide (q ≤ q0) = false := decide_eq_false (by omega)
                  have b4 : decide (id1 ≤ id0) = false := decide_eq_false (by omega)
                  have b5 : (0 : Int) ≤ (k' : Int) := by omega
                  have b6 : (k' : Int) < (PS.length : Int) := by omega
                  go_wp2_with fail
                  go_quiet ((go_at_call 14; exact Calls.quiet_of (HB.out _)))
                  go_wp2_with fail
                  go_roundw
                  case rel => exact ⟨k' + 1 + 1, by omega, by go_num, s9.toQuiet ((Chg.refl [] _).drewN _), k9.drewN _, own_chg (HO9.out) ((Chg.refl [] _).drewN _) (by simp)⟩
                  case measure => simp [intOf]; omega
              · obtain rfl : k = PS.length := by omega
                clear ho9
                go_wp2_with fail
                go_roundw
                case rel => exact ⟨j + 1, (kk + 1 + 1), nx5, O5, PS, by omega, by omega, by omega, rfl, by go_num, by omega, by omega, by omega, HW5.out, s9, k9⟩
                case measure => simp [intOf]; omega
        · clear m1 m2
          have D1 : (nx zs kk 3 == 1) = false := beq_eq_false_iff_ne.2 d1
          clear d0 d1
          go_wp2_with fail
          clear D0 D1
          by_cases hop : dst (bs nn ps) nn < 1 + wz
          · refine (sassign_room s4.snd (by exact s4.hB) (by omega) j (by omega) hop).mono ?_
            rintro e w7 ⟨rfl, O5, hA7, hO7, hc7⟩
            have HWn := HW.out.snoc hn0 (by omega) (by omega) hop
            rw [show (nn + 1 + 65536) % 65536 = nn + 1 from by omega] at hA7
            have s7 := s4.toSnd hA7 hO7 hc7
            have k7 := s4.below k4 rfl hc7
            have HW5 := Lib.hid HWn
            have hpl5 : (ps ++ [(⟨nn, j, 0⟩ : Sn)]).length < j + 1 := by simp; omega
            clear s4 k4 hA7 hO7 hc7 HWn hop
            go_wp2_with fail
            refine (sopen_c s7.snd).mono ?_
            rintro e w5 ⟨rfl, mb, rfl⟩
            have s5 := s7.toQuiet ((Chg.refl [] w7).drewN mb)
            have k5 := k7.drewN mb
            clear s7 k7
            generalize w7.drewN mb = w5 at *
            generalize decide (dst (bs (nn + 1) (ps ++ [(⟨nn, j, 0⟩ : Sn)])) (nn + 1) < 1 + wz) = bo
            cases bo
            all_goals
              go_wp2_with fail
              refine (spend_c s5.snd).mono ?_
              rintro e w8 ⟨A8, c8, rfl, ho8, hc8⟩
              have s8 := s5.toQuiet hc8
              have k8 := k5.trans hc8 (by simp)
              have hB8 : 0 ≤ w8.heap.size := Nat.zero_le _
              clear s5 k5 hc8
              have hx5 : 0 ≤ nn + 1 ∧ nn + 1 < (j : Int) + 1 := by omega
              generalize ps ++ [(⟨nn, j, 0⟩ : Sn)] = PS at *
              generalize nn + 1 = nx5 at *
              go_wp2_with fail
              go_loopw [12] (fun vk wr => ∃ k : Nat, k ≤ PS.length ∧ vk = .int .i64 k ∧ SS wr w.heap.size c s O5 zs (kk + 1) (1 + wz) 2 nx5 PS ∧ Chg [] w wr ∧ wr.ownsRow 0 39 3 (.slice A8 PS.length c8) PS.length (PS.flatMap snC)) (fun vk _ => PS.length - (intOf vk).toNat)
              case atStart => exact ⟨0, Nat.zero_le _, rfl, s8, k8, own_base ho8 (Nat.zero_le _)⟩
              case round =>
                clear s8 k8 ho8
                obtain ⟨k, hk8, rfl, s9, k9, ho9⟩ := hrel
                by_cases hlt : k < PS.length
                · obtain ⟨g, rfl, c0, c1, _⟩ := own_sn ho9 hlt
                  have hq := HW5.out.1.at_ hlt
                  have hbw := HW5.out.2
                  have hb := HW5.out.1.base (by omega)
                  have HB := Lib.hid (fun n => sbase_c (s9.snd.drewN n))
                  have HO9 := Lib.hid ho9
                  have HST := Lib.hid (fun k' (h : k' + 1 < PS.length) => HW5.out.1.step h)
                  have HC := Lib.hid (fun k' (h : k' < PS.length) => own_sn ho9 h)
                  clear ho9
                  generalize bs nx5 PS = b at hbw hb HB
                  have hI : (k : Int) < (PS.length : Int) := by omega
                  have hJ : (0 : Int) ≤ (k : Int) := by omega
                  rcases Nat.eq_zero_or_pos k with rfl | hk0
                  · generalize (PS[0]).q = q at c0 hq
                    clear c1
                    have b1 : decide (1 + wz ≤ q - b) = false := decide_eq_false (by omega)
                    have b2 : decide (nx5 ≤ q) = false := decide_eq_false (by omega)
                    go_wp2_with fail
                    go_quiet ((go_at_call 14; exact Calls.quiet_of (HB.out _)))
                    go_wp2_with fail
                    go_roundw
                    case rel => exact ⟨0 + 1, by omega, by go_num, s9.toQuiet ((Chg.refl [] _).drewN _), k9.drewN _, own_chg (HO9.out) ((Chg.refl [] _).drewN _) (by simp)⟩
                    case measure => simp [intOf]; omega
                  · obtain ⟨k', rfl⟩ : ∃ k', k = k' + 1 := ⟨k - 1, by omega⟩
                    have hst := HST.out k' hlt
                    obtain ⟨g', hg', x0, x1, _⟩ := HC.out k' (by omega)
                    injection hg' with hg'
                    injection hg' with hg'
                    subst hg'
                    clear HST HC
                    generalize (PS[k' + 1]).q = q at c0 hq hst
                    generalize (PS[k' + 1]).i = id1 at c1 hst
                    generalize (PS[k']'(by omega)).q = q0 at x0 hst
                    generalize (PS[k']'(by omega)).i = id0 at x1 hst
                    have b1 : decide (1 + wz ≤ q - b) = false := decide_eq_false (by omega)
                    have b2 : decide (nx5 ≤ q) = false := decide_eq_false (by omega)
                    have b3 : decide (q ≤ q0) = false := decide_eq_false (by omega)
                    have b4 : decide (id1 ≤ id0) = false := decide_eq_false (by omega)
                    have b5 : (0 : Int) ≤ (k' : Int) := by omega
                    have b6 : (k' : Int) < (PS.length : Int) := by omega
                    go_wp2_with fail
                    go_quiet ((go_at_call 14; exact Calls.quiet_of (HB.out _)))
                    go_wp2_with fail
                    go_roundw
                    case rel => exact ⟨k' + 1 + 1, by omega, by go_num, s9.toQuiet ((Chg.refl [] _).drewN _), k9.drewN _, own_chg (HO9.out) ((Chg.refl [] _).drewN _) (by simp)⟩
                    case measure => simp [intOf]; omega
                · obtain rfl : k = PS.length := by omega
                  clear ho9
                  go_wp2_with fail
                  go_roundw
                  case rel => exact ⟨j + 1, (kk + 1), nx5, O5, PS, by omega, by omega, by omega, rfl, by go_num, by omega, by omega, by omega, HW5.out, s9, k9⟩
                  case measure => simp [intOf]; omega
          · refine (sassign_full s4.snd j (by omega) hop).mono ?_
            rintro e w5 ⟨rfl, mb, rfl⟩
            have s7 := s4.toQuiet ((Chg.refl [] w4).drewN mb)
            have k7 := k4.drewN mb
            clear s4 k4
            generalize w4.drewN mb = w6 at *
            have HOP := Lib.hid (sopen_c s7.snd)
            rw [decide_eq_false hop] at HOP
            clear hop
            go_wp2_with fail
            refine HOP.out.mono ?_
            rintro e w5 ⟨rfl, mb2, rfl⟩
            have s5 := s7.toQuiet ((Chg.refl [] w6).drewN mb2)
            have k5 := k7.drewN mb2
            clear s7 k7 HOP
            generalize w6.drewN mb2 = w5 at *
            have HW5 := Lib.hid (HW.out.more (show (j : Int) ≤ (j : Int) + 1 by omega))
            have hpl5 : ps.length < j + 1 := by omega
            obtain ⟨O5, hO5⟩ : ∃ O5, O5 = O := ⟨_, rfl⟩
            rw [← hO5] at s5
            clear hO5
            go_wp2_with fail
            refine (spend_c s5.snd).mono ?_
            rintro e w8 ⟨A8, c8, rfl, ho8, hc8⟩
            have s8 := s5.toQuiet hc8
            have k8 := k5.trans hc8 (by simp)
            have hB8 : 0 ≤ w8.heap.size := Nat.zero_le _
            clear s5 k5 hc8
            have hx5 : 0 ≤ nn ∧ nn < (j : Int) + 1 := by omega
            generalize ps = PS at *
            generalize nn = nx5 at *
            go_wp2_with fail
            go_loopw [12] (fun vk wr => ∃ k : Nat, k ≤ PS.length ∧ vk = .int .i64 k ∧ SS wr w.heap.size c s O5 zs (kk + 1) (1 + wz) 2 nx5 PS ∧ Chg [] w wr ∧ wr.ownsRow 0 39 3 (.slice A8 PS.length c8) PS.length (PS.flatMap snC)) (fun vk _ => PS.length - (intOf vk).toNat)
            case atStart => exact ⟨0, Nat.zero_le _, rfl, s8, k8, own_base ho8 (Nat.zero_le _)⟩
            case round =>
              clear s8 k8 ho8
              obtain ⟨k, hk8, rfl, s9, k9, ho9⟩ := hrel
              by_cases hlt : k < PS.length
              · obtain ⟨g, rfl, c0, c1, _⟩ := own_sn ho9 hlt
                have hq := HW5.out.1.at_ hlt
                have hbw := HW5.out.2
                have hb := HW5.out.1.base (by omega)
                have HB := Lib.hid (fun n => sbase_c (s9.snd.drewN n))
                have HO9 := Lib.hid ho9
                have HST := Lib.hid (fun k' (h : k' + 1 < PS.length) => HW5.out.1.step h)
                have HC := Lib.hid (fun k' (h : k' < PS.length) => own_sn ho9 h)
                clear ho9
                generalize bs nx5 PS = b at hbw hb HB
                have hI : (k : Int) < (PS.length : Int) := by omega
                have hJ : (0 : Int) ≤ (k : Int) := by omega
                rcases Nat.eq_zero_or_pos k with rfl | hk0
                · generalize (PS[0]).q = q at c0 hq
                  clear c1
                  have b1 : decide (1 + wz ≤ q - b) = false := decide_eq_false (by omega)
                  have b2 : decide (nx5 ≤ q) = false := decide_eq_false (by omega)
                  go_wp2_with fail
                  go_quiet ((go_at_call 14; exact Calls.quiet_of (HB.out _)))
                  go_wp2_with fail
                  go_roundw
                  case rel => exact ⟨0 + 1, by omega, by go_num, s9.toQuiet ((Chg.refl [] _).drewN _), k9.drewN _, own_chg (HO9.out) ((Chg.refl [] _).drewN _) (by simp)⟩
                  case measure => simp [intOf]; omega
                · obtain ⟨k', rfl⟩ : ∃ k', k = k' + 1 := ⟨k - 1, by omega⟩
                  have hst := HST.out k' hlt
                  obtain ⟨g', hg', x0, x1, _⟩ := HC.out k' (by omega)
                  injection hg' with hg'
                  injection hg' with hg'
                  subst hg'
                  clear HST HC
                  generalize (PS[k' + 1]).q = q at c0 hq hst
                  generalize (PS[k' + 1]).i = id1 at c1 hst
                  generalize (PS[k']'(by omega)).q = q0 at x0 hst
                  generalize (PS[k']'(by omega)).i = id0 at x1 hst
                  have b1 : decide (1 + wz ≤ q - b) = false := decide_eq_false (by omega)
                  have b2 : decide (nx5 ≤ q) = false := decide_eq_false (by omega)
                  have b3 : decide (q ≤ q0) = false := decide_eq_false (by omega)
                  have b4 : decide (id1 ≤ id0) = false := decide_eq_false (by omega)
                  have b5 : (0 : Int) ≤ (k' : Int) := by omega
                  have b6 : (k' : Int) < (PS.length : Int) := by omega
                  go_wp2_with fail
                  go_quiet ((go_at_call 14; exact Calls.quiet_of (HB.out _)))
                  go_wp2_with fail
                  go_roundw
                  case rel => exact ⟨k' + 1 + 1, by omega, by go_num, s9.toQuiet ((Chg.refl [] _).drewN _), k9.drewN _, own_chg (HO9.out) ((Chg.refl [] _).drewN _) (by simp)⟩
                  case measure => simp [intOf]; omega
              · obtain rfl : k = PS.length := by omega
                clear ho9
                go_wp2_with fail
                go_roundw
                case rel => exact ⟨j + 1, (kk + 1), nx5, O5, PS, by omega, by omega, by omega, rfl, by go_num, by omega, by omega, by omega, HW5.out, s9, k9⟩
                case measure => simp [intOf]; omega
    · have hge : (60 : Int) ≤ (j : Int) := by omega
      go_wp2_with fail
      refine (sawake_c _).mono ?_
      rintro e wi ⟨rfl, hci⟩
      go_wp2_with fail
      go_ret
      exact ⟨rfl, (k3.trans hci (by simp)).below (Nat.le_refl _) (by simp)⟩

end Go.Proofs.Ytgkhendbpehagaa
