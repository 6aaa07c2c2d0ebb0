/- The walk of the statement SenderAcks. -/
import Derived.Test.YtgkhendbpehagaaSnW
import Derived.Test.YtgkhendbpehagaaSnAb
import Derived.Laws.StructEq
namespace Go.Proofs.Ytgkhendbpehagaa
open Go.RowKit
set_option linter.unusedVariables false
set_option linter.unusedSimpArgs false

def eqB (x p : Sn) : Bool := x.q == p.q && (x.i == p.i && x.t == p.t)
theorem eqB_eq {x p : Sn} (h : eqB x p = true) : x = p := by
  unfold eqB at h
  simp at h
  obtain ⟨h1, h2, h3⟩ := h
  cases x; cases p
  simp_all
theorem eqB_self (p : Sn) : eqB p p = true := by simp [eqB]
/-- Whether p is among l. -/
def thr (p : Sn) (l : List Sn) : Bool := l.any fun x => eqB x p
theorem thr_snoc {p : Sn} {l : List Sn} {m : Nat} (hm : m < l.length) : thr p (l.take (m + 1)) = (thr p (l.take m) || eqB l[m] p) := by
  rw [List.take_succ_eq_append_getElem hm]
  unfold thr
  rw [List.any_append]
  simp
theorem thr_filter {f : Sn → Bool} {ps : List Sn} {k : Nat} (hk : k < ps.length) : thr ps[k] (ps.filter fun p => !f p) = !f ps[k] := by
  unfold thr
  cases h : f ps[k]
  · simp only [Bool.not_false]
    rw [List.any_eq_true]
    exact ⟨ps[k], List.mem_filter.2 ⟨by simp, by simp [h]⟩, eqB_self _⟩
  · simp only [Bool.not_true]
    rw [List.any_eq_false]
    intro x hx he
    have := eqB_eq he
    subst this
    have := (List.mem_filter.1 hx).2
    simp [h] at this
theorem filter_at {f : Sn → Bool} {ps : List Sn} {k : Nat} (hk : k < ps.length) (hf : f ps[k] = true) : ∃ h : ((ps.take k).filter f).length < (ps.filter f).length, (ps.filter f)[((ps.take k).filter f).length] = ps[k] := by
  have e : ps.filter f = (ps.take k).filter f ++ (ps[k] :: (ps.drop (k + 1)).filter f) := by
    have h1 : ps = ps.take k ++ (ps[k] :: ps.drop (k + 1)) := by
      rw [← List.drop_eq_getElem_cons hk, List.take_append_drop]
    have h2 := congrArg (List.filter f) h1
    rw [List.filter_append, List.filter_cons, if_pos hf] at h2
    exact h2
  have h1 : ((ps.take k).filter f).length < (ps.filter f).length := by rw [e]; simp
  refine ⟨h1, ?_⟩
  have h2 : (ps.filter f)[((ps.take k).filter f).length]? = some ps[k] := by
    rw [e, List.getElem?_append_right (Nat.le_refl _)]
    simp
  rw [List.getElem?_eq_getElem h1] at h2
  exact Option.some.inj h2
theorem filter_len (f : Sn → Bool) (ps : List Sn) : (ps.filter fun p => !f p).length + (ps.filter f).length = ps.length := by
  induction ps with
  | nil => rfl
  | cons p r ih => cases h : f p <;> simp [List.filter_cons, h] <;> omega
theorem filter_snoc (f : Sn → Bool) {ps : List Sn} {k : Nat} (hk : k < ps.length) : (ps.take (k + 1)).filter f = if f ps[k] then (ps.take k).filter f ++ [ps[k]] else (ps.take k).filter f := by
  rw [List.take_succ_eq_append_getElem hk, List.filter_append]
  cases h : f ps[k] <;> simp [h]

theorem sn_guard : Try.prog.eqGuardType Try.prog.depth 39 = false := by kernel_rfl
theorem sn_eql (a b c a' b' c' : Int) (w : World) : (binOp .eql 39 (.agg #[.int .i64 a, .int .i64 b, .int .i64 c]) (.agg #[.int .i64 a', .int .i64 b', .int .i64 c'])).run Try.prog w = .ok (.bool (a == a' && (b == b' && c == c'))) w := by
  have u3 := Try.underlying3
  have a3 := Try.isAgg3
  have z3 := Try.sizeOf3
  have hS : Try.prog.underlying 39 = some (.struct (Try.prog.fieldsOf 39)) := by kernel_rfl
  have hp : Try.prog.stoodInHeld 39 = false := by kernel_rfl
  rw [run_eql_struct, show (10000 : Nat) = 9999 + 1 from rfl, run_equalIn_agg w 9999 39 _ _ hS hp]
  simp only [Program.fieldsOf, Try.underlying39]
  go_simp
  by_cases h1 : a = a' <;> by_cases h2 : b = b' <;> by_cases h3 : c = c' <;> simp [h1, h2, h3]

/-- Ack, taken or not: what goes is given by one test. -/
theorem sack_any {w : World} {B s : Nat} {O : List Nat} {wd tr nx : Int} {ps : List Sn} (h : SA w B s O wd tr nx ps) (base bits : Int) (hb0 : 0 ≤ bits) (hb1 : bits < 18446744073709551616) :
    ∃ f : Sn → Bool, Calls Try.prog 12 #[.pointer (some ⟨s, 0, none⟩), .agg #[.int .i64 base, .int .u64 bits]] w fun e w' =>
      ∃ A' c' O', e = .returned (.slice A' (ps.filter f).length c') ∧ w'.ownsRow w.heap.size 3 1 (.slice A' (ps.filter f).length c') (ps.filter f).length ((ps.filter f).map fun p => .int .i64 p.i) ∧
        SA w' B s O' wd tr nx (ps.filter fun p => !f p) ∧ (∀ j ∈ O', j ∈ O ∨ w.heap.size ≤ j) ∧ Chg (s :: O) w w' := by
  by_cases ho : ackOk nx base ps
  · refine ⟨ackB base bits, (sack_c h base bits ho hb0 hb1).mono ?_⟩
    rintro e w' ⟨A', c', O', rfl, h1, h2, h3, _, h4⟩
    exact ⟨A', c', O', rfl, h1, h2, fun j hj => .inr (h3 j hj), h4⟩
  · refine ⟨fun _ => false, (sack_bad h base bits ho).mono ?_⟩
    rintro e w' ⟨rfl, hc⟩
    have e1 : ps.filter (fun _ => false) = [] := by simp
    have e2 : ps.filter (fun p => !(fun _ : Sn => false) p) = ps := by rw [List.filter_eq_self]; simp
    refine ⟨none, 0, O, by rw [e1]; rfl, by rw [e1]; exact World.ownsRow_nil _ _ _ _, ?_, fun j hj => .inl hj, hc.mono (by simp)⟩
    rw [e2]
    exact h.chg hc (by simp) (by simp)

theorem own_ids {w : World} {B n c k : Nat} {A : Option Addr} {ps : List Sn} (h : w.ownsRow B 3 1 (.slice A n c) n (ps.map fun p => .int .i64 p.i)) (hk : k < ps.length) :
    ∃ g, A = some ⟨g, 0, none⟩ ∧ w.cell? ⟨g, k, none⟩ = some (.int .i64 ps[k].i) := by
  have hn : ps.length = n := by have := h.1; simpa using this
  subst hn
  obtain ⟨g, cap, hv, _, hlt⟩ := h.form (by omega)
  injection hv with hA
  subst hA
  refine ⟨g, rfl, ?_⟩
  have h1 := h.cells (g := g) rfl k (.int .i64 ps[k].i) (by simp [hk])
  have h2 : (⟨g, 0, none⟩ : Addr).add k = ⟨g, k, none⟩ := by
    unfold Addr.add
    split
    · subst_vars; rfl
    · simp
  rw [h2] at h1
  exact h1

set_option maxRecDepth 100000 in
set_option maxHeartbeats 8000000 in
theorem senderAcks_walk {w : World} {a : Option Addr} {len cap : Nat} {zs : List Int} (base bits : Int) (hb0 : 0 ≤ bits) (hb1 : bits < 18446744073709551616) (hz : zs.length = len) (hl : len ≤ 9223372036854775807) (hi : Inp w w.heap.size a zs) :
    Calls Try.prog 3 #[.slice a len cap, .int .i64 base, .int .u64 bits] w fun e w' => e = .returned (.bool true) ∧ Below w.heap.size w w' := by
  have hgn := gnew_c (cap := cap) hz hl hi
  clear hz hi
  have m1 := nx_nonneg zs 0 20
  have m2 := nx_lt zs 0 20 (by omega)
  go_enter Try.func3, Try.ntmps3
  go_wp2_with fail
  refine hgn.mono ?_
  rintro e w1 ⟨c, rfl, hC1, hc1⟩
  clear hgn
  have hz1 := hc1.size
  have hcl := hC1.lt
  go_wp2_with fail
  refine (snew_c 64 2 (by omega) (by omega) (by omega) (by omega) w1 (B := w.heap.size) hc1.size).mono ?_
  rintro e w2 ⟨s, rfl, hA2, hs, hc2⟩
  have s2 : SS w2 w.heap.size c s [] zs 0 64 2 0 [] := ⟨hC1.chg hc2 (by simp) (by simp), hA2, by omega, by simp, Nat.le_trans hz1 hc2.size⟩
  have k2 := hc1.trans hc2 (by simp)
  clear hC1 hA2 hc1 hc2
  go_wp2_with fail
  refine (next_c s2.cho (by omega) (by omega)).mono ?_
  rintro e w3 ⟨rfl, hC3, hc3⟩
  have s3 := s2.toCho hC3 hc3
  have k3 := chg_of k2 hc3 s2.cho.le
  clear s2 k2 hC3 hc3
  obtain ⟨z, hz⟩ : ∃ z : Nat, nx zs 0 20 = z := ⟨(nx zs 0 20).toNat, by omega⟩
  rw [hz] at m1 m2 ⊢
  clear hz
  go_wp2_with fail
  go_loopw [10] (fun vi wr => ∃ (j : Nat) (O : List Nat) (ps : List Sn), j ≤ z + 1 ∧ vi = .int .i64 (1 + (z : Int) - j) ∧ ps.length = j ∧ (0 ≤ bs j ps ∧ bs j ps ≤ j) ∧ SS wr w.heap.size c s O zs (0 + 1) 64 2 j ps ∧ Chg [] w wr) (fun vi _ => (intOf vi).toNat)
  case atStart => exact ⟨0, [], [], by omega, by simp, rfl, by simp [bs], s3, k3⟩
  case round =>
    obtain ⟨j, O, ps, hj, rfl, hpl, hbs, s4, k4⟩ := hrel
    clear s3 k3
    by_cases hjz : j < z + 1
    · have hj' : (0 : Int) < 1 + (z : Int) - j := by omega
      have hop : dst (bs j ps) j < 64 := by rw [dst_le hbs.1 hbs.2 (by omega)]; omega
      go_wp2_with fail
      refine (sassign_room s4.snd (by exact s4.hB) (by omega) (100 - (1 + (z : Int) - j)) (by omega) hop).mono ?_
      rintro e w5 ⟨rfl, O5, hA5, hO5, hc5⟩
      rw [show ((j : Int) + 1 + 65536) % 65536 = ((j + 1 : Nat) : Int) from by omega] at hA5
      have s5 := s4.toSnd hA5 hO5 hc5
      have k5 := s4.below k4 rfl hc5
      have hb5 := bs_snoc j ps (100 - (1 + (z : Int) - j)) 0
      go_wp2_with fail
      go_roundw
      case rel => exact ⟨j + 1, O5, _, by omega, congrArg (Value.int .i64) (by omega), by simp [hpl], by rw [show ((j + 1 : Nat) : Int) = (j : Int) + 1 from by omega, hb5]; omega, s5, k5⟩
      case measure => simp [intOf]; omega
    · obtain rfl : j = z + 1 := by omega
      clear hjz hj hbs
      have hpn : ps.length ≤ 1000 := by omega
      clear hpl
      have hgt : ¬ (0 : Int) < 1 + (z : Int) - ((z + 1 : Nat) : Int) := by omega
      generalize ((z + 1 : Nat) : Int) = nn at s4 hgt ⊢
      go_wp2_with fail
      refine (spend_c s4.snd).mono ?_
      rintro e w5 ⟨A5, c5, rfl, ho5, hc5⟩
      have s5 := s4.toQuiet hc5
      have k5 := k4.trans hc5 (by simp)
      have hO4 := s4.snd.Ol
      have hs4 := s4.snd.lt
      clear s4 k4 hc5
      obtain ⟨f, hack⟩ := sack_any s5.snd base bits hb0 hb1
      have HACK := Lib.hid hack
      clear hack
      go_wp2_with fail
      refine HACK.out.mono ?_
      rintro e w6 ⟨A6, c6, O6, rfl, ho6, hA6, hO6, hc6⟩
      have s6 := s5.toSnd hA6 hO6 hc6
      have k6 := s5.below k5 rfl hc6
      have hol5 := ownL_lt ho5
      have ho5' := own_chg ho5 hc6 (fun g hg => by have h1 := (hol5 _ (mem_ownL.2 hg)).1; simp; exact ⟨by omega, fun hm => by have := hO4 _ hm; omega⟩)
      clear s5 k5 ho5 hc6 hA6 HACK hol5 hO4 hs4
      go_wp2_with fail
      refine (spend_c s6.snd).mono ?_
      rintro e w7 ⟨A7, c7, rfl, ho7, hc7⟩
      have ho5 := own_base (own_chg ho5' hc7 (by simp)) (Nat.zero_le _)
      have ho6' := own_base (own_chg ho6 hc7 (by simp)) (Nat.zero_le _)
      have ho7' := own_base ho7 (Nat.zero_le _)
      have k7 := k6.trans hc7 (by simp)
      clear s6 k6 ho5' ho6 ho7 hc7 hO6
      have hll := filter_len f ps
      have hqn : (ps.filter fun p => !f p).length ≤ 1000 := by omega
      have hln : (ps.filter f).length ≤ 1000 := by omega
      have HF := Lib.hid (fun k (hk : k < ps.length) => thr_filter (f := f) hk)
      have HA := Lib.hid (fun k (hk : k < ps.length) (hf : f ps[k] = true) => filter_at hk hf)
      have HS := Lib.hid (fun k (hk : k < ps.length) => filter_snoc f hk)
      have HL := Lib.hid hll
      generalize hqs : (ps.filter fun p => !f p) = qs at *
      generalize hls : ps.filter f = ls at *
      have HLS := Lib.hid hls
      clear hqs hls hll
      go_wp2_with fail
      go_loopw [14, 15] (fun va vi wr => ∃ k m : Nat, k ≤ ps.length ∧ vi = .int .i64 k ∧ va = .int .i64 (((ps.take k).filter f).length : Nat) ∧ wr = w7.drewN m) (fun _ vi _ => ps.length - (intOf vi).toNat)
      case atStart => exact ⟨0, 0, Nat.zero_le _, rfl, rfl, rfl⟩
      case round =>
        obtain ⟨k, m, hk, rfl, rfl, rfl⟩ := hrel
        by_cases hlt : k < ps.length
        · obtain ⟨g5, rfl, x0, x1, x2⟩ := own_sn ho5 hlt
          have HFk := Lib.hid (HF.out k hlt)
          have HAk := Lib.hid (HA.out k hlt)
          have HSk := Lib.hid (HS.out k hlt)
          clear HF HA HS
          generalize hpk : ps[k] = p at x0 x1 x2 HFk HAk HSk
          have HPK := Lib.hid hpk
          clear hpk
          generalize ha : ((ps.take k).filter f).length = ak at HAk HSk ⊢
          have HAK := Lib.hid ha
          clear ha
          have hI : (k : Int) < (ps.length : Int) := by omega
          have hJ : (0 : Int) ≤ (k : Int) := by omega
          go_wp2_with fail
          go_loopw [16, 17] (fun vt vr wr => ∃ r m : Nat, r ≤ qs.length ∧ vr = .int .i64 r ∧ vt = .bool (thr p (qs.take r)) ∧ wr = w7.drewN m) (fun _ vr _ => qs.length - (intOf vr).toNat)
          case atStart => exact ⟨0, m, Nat.zero_le _, rfl, rfl, rfl⟩
          case round =>
            clear m
            obtain ⟨r, m, hr, rfl, rfl, rfl⟩ := hrel
            by_cases hrt : r < qs.length
            · obtain ⟨g7, rfl, y0, y1, y2⟩ := own_sn ho7' hrt
              have HT := Lib.hid (thr_snoc (p := p) hrt)
              generalize qs[r] = x at y0 y1 y2 HT
              generalize thr p (qs.take r) = tb at HT ⊢
              have hI2 : (r : Int) < (qs.length : Int) := by omega
              have hJ2 : (0 : Int) ≤ (r : Int) := by omega
              have hgd := sn_guard
              have hel := sn_eql x.q x.i x.t p.q p.i p.t
              cases tb
              · go_wp2_with fail
                go_quiet (fail)
                go_wp2_with fail
                go_roundw
                case rel => exact ⟨r + 1, _, by omega, by go_num, by rw [HT.out]; rfl, rfl⟩
                case measure => simp [intOf]; omega
              · go_wp2_with fail
                go_quiet (fail)
                go_wp2_with fail
                go_roundw
                case rel => exact ⟨r + 1, _, by omega, by go_num, by rw [HT.out]; rfl, rfl⟩
                case measure => simp [intOf]; omega
            · obtain rfl : r = qs.length := by omega
              rw [List.take_length, HFk.out]
              cases hfp : f p
              · have hsk := HSk.out
                rw [hfp] at hsk
                simp only [Bool.false_eq_true, if_false] at hsk
                have HSK := Lib.hid hsk
                clear hsk hfp
                go_wp2_with fail
                go_roundw
                case rel => exact ⟨k + 1, m, by omega, by go_num, by rw [HSK.out, HAK.out], rfl⟩
                case measure => simp [intOf]; omega
              · have hsk := HSk.out
                rw [hfp] at hsk
                simp only [if_true] at hsk
                have HSK := Lib.hid hsk
                obtain ⟨hal, hav⟩ := HAk.out hfp
                obtain ⟨g6, rfl, y0⟩ := own_ids ho6' hal
                rw [hav] at y0
                clear hsk hfp hav
                have hI3 : (ak : Int) < (ls.length : Int) := by omega
                have hJ3 : (0 : Int) ≤ (ak : Int) := by omega
                have hb3 : decide ((ls.length : Int) ≤ (ak : Int)) = false := decide_eq_false (by omega)
                have hne : (p.i != p.i) = false := by simp
                go_wp2_with fail
                go_quiet (fail)
                go_wp2_with fail
                go_roundw
                case rel => exact ⟨k + 1, _, by omega, by go_num, by rw [HSK.out, List.length_append, HAK.out]; rfl, rfl⟩
                case measure => simp [intOf]; omega
        · obtain rfl : k = ps.length := by omega
          rw [List.take_length, HLS.out]
          have hb3 : ((qs.length : Int) + (ls.length : Int) == (ps.length : Int)) = true := by rw [beq_iff_eq]; have := HL.out; omega
          go_wp2_with fail
          refine (sawake_c _).mono ?_
          rintro e wi ⟨rfl, hci⟩
          go_wp2_with fail
          go_ret
          exact ⟨rfl, ((k7.drewN m).trans hci (by simp)).below (Nat.le_refl _) (by simp)⟩

end Go.Proofs.Ytgkhendbpehagaa
