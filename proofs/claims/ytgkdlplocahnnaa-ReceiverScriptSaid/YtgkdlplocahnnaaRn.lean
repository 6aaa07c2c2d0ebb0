/- The walk of the statement ReceiverAcks. -/
import Derived.Test.YtgkdlplocahnnaaRl
import Derived.Deep.DeepCutAuto
namespace Go.Proofs.Ytgkdlplocahnnaa
open Go.RowKit Go.Maps
set_option linter.unusedVariables false
set_option linter.unusedSimpArgs false

/-- Number k has been passed or is held. -/
def Seen (x : Int) (H : Int → Option Int) (k : Int) : Prop := k < x ∨ (H k).isSome = true

instance (x : Int) (H : Int → Option Int) (k : Int) : Decidable (Seen x H k) := inferInstanceAs (Decidable (_ ∨ _))

theorem rls_seen {x : Int} {H : Int → Option Int} {o : List Int} {x1 : Int} {H1 : Int → Option Int} {o1 : List Int} (h : Rls x H o x1 H1 o1) (hx : 0 ≤ x) (hI : HInv x 16 H) (k : Int) : Seen x1 H1 k ↔ Seen x H k := by
  induction h with
  | stop hs => exact Iff.rfl
  | @go x v x' H H' o o' hs hr ih =>
    have hv := hI x v hs
    have e : (x + 1) % 65536 = x + 1 := by omega
    rw [e] at ih
    rw [ih (by omega) hI.del]
    unfold Seen
    by_cases ek : k = x
    · subst ek
      rw [hs]
      simp
      omega
    · rw [mDel_other H ek]
      constructor
      · rintro (h | h)
        · exact .inl (by omega)
        · exact .inr h
      · rintro (h | h)
        · exact .inl (by omega)
        · exact .inr h

theorem rcv_seen {x s x1 x2 : Int} {H H1 H2 : Int → Option Int} {o1 o2 : List Int} (hS : Skp 0 x H [] x1 H1 o1) (hR : Rls x1 (stH H1 x1 s (s + 1)) o1 x2 H2 o2) (hx : 0 ≤ x ∧ x ≤ 16) (hs : 0 ≤ s ∧ s < 16) (hI : HInv x 16 H) :
    ∀ k, Seen x2 H2 k ↔ Seen x H k ∨ k = s := by
  intro k
  cases hS with
  | go hb _ => rw [bef_small (by omega) (by omega)] at hb; have := of_decide_eq_true hb; omega
  | stop _ =>
    have hst : HInv x 16 (stH H x s (s + 1)) ∧ (Seen x (stH H x s (s + 1)) k ↔ Seen x H k ∨ k = s) := by
      unfold stH
      split
      · rename_i h
        refine ⟨hI, ⟨.inl, ?_⟩⟩
        rintro (h1 | rfl)
        · exact h1
        · rcases h with h | h
          · exact .inr h
          · rw [bef_small (by omega) (by omega)] at h
            exact .inl (of_decide_eq_true h)
      · rename_i hn
        simp only [not_or] at hn
        have : ¬ s < x := by
          have h2 := hn.2
          rw [bef_small (by omega) (by omega)] at h2
          simpa using h2
        refine ⟨hI.put (by omega) (by omega), ?_⟩
        unfold Seen
        by_cases e : k = s
        · subst e; rw [mPut_same]; simp
        · rw [mPut_other H e]; simp [e]
    rw [rls_seen hR (by omega) hst.1 k]
    exact hst.2

theorem ac_has {x b k : Int} {H : Int → Option Int} (hx : 0 ≤ x ∧ x ≤ 16) (hI : HInv x 16 H) (hb : BitsP b (hldP x H)) (hk : 0 ≤ k ∧ k < 16) : (befB k x || hasB x b k) = decide (Seen x H k) := by
  rw [Bool.eq_iff_iff, Bool.or_eq_true, decide_eq_true_iff, bef_small (by omega) (by omega), decide_eq_true_iff]
  unfold Seen
  by_cases h : k < x
  · simp [h]
  · have hd : dst x k = k - x := by unfold dst; omega
    have h3 : hasB x b k = true ↔ (H k).isSome = true := by
      unfold hasB
      rw [decide_eq_true_iff, hd]
      have h4 := hb.2.2 (k - x).toNat (by omega)
      constructor
      · rintro ⟨_, _, _, _, _, h5⟩
        obtain ⟨k', h6, h7, h8⟩ := h4.1 h5
        cases hh : H k' with
        | none => exact absurd hh h7
        | some v =>
          have := hI k' v hh
          have : k' = k := by unfold dst at h8; omega
          subst this
          rw [hh]; rfl
      · intro h5
        refine ⟨by omega, by omega, by omega, by omega, by omega, h4.2 ⟨k, wfI_of (by omega) (by omega), ?_, by rw [hd]; omega⟩⟩
        intro e; rw [e] at h5; cases h5
    rw [h3]

/-- What stands at the head of ReceiverAcks' rounds. -/
def AcRel (w wr : World) (B0 r m c : Nat) (zs : List Int) (k : Nat) (v : Value) : Prop := ∃ x n H A cc, RV wr w.heap.size r m n 16 x H ∧ n ≤ k ∧ HInv x 16 H ∧ (0 ≤ x ∧ x ≤ 16) ∧ Cho wr w.heap.size c zs k ∧ c ≠ r ∧ c ≠ m ∧ c < B0 ∧ r < B0 ∧ m < B0 ∧ w.heap.size ≤ B0 ∧ B0 ≤ wr.heap.size ∧ Chg [] w wr ∧
  ∃ L : List Int, v = .slice A k cc ∧ wr.ownsRow B0 3 1 (.slice A k cc) k (L.map (Value.int .i64)) ∧ ∀ j, 0 ≤ j → j < 16 → (Seen x H j ↔ j ∈ L)

theorem rint_one (y : Int) : ∀ u ∈ ([Value.int .i64 y] : List Value), u.oneCell' = true := by intro u hu; simp at hu; subst hu; rfl

set_option maxRecDepth 100000 in
set_option maxHeartbeats 8000000 in
theorem receiverAcks_walk {w : World} {a : Option Addr} {len cap : Nat} {zs : List Int} (hz : zs.length = len) (hl : len ≤ 9223372036854775807) (hi : Inp w w.heap.size a zs) :
    Calls Try.prog 4 #[.slice a len cap] w fun e w' => e = .returned (.bool true) ∧ Below w.heap.size w w' := by
  have hgn := gnew_c (cap := cap) hz hl hi
  clear hz hi
  go_enter Try.func4, Try.ntmps4
  go_wp2_with fail
  refine hgn.mono ?_
  rintro e w1 ⟨c, rfl, hC1, hc1⟩
  have HC1 := Lib.hid hC1
  have HK1 := Lib.hid hc1
  clear hC1 hc1 hgn
  go_wp2_with fail
  refine (rvnew_c 16 (by omega) (by omega) w1 HK1.out.size).mono ?_
  rintro e w3 ⟨r, m, rfl, hV3, hr3, hm3, hc3⟩
  have HI := Lib.hid (show AcRel w w3 w3.heap.size r m c zs 0 (.slice none 0 0) from ⟨0, 0, _, none, 0, hV3, by omega, (fun k v h => by cases h), by omega, HC1.out.chg hc3 (by simp) (by simp), by have := HC1.out.lt; omega, by have := HC1.out.lt; omega, by have := HC1.out.lt; have := hc3.size; omega, hV3.lt, hV3.mlt, by have := HK1.out.size; have := hc3.size; omega, Nat.le_refl _, HK1.out.trans hc3 (by simp), [], rfl, World.ownsRow_nil _ _ _ _, fun j h0 h1 => by simp [Seen]; omega⟩)
  obtain ⟨B0, hB0⟩ : ∃ B0, w3.heap.size = B0 := ⟨_, rfl⟩
  rw [hB0] at HI
  clear hV3 hc3 hB0 hr3 hm3
  go_wp2_with fail
  go_loopw [6, 7] (fun v i wr => ∃ (k : Nat), k ≤ 20 ∧ i = .int .i64 k ∧ AcRel w wr B0 r m c zs k v) (fun _ i _ => 20 - (intOf i).toNat)
  case atStart => exact ⟨0, by omega, rfl, HI.out⟩
  case round =>
    clear HI
    obtain ⟨k, hk, rfl, x, n, H, A, cc, hV, hn, hH, hx, hC, hcr, hcm, hcB, hrB, hmB, hB1, hB2, hc, L, rfl, hown, hL⟩ := hrel
    by_cases hlt : k < 20
    · have hlk : (k : Int) < 20 := by omega
      have HV := Lib.hid hV
      have HH := Lib.hid hH
      have HC := Lib.hid hc
      have HO := Lib.hid hown
      have HL := Lib.hid hL
      have HN5 := Lib.hid (next_c (n := 16) hC (by omega) (by omega))
      have n0 := nx_nonneg zs k 16
      have n1 := nx_lt zs k 16 (by omega)
      generalize nx zs k 16 = s at HN5 n0 n1
      clear hV hH hc hC hown hL
      go_wp2_with fail
      refine HN5.out.mono ?_
      rintro e v1 ⟨rfl, hC1, hc1⟩
      have HC1 := Lib.hid hC1
      have HV1 := Lib.hid (HV.out.chg hc1 (by simp; exact fun e => hcr e.symm) (by simp; exact fun e => hcm e.symm))
      have HK1 := Lib.hid (HC.out.trans hc1 (by simp; exact hC1.le))
      have hol0 := ownL_lt HO.out
      have HO1 := Lib.hid (own_chg HO.out hc1 (fun g hg => by simp; rintro rfl; have := (hol0 g (mem_ownL.2 hg)).1; omega))
      have hz1 := hc1.size
      clear hC1 hc1 HN5 HC HV HO hol0
      have HRc := Lib.hid (receive_ok (b := 0) (s := s) (id := s + 1) HV1.out (by omega) (by unfold seqP; omega) (by omega) (mv_small (by omega) (by omega) (by omega) (by omega)) (ins_small (by omega) (by omega) (by omega)))
      go_wp2_with fail
      refine HRc.out.mono ?_
      rintro e v3 ⟨A3, c3, N3, x1, H1, o1, x2, H2, o2, rfl, hown3, hN3, hS, hR, hV3, hF⟩
      have q0 := rcv_seen hS hR hx ⟨n0, n1⟩ HH.out
      obtain ⟨⟨q1, q2⟩, q3, q4⟩ := rcv_ord (l := 0) (wd := 16) hS hR (by omega) (by omega) (by omega) (by omega) (fun k v hk => by have := HH.out k v hk; omega) (by omega) (by omega)
      have HSeen := Lib.hid q0
      have HV3 := Lib.hid hV3
      have HI3 := Lib.hid (show HInv x2 16 H2 from fun k v hk => by have := q3 k v hk; omega)
      have HK3 := Lib.hid (hF.chg HK1.out HV1.out.Br HV1.out.Bm HK1.out.size)
      have HC3 := Lib.hid (hF.cho HC1.out hcr hcm HC1.out.lt HV1.out.Br HV1.out.Bm HK1.out.size)
      have HO3 := Lib.hid (show v3.ownsRow B0 3 1 (.slice A k cc) k (L.map (Value.int .i64)) from by
        obtain ⟨S, h1, h2⟩ := hF
        refine own_chg HO1.out h1 (fun g hg hgS => ?_)
        have := ownL_lt HO1.out g (mem_ownL.2 hg)
        rcases h2 g hgS with h | h | h <;> omega)
      have hz3 := hF.size
      have q2' : x2 ≤ 16 := by omega
      clear hown3 hS hR hV3 hF q0 q2 q3 q4 HRc HK1 HV1 HC1 HO1 HH
      have hLk : L.length = k := by have := HO3.out.1; simp at this; omega
      have HLk := Lib.hid hLk
      clear hLk
      go_wp2_with (at_builtin; refine list_app (P := Try.prog) (t := 22) Try.underlying22 rint_info rfl (by omega) (.tmp 34) (.tmp 36) B0 (n := k) (m := 1) (N := k + 1) rfl (by omega) (rint_one s) (by omega) (own_chg HO3.out ((Chg.refl [] v3).alloc _) (by simp)) (reads_lit1 v3 3 (.int .i64 s)) (by simp; omega) (by rfl) (by rfl) (by rfl) (by rfl) ?_; intro A4 d4 W4 hown4 hgrow4 hat4; have HP4 := Lib.hid (((Chg.refl (ownL (.slice A k cc)) v3).alloc (.cells #[.int .i64 s] 3)).grown hgrow4 (fun j hj => .inl (mem_ownL.2 hj))); have HO4 := Lib.hid hown4; clear hown4 hgrow4 hat4)
      have hol3 := ownL_lt HO3.out
      have HV4 := Lib.hid (HV3.out.chg HP4.out (fun hj => by have := (hol3 r hj).1; omega) (fun hj => by have := (hol3 m hj).1; omega))
      have HC4 := Lib.hid (HC3.out.chg HP4.out (fun hj => by have := (hol3 c hj).1; omega) (fun j hj => by have := (hol3 j hj).1; omega))
      have HK4 := Lib.hid (HK3.out.trans HP4.out (fun j hj => .inr (by have := (hol3 j hj).1; omega)))
      have hz4 := HP4.out.size
      clear HV3 HC3 HK3 HO3 HP4 hol3
      refine (acks_c HV4.out (fun k hk => by
        cases hh : H2 k with
        | none => exact absurd hh hk
        | some v => have := HI3.out k v hh; unfold dst; omega)).mono ?_
      rintro e v5 ⟨b, rfl, hbits, hc5⟩
      have hb0 := hbits.1
      have hb1 := hbits.2.1
      have HBT := Lib.hid hbits
      have hb5 : Chg [] v5 (v5.alloc (.cells #[.int .i64 x2, .int .u64 b] 39)) := (Chg.refl [] v5).alloc _
      have HM5 := Lib.hid (Blk.new v5 39 #[.int .i64 x2, .int .u64 b])
      have k5 := hc5.trans hb5 (by simp)
      have HV5 := Lib.hid (HV4.out.chg k5 (by simp) (by simp))
      have HC5 := Lib.hid (HC4.out.chg k5 (by simp) (by simp))
      have HK5 := Lib.hid (HK4.out.trans k5 (by simp))
      have HO5 := Lib.hid (own_chg HO4.out k5 (by simp))
      have hz5 := k5.size
      obtain ⟨mm, hmm⟩ : ∃ mm, v5.heap.size = mm := ⟨_, rfl⟩
      rw [hmm] at HM5
      clear hbits hc5 hb5 k5 HV4 HC4 HK4 HO4
      go_wp2_with fail
      clear hmm
      generalize v5.alloc (.cells #[.int .i64 x2, .int .u64 b] 39) = W5 at HM5 HV5 HC5 HK5 HO5 hz5 ⊢
      have hO5 := HO5.out
      rw [show L.map (Value.int .i64) ++ [.int .i64 s] = (L ++ [s]).map (Value.int .i64) from by simp] at hO5
      obtain ⟨hLl, gL, hgL, hRL, _⟩ := own_rdr hO5 (by simp; have := HLk.out; omega)
      have HRL := Lib.hid hRL
      have HLl := Lib.hid hLl
      have HHv := Lib.hid (fun j (h0 : (0 : Int) ≤ j) (h1 : j < 16) => show (befB j x2 || hasB x2 b j) = decide (j ∈ L ++ [s]) from by
        rw [ac_has ⟨by omega, q2'⟩ HI3.out HBT.out ⟨h0, h1⟩]
        refine decide_eq_decide.2 ?_
        rw [HSeen.out j, HL.out j h0 h1]
        simp)
      have hm0 := HM5.out.lt
      clear hRL hLl HO5
      have HO5 := Lib.hid hO5
      clear hO5
      go_loopw [10] (fun v wy => ∃ (j : Nat), j ≤ 16 ∧ v = .int .i64 j ∧ Chg [] W5 wy) (fun v _ => 16 - (intOf v).toNat)
      case atStart => exact ⟨0, by omega, rfl, Chg.refl _ _⟩
      case round =>
        obtain ⟨j, hj, rfl, hcj⟩ := hrel
        have HKr := Lib.hid hcj
        have z0 := ((HM5.out.chg hcj (by simp)).cell 0).trans rfl
        have z1 := ((HM5.out.chg hcj (by simp)).cell 1).trans rfl
        clear hcj
        by_cases hjl : j < 16
        · have hj0 : (0 : Int) ≤ (j : Int) := by omega
          have hj1 : (j : Int) < 16 := by omega
          have HE := Lib.hid (HHv.out j hj0 hj1)
          have HBf := Lib.hid (fun W : World => rbef j x2 W)
          have HHs := Lib.hid (fun W : World => rhas x2 b j W hb0 hb1)
          have HHas := Lib.hid (fun (W : World) (hW : Chg [] W5 W) => has_int (d := d4) HLl.out (HRL.out.chg hW (by simp)) j)
          rw [← HE.out] at HHas
          cases hp : befB (j : Int) x2
          · cases hq : hasB x2 b (j : Int)
            · rw [hp] at HBf HHas
              rw [hq] at HHs HHas
              rw [Bool.or_self] at HHas
              clear hp hq HE
              go_wp2_with fail
              refine (HBf.out _).mono ?_
              rintro e w6 ⟨rfl, rfl⟩
              go_wp2_with fail
              refine (HHs.out _).mono ?_
              rintro e w7 ⟨rfl, hc7⟩
              have HK7 := Lib.hid (HKr.out.trans hc7 (by simp))
              clear hc7
              go_wp2_with fail
              refine (HHas.out _ HK7.out).mono ?_
              rintro e w8 ⟨rfl, m8, rfl⟩
              go_wp2_with fail
              go_roundw
              case rel => exact ⟨j + 1, by omega, by go_num, HK7.out.drewN _⟩
              case measure => simp [intOf]; omega
            · rw [hp] at HBf HHas
              rw [hq] at HHs HHas
              rw [Bool.false_or] at HHas
              clear hp hq HE
              go_wp2_with fail
              refine (HBf.out _).mono ?_
              rintro e w6 ⟨rfl, rfl⟩
              go_wp2_with fail
              refine (HHs.out _).mono ?_
              rintro e w7 ⟨rfl, hc7⟩
              have HK7 := Lib.hid (HKr.out.trans hc7 (by simp))
              clear hc7
              go_wp2_with fail
              refine (HHas.out _ HK7.out).mono ?_
              rintro e w8 ⟨rfl, m8, rfl⟩
              go_wp2_with fail
              go_roundw
              case rel => exact ⟨j + 1, by omega, by go_num, HK7.out.drewN _⟩
              case measure => simp [intOf]; omega
          · rw [hp] at HBf HHas
            rw [Bool.true_or] at HHas
            clear hp HE HHs
            go_wp2_with fail
            refine (HBf.out _).mono ?_
            rintro e w6 ⟨rfl, rfl⟩
            go_wp2_with fail
            refine (HHas.out _ HKr.out).mono ?_
            rintro e w8 ⟨rfl, m8, rfl⟩
            go_wp2_with fail
            go_roundw
            case rel => exact ⟨j + 1, by omega, by go_num, HKr.out.drewN _⟩
            case measure => simp [intOf]; omega
        · have HREL := Lib.hid (show AcRel w wr B0 r m c zs (k + 1) (.slice A4 (k + 1) d4) from ⟨x2, n + 1, H2, A4, d4, HV5.out.chg HKr.out (by simp) (by simp), by omega, HI3.out, ⟨q1, q2'⟩, HC5.out.chg HKr.out (by simp) (by simp), hcr, hcm, hcB, hrB, hmB, hB1, by have := HKr.out.size; omega, HK5.out.trans HKr.out (by simp), L ++ [s], rfl, own_chg HO5.out HKr.out (by simp), fun j h0 h1 => by rw [HSeen.out j, HL.out j h0 h1]; simp⟩)
          go_wp2_with fail
          go_roundw
          case rel => exact ⟨k + 1, by omega, by go_num, HREL.out⟩
          case measure => simp [intOf]; omega
    · have HC := Lib.hid hc
      clear hV hH hC hc hown hL
      go_wp2_with fail
      refine (rvawake_c _).mono ?_
      rintro e v1 ⟨rfl, kc⟩
      go_wp2_with fail
      go_ret
      exact ⟨rfl, (HC.out.trans kc (by simp)).below (Nat.le_refl _) (by simp)⟩

end Go.Proofs.Ytgkdlplocahnnaa
