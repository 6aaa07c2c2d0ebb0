/- The reference's round: Next where no station is there; the walk of its loop. -/
import Derived.Test.YtmbmejobffpaoaaDqc
import Derived.Deep.LoopGhost
import Derived.Deep.DeepCutAuto
namespace Go.Proofs.Ytmbmejobffpaoaa
open Go.RowKit
set_option linter.unusedVariables false
set_option linter.unusedSimpArgs false

set_option maxRecDepth 100000 in
set_option maxHeartbeats 4000000 in
theorem rrnext_empty {w : World} {B s g n d : Nat} {O : List Nat} {q now : Int} {L : List Sd} {a : Option Addr} {rd : List Int} (h : DR w B s O q L now) (hl : L.length ≤ 1000) (hn : rd.length = n) (hR : Rd w g a rd) (hok : rdOK (-1) rd = true) (hany : anyB rd L = false) :
    Calls Try.prog 32 #[.pointer (some ⟨s, 0, none⟩), .slice a n d] w fun e w' => e = .returned (.tuple #[.int .i64 0, .int .i64 5]) ∧ Chg [] w w' := by
  have hn6 := hR.1
  rw [hn] at hn6
  have HN := Lib.hid hn
  have HH := Lib.hid hR
  have HD := Lib.hid h
  have HS := Lib.hid (rr_start w rd L n)
  rw [hok] at HS
  have HANY := Lib.hid hany
  clear hn hR hok h hany
  go_enter Try.func32, Try.ntmps32
  go_wp2_with fail
  go_loopw [6, 7] (fun vs i wr => ∃ k : Nat, i = .int .i64 k ∧ RrRel w rd L true n vs k wr) (fun _ i _ => n - (intOf i).toNat)
  case atStart => exact ⟨0, rfl, HS.out⟩
  case round =>
    clear HS
    obtain ⟨k, rfl, v, hk, rfl, hP, hv, hc⟩ := hrel
    by_cases hlt : k < n
    · have hkl : k < rd.length := by have := HN.out; omega
      have hrd := HH.out.chg hc (by simp)
      obtain ⟨off, rfl, c0⟩ := hrd.2 k hkl
      rw [getD_get hkl] at c0
      rw [drop_cons hkl] at hP
      obtain ⟨⟨hx1, hx2⟩, hx3⟩ := rdOK_true hP
      have HZ := Lib.hid hx3
      have HT := Lib.hid (any_take (L := L) hkl)
      have HG := Lib.hid (show rd[k]? = some rd[k] from List.getElem?_eq_getElem hkl)
      generalize rd[k] = x at c0 HT HG hx1 hx2 HZ hx3 hP
      have hI : (k : Int) < (n : Int) := by omega
      have hJ : (0 : Int) ≤ (k : Int) := by omega
      have HC := Lib.hid hc
      have HAt := Lib.hid (fun (W : World) (k : Chg [] w W) => rrat_c (HD.out.chg k (by simp) (by simp)) hl x)
      have hv1 : -1 ≤ v := by
        rcases hv with ⟨_, h⟩ | ⟨j, _, _, h⟩ <;> omega
      have h1 : ¬ x < 0 := by omega
      have h2 : ¬ 16 ≤ x := by omega
      have h1' : decide (x < 0) = false := decide_eq_false h1
      have h2' : decide (16 ≤ x) = false := decide_eq_false h2
      clear hP hx3
      by_cases hk0 : k = 0
      · have hv0 : v = -1 := by
          rcases hv with ⟨_, h⟩ | ⟨j, h, _⟩
          · exact h
          · omega
        have hg0 : decide ((0 : Int) < (k : Int)) = false := decide_eq_false (by omega)
        have hg0' : decide (0 < k) = false := decide_eq_false (by omega)
        clear hc hrd hv hk0 hv0
        cases hbt : anyB (rd.take k) L with
        | true =>
          rw [hbt] at HT
          clear hbt
          go_wp2_with fail
          go_quiet (fail)
          go_wp2_with fail
          go_roundw
          case rel => exact ⟨k + 1, by go_num, x, by omega, by rw [HT.out]; rfl, HZ.out, .inr ⟨k, rfl, HG.out, by omega⟩, HC.out.drewN _⟩
          case measure => simp [intOf]; omega
        | false =>
          rw [hbt] at HT
          clear hbt
          go_wp2_with fail
          go_quiet (fail)
          go_wp2_with fail
          refine (HAt.out _ (HC.out.drewN _)).mono ?_
          rintro e w2 ⟨rfl, hc2⟩
          have HC2 := Lib.hid ((HC.out.drewN _).trans hc2 (by simp))
          have HSI := Lib.hid (sidI_nonneg (x := x) (L := L))
          clear hc2
          go_wp2_with fail
          go_roundw
          case rel => exact ⟨k + 1, by go_num, x, by omega, by rw [HT.out, HSI.out]; rfl, HZ.out, .inr ⟨k, rfl, HG.out, by omega⟩, HC2.out⟩
          case measure => simp [intOf]; omega
      · obtain ⟨j, hj, hvj, hv0⟩ : ∃ j, k = j + 1 ∧ rd[j]? = some v ∧ 0 ≤ v := by
          rcases hv with ⟨h, _⟩ | h
          · exact absurd h hk0
          · exact h
        obtain ⟨off', hof, c1⟩ := hrd.2 (k - 1) (by omega)
        injection hof with hof
        injection hof with _ hof
        subst hof
        have hjl : k - 1 < rd.length := by omega
        rw [getD_get hjl] at c1
        have hjv : rd[k - 1] = v := by
          have : j = k - 1 := by omega
          subst this
          rw [List.getElem?_eq_getElem hjl] at hvj
          injection hvj
        rw [hjv] at c1
        have hg0 : decide ((0 : Int) < (k : Int)) = true := decide_eq_true (by omega)
        have hg0' : decide (0 < k) = true := decide_eq_true (by omega)
        have hg1 : (1 : Int) ≤ (k : Int) := by omega
        have hg2 : ((k : Int) - 1).toNat = k - 1 := by omega
        have hg3 : (k : Int) - 1 < (n : Int) := by omega
        have hg4 : IntKind.i64.wrap ((k : Int) - 1) = (k : Int) - 1 := by rw [IntKind.wrap_i64]; omega
        have h3' : decide (x ≤ v) = false := decide_eq_false (by omega)
        have h3 : ¬ x ≤ v := by omega
        clear hc hrd hv hjv hvj hj hjl
        cases hbt : anyB (rd.take k) L with
        | true =>
          rw [hbt] at HT
          clear hbt
          go_wp2_with fail
          go_quiet (fail)
          go_wp2_with fail
          go_roundw
          case rel => exact ⟨k + 1, by go_num, x, by omega, by rw [HT.out]; rfl, HZ.out, .inr ⟨k, rfl, HG.out, by omega⟩, HC.out.drewN _⟩
          case measure => simp [intOf]; omega
        | false =>
          rw [hbt] at HT
          clear hbt
          go_wp2_with fail
          go_quiet (fail)
          go_wp2_with fail
          refine (HAt.out _ (HC.out.drewN _)).mono ?_
          rintro e w2 ⟨rfl, hc2⟩
          have HC2 := Lib.hid ((HC.out.drewN _).trans hc2 (by simp))
          have HSI := Lib.hid (sidI_nonneg (x := x) (L := L))
          clear hc2
          go_wp2_with fail
          go_roundw
          case rel => exact ⟨k + 1, by go_num, x, by omega, by rw [HT.out, HSI.out]; rfl, HZ.out, .inr ⟨k, rfl, HG.out, by omega⟩, HC2.out⟩
          case measure => simp [intOf]; omega
    · have hge : (n : Int) ≤ (k : Int) := by omega
      have htk : rd.take k = rd := List.take_of_length_le (by have := HN.out; omega)
      have HB := Lib.hid (show anyB (rd.take k) L = false from by rw [htk]; exact HANY.out)
      rw [HB.out]
      clear hP hv htk
      go_wp2_with fail
      go_ret2
      exact ⟨rfl, hc⟩

/-- What stands at the head of Next's loop. -/
def RxRel (w1 wr : World) (B s : Nat) (O : List Nat) (q K now : Int) (rd : List Int) (L : List Sd) (x0 : Int) (gk : Nat) : Prop :=
  ∃ Lc O', DR wr B s O' q Lc now ∧ DV q K Lc ∧ (∀ L', Nxt q rd Lc L' → Nxt q rd L L') ∧ (∃ k, sid x0 Lc = some k) ∧ gk = meas x0 Lc ∧ (∀ j ∈ O', j ∈ O ∨ w1.heap.size ≤ j) ∧ Chg [s] w1 wr

theorem rx_turn {w1 wr W : World} {B s gk : Nat} {O O2 : List Nat} {q K now x0 : Int} {rd : List Int} {L : List Sd} {y : Sd} {R : List Sd}
    (hv : DV q K (y :: R)) (hL : ∀ L', Nxt q rd (y :: R) L' → Nxt q rd L L') (hx : ∃ k, sid x0 (y :: R) = some k) (hx0 : x0 ∈ rd) (hgk : gk = meas x0 (y :: R)) (hc : Chg [s] w1 wr)
    (hn : ¬ elig rd y) (hD : DR W B s O2 q (R ++ [rot q y]) now) (hO2 : ∀ j ∈ O2, wr.heap.size ≤ j) (hc2 : Chg [s] wr W) :
    ∃ k, k < gk ∧ RxRel w1 W B s O q K now rd L x0 k := by
  have hz := hc.size
  refine ⟨meas x0 (R ++ [rot q y]), ?_, R ++ [rot q y], O2, hD, hv.rot, fun L' h => hL L' (.go hn h), sid_rot hx, rfl, fun j hj => .inr (by have := hO2 j hj; omega), hc.trans hc2 (by simp)⟩
  rw [hgk]
  exact meas_lt hv.hq (hv.ok y (by simp)) hv.u hx0 hx hn

set_option maxRecDepth 100000 in
set_option maxHeartbeats 16000000 in
theorem rrnext_c {w : World} {B s g n d : Nat} {O : List Nat} {q K now : Int} {L : List Sd} {a : Option Addr} {rd : List Int} (h : DR w B s O q L now) (hv : DV q K L) (hB : B ≤ w.heap.size) (hn : rd.length = n) (hR : Rd w g a rd) (hg : g ≠ s) (hok : rdOK (-1) rd = true) (hany : anyB rd L = true) :
    Calls Try.prog 32 #[.pointer (some ⟨s, 0, none⟩), .slice a n d] w fun e w' => ∃ x R O', e = .returned (.tuple #[.int .i64 x.i, .int .i64 0]) ∧ Nxt q rd L (x :: R) ∧ DR w' B s O' q (x :: R) x.i ∧ (∀ j ∈ O', j ∈ O ∨ w.heap.size ≤ j) ∧ Chg [s] w w' := by
  obtain ⟨x0, hx0, hk0⟩ := anyB_spec hany
  have hn6 := hR.1
  rw [hn] at hn6
  have hl : L.length ≤ 1000 := by have := hv.hl; omega
  have HV := Lib.hid hv
  have HN := Lib.hid hn
  have HH := Lib.hid hR
  have HD := Lib.hid h
  have HS := Lib.hid (rr_start w rd L n)
  rw [hok] at HS
  have HANY := Lib.hid hany
  have HX0 := Lib.hid hx0
  have HK0 := Lib.hid hk0
  have hsl := h.lt
  clear hn hR hok h hany hv hx0 hk0
  go_enter Try.func32, Try.ntmps32
  go_wp2_with fail
  go_loopw [6, 7] (fun vs i wr => ∃ k : Nat, i = .int .i64 k ∧ RrRel w rd L true n vs k wr) (fun _ i _ => n - (intOf i).toNat)
  case atStart => exact ⟨0, rfl, HS.out⟩
  case round =>
    clear HS
    obtain ⟨k, rfl, v, hk, rfl, hP, hv, hc⟩ := hrel
    by_cases hlt : k < n
    · have hkl : k < rd.length := by have := HN.out; omega
      have hrd := HH.out.chg hc (by simp)
      obtain ⟨off, rfl, c0⟩ := hrd.2 k hkl
      rw [getD_get hkl] at c0
      rw [drop_cons hkl] at hP
      obtain ⟨⟨hx1, hx2⟩, hx3⟩ := rdOK_true hP
      have HZ := Lib.hid hx3
      have HT := Lib.hid (any_take (L := L) hkl)
      have HG := Lib.hid (show rd[k]? = some rd[k] from List.getElem?_eq_getElem hkl)
      generalize rd[k] = x at c0 HT HG hx1 hx2 HZ hx3 hP
      have hI : (k : Int) < (n : Int) := by omega
      have hJ : (0 : Int) ≤ (k : Int) := by omega
      have HC := Lib.hid hc
      have HAt := Lib.hid (fun (W : World) (k : Chg [] w W) => rrat_c (HD.out.chg k (by simp) (by simp)) hl x)
      have hv1 : -1 ≤ v := by
        rcases hv with ⟨_, h⟩ | ⟨j, _, _, h⟩ <;> omega
      have h1 : ¬ x < 0 := by omega
      have h2 : ¬ 16 ≤ x := by omega
      have h1' : decide (x < 0) = false := decide_eq_false h1
      have h2' : decide (16 ≤ x) = false := decide_eq_false h2
      clear hP hx3
      by_cases hk0 : k = 0
      · have hv0 : v = -1 := by
          rcases hv with ⟨_, h⟩ | ⟨j, h, _⟩
          · exact h
          · omega
        have hg0 : decide ((0 : Int) < (k : Int)) = false := decide_eq_false (by omega)
        have hg0' : decide (0 < k) = false := decide_eq_false (by omega)
        clear hc hrd hv hk0 hv0
        cases hbt : anyB (rd.take k) L with
        | true =>
          rw [hbt] at HT
          clear hbt
          go_wp2_with fail
          go_quiet (fail)
          go_wp2_with fail
          go_roundw
          case rel => exact ⟨k + 1, by go_num, x, by omega, by rw [HT.out]; rfl, HZ.out, .inr ⟨k, rfl, HG.out, by omega⟩, HC.out.drewN _⟩
          case measure => simp [intOf]; omega
        | false =>
          rw [hbt] at HT
          clear hbt
          go_wp2_with fail
          go_quiet (fail)
          go_wp2_with fail
          refine (HAt.out _ (HC.out.drewN _)).mono ?_
          rintro e w2 ⟨rfl, hc2⟩
          have HC2 := Lib.hid ((HC.out.drewN _).trans hc2 (by simp))
          have HSI := Lib.hid (sidI_nonneg (x := x) (L := L))
          clear hc2
          go_wp2_with fail
          go_roundw
          case rel => exact ⟨k + 1, by go_num, x, by omega, by rw [HT.out, HSI.out]; rfl, HZ.out, .inr ⟨k, rfl, HG.out, by omega⟩, HC2.out⟩
          case measure => simp [intOf]; omega
      · obtain ⟨j, hj, hvj, hv0⟩ : ∃ j, k = j + 1 ∧ rd[j]? = some v ∧ 0 ≤ v := by
          rcases hv with ⟨h, _⟩ | h
          · exact absurd h hk0
          · exact h
        obtain ⟨off', hof, c1⟩ := hrd.2 (k - 1) (by omega)
        injection hof with hof
        injection hof with _ hof
        subst hof
        have hjl : k - 1 < rd.length := by omega
        rw [getD_get hjl] at c1
        have hjv : rd[k - 1] = v := by
          have : j = k - 1 := by omega
          subst this
          rw [List.getElem?_eq_getElem hjl] at hvj
          injection hvj
        rw [hjv] at c1
        have hg0 : decide ((0 : Int) < (k : Int)) = true := decide_eq_true (by omega)
        have hg0' : decide (0 < k) = true := decide_eq_true (by omega)
        have hg1 : (1 : Int) ≤ (k : Int) := by omega
        have hg2 : ((k : Int) - 1).toNat = k - 1 := by omega
        have hg3 : (k : Int) - 1 < (n : Int) := by omega
        have hg4 : IntKind.i64.wrap ((k : Int) - 1) = (k : Int) - 1 := by rw [IntKind.wrap_i64]; omega
        have h3' : decide (x ≤ v) = false := decide_eq_false (by omega)
        have h3 : ¬ x ≤ v := by omega
        clear hc hrd hv hjv hvj hj hjl
        cases hbt : anyB (rd.take k) L with
        | true =>
          rw [hbt] at HT
          clear hbt
          go_wp2_with fail
          go_quiet (fail)
          go_wp2_with fail
          go_roundw
          case rel => exact ⟨k + 1, by go_num, x, by omega, by rw [HT.out]; rfl, HZ.out, .inr ⟨k, rfl, HG.out, by omega⟩, HC.out.drewN _⟩
          case measure => simp [intOf]; omega
        | false =>
          rw [hbt] at HT
          clear hbt
          go_wp2_with fail
          go_quiet (fail)
          go_wp2_with fail
          refine (HAt.out _ (HC.out.drewN _)).mono ?_
          rintro e w2 ⟨rfl, hc2⟩
          have HC2 := Lib.hid ((HC.out.drewN _).trans hc2 (by simp))
          have HSI := Lib.hid (sidI_nonneg (x := x) (L := L))
          clear hc2
          go_wp2_with fail
          go_roundw
          case rel => exact ⟨k + 1, by go_num, x, by omega, by rw [HT.out, HSI.out]; rfl, HZ.out, .inr ⟨k, rfl, HG.out, by omega⟩, HC2.out⟩
          case measure => simp [intOf]; omega
    · have hge : (n : Int) ≤ (k : Int) := by omega
      have hkn : decide (k < n) = false := decide_eq_false (by omega)
      have htk : rd.take k = rd := List.take_of_length_le (by have := HN.out; omega)
      have HB := Lib.hid (show anyB (rd.take k) L = true from by rw [htk]; exact HANY.out)
      rw [HB.out]
      have HC0 := Lib.hid hc
      have hz0 := hc.size
      have HI := Lib.hid (show RxRel wr wr B s O q K now rd L x0 (meas x0 L) from ⟨L, O, HD.out.chg hc (by simp) (by simp), HV.out, fun _ h => h, HK0.out, rfl, fun j hj => .inl hj, Chg.refl _ _⟩)
      obtain ⟨w1, hw1⟩ : ∃ w1 : World, w1 = wr := ⟨_, rfl⟩
      subst hw1
      clear hP hv htk hc hlt
      go_wp2_with fail
      go_loopg [8] (meas x0 L) (fun gk v wr => RxRel w1 wr B s O q K now rd L x0 gk)
      case atStart => exact HI.out
      case round =>
        clear HI
        obtain ⟨Lc, O', hD, hvv, hL, hkx, hgk, hO, hc⟩ := hrel
        have hrd := (HH.out.chg HC0.out (by simp)).chg hc (by simp; exact hg)
        obtain ⟨y, R, rfl⟩ : ∃ m R, Lc = m :: R := by
          obtain ⟨k, hk⟩ := hkx
          cases Lc with
          | nil => cases hk
          | cons m R => exact ⟨m, R, rfl⟩
        obtain ⟨A, c, h9, h10⟩ := hD.split
        have hDr := h9
        rw [show (y :: R).length = R.length + 1 from rfl] at hDr
        have e1 := (hDr.cell 1).trans rfl
        have f1 := hDr.frozen 1
        have eq0 := (hDr.cell 0).trans rfl
        have e2 := (hDr.cell 2).trans rfl
        have f2 := hDr.frozen 2
        have hsl2 := hDr.lt
        rcases h10 with ⟨_, _, h0⟩ | ⟨g0, rfl, hg0, hg0O, hg0s, hrow⟩
        · cases h0
        obtain ⟨r0, r1, r2, r3⟩ := row_sd hrow (k := 0) (by simp)
        simp only [Nat.zero_mul, Nat.zero_add, List.getElem_cons_zero] at r0 r1 r2 r3
        have HDD := Lib.hid hD
        have HROW := Lib.hid hrow
        have hcl := hrow.1
        have hgl := hrow.lt
        clear hD h9 hrow
        have HNE := Lib.hid (fun (h : elig rd y) => h)
        have hok4 := hvv.ok y (by simp)
        have hqw := qw_bd hvv.hq hok4.2.1
        have htl := hok4.t_le hvv.hq
        have hkk := hvv.hK
        obtain ⟨⟨i0, i1⟩, ⟨w0, w1'⟩, ⟨d0, d1⟩, t0, hh5⟩ := hok4
        obtain ⟨q0, q1⟩ := hvv.hq
        obtain ⟨qw0, qw1⟩ := hqw
        obtain ⟨kk0, kk1⟩ := hkk
        have HVV := Lib.hid hvv
        have HLL := Lib.hid hL
        have HKX := Lib.hid hkx
        have HGK := Lib.hid hgk
        have HOO := Lib.hid hO
        have HHC := Lib.hid hc
        have HRD := Lib.hid (rrhas_c (d := d) HN.out (hrd.chg ((Chg.refl [] wr).alloc (.cells #[.int .i64 y.i, .int .i64 y.w, .int .i64 y.d, .int .i64 y.t] 66)) (by simp)) y.i)
        have hz3 := hc.size
        clear hh5 hvv hL hkx hgk hO hc hrd
        have hg8 : g0 ≠ wr.heap.size := by omega
        have HONE := Lib.hid (sdCells.flat_one R)
        have hlr : R.length ≤ 16 := by have := HVV.out.hl; simp at this; omega
        obtain ⟨A1, hA1, hr1⟩ : ∃ A1, (if c = 1 then some ({ block := g0, off := 0 } : Addr) else some { block := g0, off := 4 }) = A1 ∧ Reads wr wr.heap.size 4 A1 R.length (R.flatMap sdC) := by
          refine ⟨_, rfl, ?_⟩
          have := (Reads.of_own (HROW.out.own sdCells (Nat.le_refl _))).cut (k := 1) (cap := c) (by simp) hcl
          simpa [Addr.add, sdC] using this
        have HR1 := Lib.hid (fun (W : World) (hW : Chg [] wr W) => reads_chg hr1 hW (Nat.le_refl _))
        have H9 := Lib.hid (fun (W : World) (hW : Chg [] wr W) => hDr.chg hW (by simp))
        have b1 : (1 : Int) ≤ (R.length : Int) + 1 := by omega
        have b2 : (1 : Int) ≤ (c : Int) := by simp at hcl; omega
        have b3 : (R.length : Int) + 1 ≤ (c : Int) := by simp at hcl; omega
        have hs9 : s < wr.heap.size + 1 := by omega
        have hg9 : g0 < wr.heap.size + 1 := by omega
        have hs10 : s < wr.heap.size + 1 + 1 := by omega
        have hs11 : s < wr.heap.size + 1 + 1 + 1 := by omega
        clear hr1 hDr
        have hs8 : s ≠ wr.heap.size := by omega
        by_cases hd : 0 < y.d
        · by_cases hin : y.i ∈ rd
          · rw [decide_eq_true hin] at HRD
            have HIN := Lib.hid hin
            clear hin
            go_wp2_with fail
            refine HRD.out.mono ?_
            rintro e w2 ⟨rfl, m2, rfl⟩
            go_wp2_with fail
            go_ret2
            have hE : elig rd y := ⟨hd, HIN.out⟩
            have hDD := ((HDD.out.setnow (now' := y.i)).chg (((Chg.refl [] _).alloc (.cells #[.int .i64 y.i, .int .i64 y.w, .int .i64 y.d, .int .i64 y.t] 66)).drewN m2) (by simp) (by simp))
            refine ⟨y, R, O', rfl, HLL.out _ (.stop hE), hDD, fun j hj => ?_, ?_⟩
            · rcases HOO.out j hj with h | h
              · exact .inl h
              · exact .inr (by omega)
            · exact (((((HC0.out.mono (S' := [s]) (by simp)).trans HHC.out (by simp)).setCell (by simp) _).alloc _).drewN m2)
          · rw [decide_eq_false hin] at HRD
            have HIN := Lib.hid hin
            clear hin
            go_wp2_with fail
            refine HRD.out.mono ?_
            rintro e w2 ⟨rfl, m2, rfl⟩
            go_wp2_with fail
            go_region_law (first
              | (have hZ := hown1; clear hZ; go_must (refine step_app2 (P := Try.prog) (t := 61) Try.underlying61 seat_info rfl (by omega) (.tmp 102) (.tmp 104) wr.heap.size (n := R.length) (m := 1) (N := R.length + 1) rfl (by omega) (sd_one ⟨y.i, y.w, y.d, y.t⟩) (by omega) (by rfl) (by rfl) (by rfl) (by rfl) (own_chg (S := []) hown1 (by repeat (first | exact Chg.refl _ _ | apply Chg.drew | apply Chg.drewN | apply Chg.alloc)) (by simp)) (by first | exact reads_lit _ _ #[.int .i64 y.i, .int .i64 y.w, .int .i64 (y.d), .int .i64 (y.t)] 4 rfl | exact reads_blk (hB1 _ #[.int .i64 y.i, .int .i64 y.w, .int .i64 (y.d), .int .i64 (y.t)] (by repeat (first | (refine Blk.new2 ?_; first | rfl | (simp; done)) | apply Blk.drew | apply Blk.drewN | apply Blk.alloc)) (by simp [ownL, Value.ownBlock]; try omega)) rfl) (by have := q1.size; simp; omega) ?_); intro A2 d2 W2 hown2 hgrow2 hat2; have q2 : Chg [] wr W2 := Chg.grown (by repeat (first | exact q1 | exact Chg.refl _ _ | apply Chg.drew | apply Chg.drewN | apply Chg.alloc)) hgrow2 (fun j hj => .inr (hown1.lt j hj).1); have g1 := ((H9.out _ q2).cell 1).trans rfl; have g2 := (H9.out _ q2).frozen 1; have g5 := (H9.out _ q2).lt)
              | (refine step_app2 (P := Try.prog) (t := 61) Try.underlying61 seat_info rfl (by omega) (.tmp 96) (.tmp 101) wr.heap.size (v := .slice (some ⟨_, 0, none⟩) 0 0) (n := 0) (xs := []) (m := R.length) (N := R.length) (Nat.zero_add _) (by omega) HONE.out (by omega) (by rfl) (by rfl) (by rfl) (by rfl) (own_mt (by repeat (first | (refine Blk.new2 ?_; first | rfl | (simp; done)) | apply Blk.drew | apply Blk.drewN | apply Blk.alloc)) (by omega)) (HR1.out _ (by repeat (first | exact Chg.refl _ _ | apply Chg.drew | apply Chg.drewN | apply Chg.alloc))) (by simp; try omega) ?_; intro A1 d1 W1 hown1 hgrow1 hat1; have q1 : Chg [] wr W1 := Chg.grown (by repeat (first | exact Chg.refl _ _ | apply Chg.drew | apply Chg.drewN | apply Chg.alloc)) hgrow1 (by intro k hk; simp [Value.ownBlock] at hk; omega); have hB1 := (fun (g : Nat) (cs : Array Value) (hb : Blk _ g 66 cs) (hne : g ∉ ownL _) => hb.chg ((Chg.refl (ownL _) _).grown hgrow1 (fun j hj => .inl (mem_ownL.2 hj))) hne); have hX1 := hB1 wr.heap.size #[.int .i64 y.i, .int .i64 y.w, .int .i64 (y.d), .int .i64 (y.t)] (by repeat (first | (refine Blk.new2 ?_; first | rfl | (simp; done)) | apply Blk.drew | apply Blk.drewN | apply Blk.alloc)) (by simp [ownL, Value.ownBlock]; try omega); have g10 := (hX1.cell 0).trans rfl; have g11 := (hX1.cell 1).trans rfl; have g12 := (hX1.cell 2).trans rfl; have g13 := (hX1.cell 3).trans rfl))
            all_goals
              go_wp2_with fail
              obtain ⟨r1, r2, r3⟩ := HDD.out.put (L' := R ++ [y]) (by omega) q2 (by have := hown2; simpa [sdC] using this)
              obtain ⟨kk, hkl, hrel⟩ := rx_turn HVV.out HLL.out HKX.out HX0.out HGK.out HHC.out (fun h => HIN.out h.2) (by rw [show rot q y = y from by unfold rot; rw [if_neg (by omega)]]; exact r1) r2 r3
              have HREL := Lib.hid hrel
              clear hrel
              go_roundg kk
              case measure => exact hkl
              case rel => exact HREL.out
        · have hd' : y.d ≤ 0 := by omega
          have HNL := Lib.hid (show ¬ elig rd y from fun h => hd h.1)
          have hw1 : IntKind.i64.wrap (q * y.w) = q * y.w := by rw [IntKind.wrap_i64]; omega
          have hw2 : IntKind.i64.wrap (y.d + q * y.w) = y.d + q * y.w := by rw [IntKind.wrap_i64]; omega
          have hw3 : IntKind.i64.wrap (y.t + 1) = y.t + 1 := by rw [IntKind.wrap_i64]; omega
          go_upto_region 11 with fail
          go_cut [69] (fun s69 wx => s69 = .bool false ∧ ∃ m, wx = (wr.alloc (.cells #[.int .i64 y.i, .int .i64 y.w, .int .i64 y.d, .int .i64 y.t] 66)).drewN m)
          case first =>
            generalize decide (y.i ∈ rd) = bI at HRD
            cases bI
            all_goals
              go_wp2_with fail
              refine HRD.out.mono ?_
              rintro e w2 ⟨rfl, m2, rfl⟩
              go_wp2_with fail
              go_meet
              exact ⟨by first | rfl | (rw [decide_eq_false (show ¬ 0 < y.d by omega)]), m2, rfl⟩
          case rest =>
            obtain ⟨rfl, m2, rfl⟩ := hcut
            go_wp2_with fail
            go_region
            go_wp2_with fail
            go_region_law (first
              | (have hZ := hown1; clear hZ; go_must (refine step_app2 (P := Try.prog) (t := 61) Try.underlying61 seat_info rfl (by omega) (.tmp 102) (.tmp 104) wr.heap.size (n := R.length) (m := 1) (N := R.length + 1) rfl (by omega) (sd_one ⟨y.i, y.w, y.d + q * y.w, y.t + 1⟩) (by omega) (by rfl) (by rfl) (by rfl) (by rfl) (own_chg (S := []) hown1 (by repeat (first | exact Chg.refl _ _ | apply Chg.drew | apply Chg.drewN | apply Chg.alloc)) (by simp)) (by first | exact reads_lit _ _ #[.int .i64 y.i, .int .i64 y.w, .int .i64 (y.d + q * y.w), .int .i64 (y.t + 1)] 4 rfl | exact reads_blk (hB1 _ #[.int .i64 y.i, .int .i64 y.w, .int .i64 (y.d + q * y.w), .int .i64 (y.t + 1)] (by repeat (first | (refine Blk.new2 ?_; first | rfl | (simp; done)) | apply Blk.drew | apply Blk.drewN | apply Blk.alloc)) (by simp [ownL, Value.ownBlock]; try omega)) rfl) (by have := q1.size; simp; omega) ?_); intro A2 d2 W2 hown2 hgrow2 hat2; have q2 : Chg [] wr W2 := Chg.grown (by repeat (first | exact q1 | exact Chg.refl _ _ | apply Chg.drew | apply Chg.drewN | apply Chg.alloc)) hgrow2 (fun j hj => .inr (hown1.lt j hj).1); have g1 := ((H9.out _ q2).cell 1).trans rfl; have g2 := (H9.out _ q2).frozen 1; have g5 := (H9.out _ q2).lt)
              | (refine step_app2 (P := Try.prog) (t := 61) Try.underlying61 seat_info rfl (by omega) (.tmp 96) (.tmp 101) wr.heap.size (v := .slice (some ⟨_, 0, none⟩) 0 0) (n := 0) (xs := []) (m := R.length) (N := R.length) (Nat.zero_add _) (by omega) HONE.out (by omega) (by rfl) (by rfl) (by rfl) (by rfl) (own_mt (by repeat (first | (refine Blk.new2 ?_; first | rfl | (simp; done)) | apply Blk.drew | apply Blk.drewN | apply Blk.alloc)) (by omega)) (HR1.out _ (by repeat (first | exact Chg.refl _ _ | apply Chg.drew | apply Chg.drewN | apply Chg.alloc))) (by simp; try omega) ?_; intro A1 d1 W1 hown1 hgrow1 hat1; have q1 : Chg [] wr W1 := Chg.grown (by repeat (first | exact Chg.refl _ _ | apply Chg.drew | apply Chg.drewN | apply Chg.alloc)) hgrow1 (by intro k hk; simp [Value.ownBlock] at hk; omega); have hB1 := (fun (g : Nat) (cs : Array Value) (hb : Blk _ g 66 cs) (hne : g ∉ ownL _) => hb.chg ((Chg.refl (ownL _) _).grown hgrow1 (fun j hj => .inl (mem_ownL.2 hj))) hne); have hX1 := hB1 wr.heap.size #[.int .i64 y.i, .int .i64 y.w, .int .i64 (y.d + q * y.w), .int .i64 (y.t + 1)] (by repeat (first | (refine Blk.new2 ?_; first | rfl | (simp; done)) | apply Blk.drew | apply Blk.drewN | apply Blk.alloc)) (by simp [ownL, Value.ownBlock]; try omega); have g10 := (hX1.cell 0).trans rfl; have g11 := (hX1.cell 1).trans rfl; have g12 := (hX1.cell 2).trans rfl; have g13 := (hX1.cell 3).trans rfl))
            all_goals
              go_wp2_with fail
              obtain ⟨r1, r2, r3⟩ := HDD.out.put (L' := R ++ [⟨y.i, y.w, y.d + q * y.w, y.t + 1⟩]) (by omega) q2 (by have := hown2; simpa [sdC] using this)
              obtain ⟨kk, hkl, hrel⟩ := rx_turn HVV.out HLL.out HKX.out HX0.out HGK.out HHC.out HNL.out (by rw [show rot q y = ⟨y.i, y.w, y.d + q * y.w, y.t + 1⟩ from by unfold rot; rw [if_pos hd']]; exact r1) r2 r3
              have HREL := Lib.hid hrel
              clear hrel
              go_roundg kk
              case measure => exact hkl
              case rel => exact HREL.out

end Go.Proofs.Ytmbmejobffpaoaa
