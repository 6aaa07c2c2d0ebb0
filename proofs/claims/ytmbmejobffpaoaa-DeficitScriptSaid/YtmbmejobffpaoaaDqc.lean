/- The reference's round: Next: the list of ready stations; where it is refused. -/
import Derived.Test.YtmbmejobffpaoaaDq
namespace Go.Proofs.Ytmbmejobffpaoaa
open Go.RowKit
set_option linter.unusedVariables false
set_option linter.unusedSimpArgs false

theorem any_take {rd : List Int} {L : List Sd} {k : Nat} (hk : k < rd.length) : anyB (rd.take (k + 1)) L = (anyB (rd.take k) L || (sid rd[k] L).isSome) := by
  unfold anyB
  rw [List.take_succ_eq_append_getElem hk, List.any_append]
  simp

/-- What stands at the head of the loop over the ready stations. -/
def RrRel (w : World) (rd : List Int) (L : List Sd) (b : Bool) (n : Nat) (vs : Value) (k : Nat) (wr : World) : Prop := ∃ v : Int, k ≤ n ∧ vs = .bool (anyB (rd.take k) L) ∧ rdOK v (rd.drop k) = b ∧ ((k = 0 ∧ v = -1) ∨ ∃ j, k = j + 1 ∧ rd[j]? = some v ∧ 0 ≤ v) ∧ Chg [] w wr

theorem rr_start (w : World) (rd : List Int) (L : List Sd) (n : Nat) : RrRel w rd L (rdOK (-1) rd) n (.bool false) 0 w := ⟨-1, Nat.zero_le _, by simp [anyB], by simp, .inl ⟨rfl, rfl⟩, Chg.refl _ _⟩

set_option maxRecDepth 100000 in
set_option maxHeartbeats 4000000 in
/-- One round of that loop, whatever follows. -/
theorem rrnext_inv {w : World} {B s g n d : Nat} {O : List Nat} {q now : Int} {L : List Sd} {a : Option Addr} {rd : List Int} (h : DR w B s O q L now) (hl : L.length ≤ 1000) (hn : rd.length = n) (hR : Rd w g a rd) (hok : rdOK (-1) rd = false) :
    Calls Try.prog 32 #[.pointer (some ⟨s, 0, none⟩), .slice a n d] w fun e w' => e = .returned (.tuple #[.int .i64 0, .int .i64 1]) ∧ Chg [] w w' := by
  have hn6 := hR.1
  rw [hn] at hn6
  have HN := Lib.hid hn
  have HH := Lib.hid hR
  have HD := Lib.hid h
  have HS := Lib.hid (rr_start w rd L n)
  rw [hok] at HS
  clear hn hR hok h
  go_enter Try.func32, Try.ntmps32
  go_wp2_with fail
  go_loopw [6, 7] (fun vs i wr => ∃ k : Nat, i = .int .i64 k ∧ RrRel w rd L false n vs k wr) (fun _ i _ => n - (intOf i).toNat)
  case atStart => exact ⟨0, rfl, HS.out⟩
  case round =>
    clear HS
    obtain ⟨k, rfl, v, hk, rfl, hP, hv, hc⟩ := hrel
    by_cases hlt : k < n
    · have hkl : k < rd.length := by have := HN.out; omega
      have hrd := HH.out.chg hc (by simp)
      obtain ⟨off, rfl, c0⟩ := hrd.2 k hkl
      rw [getD_get hkl] at c0
      rw [drop_cons hkl] at hP
      have HX := Lib.hid (fun (h1 : v < rd[k]) (h2 : rd[k] < 16) => (rdOK_good (r := rd.drop (k + 1)) h1 h2).symm.trans hP)
      have HT := Lib.hid (any_take (L := L) hkl)
      have HG := Lib.hid (show rd[k]? = some rd[k] from List.getElem?_eq_getElem hkl)
      generalize rd[k] = x at c0 HX HT HG
      have hI : (k : Int) < (n : Int) := by omega
      have hJ : (0 : Int) ≤ (k : Int) := by omega
      have HC := Lib.hid hc
      have HAt := Lib.hid (fun (W : World) (k : Chg [] w W) => rrat_c (HD.out.chg k (by simp) (by simp)) hl x)
      clear hP
      by_cases h1 : x < 0
      · have h1' : decide (x < 0) = true := decide_eq_true h1
        clear hc hrd hv
        go_wp2_with fail
        go_quiet (fail)
        go_wp2_with fail
        go_ret2
        exact ⟨rfl, HC.out.drewN _⟩
      have h1' : decide (x < 0) = false := decide_eq_false h1
      by_cases h2 : 16 ≤ x
      · have h2' : decide (16 ≤ x) = true := decide_eq_true h2
        clear hc hrd hv
        go_wp2_with fail
        go_quiet (fail)
        go_wp2_with fail
        go_ret2
        exact ⟨rfl, HC.out.drewN _⟩
      have h2' : decide (16 ≤ x) = false := decide_eq_false h2
      by_cases hk0 : k = 0
      · have hv0 : v = -1 := by
          rcases hv with ⟨_, h⟩ | ⟨j, h, _⟩
          · exact h
          · omega
        have HZ := Lib.hid (HX.out (by omega) (by omega))
        have hg0 : decide ((0 : Int) < (k : Int)) = false := decide_eq_false (by omega)
        have hg0' : decide (0 < k) = false := decide_eq_false (by omega)
        clear HX hc hrd hv hk0 hv0
        cases hbt : anyB (rd.take k) L with
        | true =>
          rw [hbt] at HT
          clear hbt
          go_wp2_with fail
          go_quiet (fail)
          go_wp2_with fail
          go_roundw
          case rel => exact ⟨k + 1, by go_num, x, by omega, by rw [HT.out]; rfl, HZ.out, .inr ⟨k, rfl, HG.out, by omega⟩, HC.out.drewN _⟩
          case measure => simp [intOf]; omega
        | false =>
          rw [hbt] at HT
          clear hbt
          go_wp2_with fail
          go_quiet (fail)
          go_wp2_with fail
          refine (HAt.out _ (HC.out.drewN _)).mono ?_
          rintro e w2 ⟨rfl, hc2⟩
          have HC2 := Lib.hid ((HC.out.drewN _).trans hc2 (by simp))
          have HSI := Lib.hid (sidI_nonneg (x := x) (L := L))
          clear hc2
          go_wp2_with fail
          go_roundw
          case rel => exact ⟨k + 1, by go_num, x, by omega, by rw [HT.out, HSI.out]; rfl, HZ.out, .inr ⟨k, rfl, HG.out, by omega⟩, HC2.out⟩
          case measure => simp [intOf]; omega
      · obtain ⟨j, hj, hvj, hv0⟩ : ∃ j, k = j + 1 ∧ rd[j]? = some v ∧ 0 ≤ v := by
          rcases hv with ⟨h, _⟩ | h
          · exact absurd h hk0
          · exact h
        obtain ⟨off', hof, c1⟩ := hrd.2 (k - 1) (by omega)
        injection hof with hof
        injection hof with _ hof
        subst hof
        have hjl : k - 1 < rd.length := by omega
        rw [getD_get hjl] at c1
        have hjv : rd[k - 1] = v := by
          have : j = k - 1 := by omega
          subst this
          rw [List.getElem?_eq_getElem hjl] at hvj
          injection hvj
        rw [hjv] at c1
        have hg0 : decide ((0 : Int) < (k : Int)) = true := decide_eq_true (by omega)
        have hg0' : decide (0 < k) = true := decide_eq_true (by omega)
        have hg1 : (1 : Int) ≤ (k : Int) := by omega
        have hg2 : ((k : Int) - 1).toNat = k - 1 := by omega
        have hg3 : (k : Int) - 1 < (n : Int) := by omega
        have hg4 : IntKind.i64.wrap ((k : Int) - 1) = (k : Int) - 1 := by rw [IntKind.wrap_i64]; omega
        by_cases h3 : x ≤ v
        · have h3' : decide (x ≤ v) = true := decide_eq_true h3
          clear HX hc hrd hv hjv hvj hj hjl
          go_wp2_with fail
          go_quiet (fail)
          go_wp2_with fail
          go_ret2
          exact ⟨rfl, HC.out.drewN _⟩
        have h3' : decide (x ≤ v) = false := decide_eq_false h3
        have HZ := Lib.hid (HX.out (by omega) (by omega))
        clear HX hc hrd hv hjv hvj hj hjl
        cases hbt : anyB (rd.take k) L with
        | true =>
          rw [hbt] at HT
          clear hbt
          go_wp2_with fail
          go_quiet (fail)
          go_wp2_with fail
          go_roundw
          case rel => exact ⟨k + 1, by go_num, x, by omega, by rw [HT.out]; rfl, HZ.out, .inr ⟨k, rfl, HG.out, by omega⟩, HC.out.drewN _⟩
          case measure => simp [intOf]; omega
        | false =>
          rw [hbt] at HT
          clear hbt
          go_wp2_with fail
          go_quiet (fail)
          go_wp2_with fail
          refine (HAt.out _ (HC.out.drewN _)).mono ?_
          rintro e w2 ⟨rfl, hc2⟩
          have HC2 := Lib.hid ((HC.out.drewN _).trans hc2 (by simp))
          have HSI := Lib.hid (sidI_nonneg (x := x) (L := L))
          clear hc2
          go_wp2_with fail
          go_roundw
          case rel => exact ⟨k + 1, by go_num, x, by omega, by rw [HT.out, HSI.out]; rfl, HZ.out, .inr ⟨k, rfl, HG.out, by omega⟩, HC2.out⟩
          case measure => simp [intOf]; omega
    · rw [List.drop_of_length_le (by have := HN.out; omega)] at hP
      simp [rdOK] at hP

end Go.Proofs.Ytmbmejobffpaoaa
