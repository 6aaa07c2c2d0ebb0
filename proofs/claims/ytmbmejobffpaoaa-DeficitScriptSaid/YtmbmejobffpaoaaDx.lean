/- The round of deficits: the walk of Next. -/
import Derived.Test.YtmbmejobffpaoaaDn
namespace Go.Proofs.Ytmbmejobffpaoaa
open Go.RowKit
set_option linter.unusedVariables false
set_option linter.unusedSimpArgs false

theorem rdOK_true {l x : Int} {r : List Int} (h : rdOK l (x :: r) = true) : (l < x ∧ x < 16) ∧ rdOK x r = true := by
  simp only [rdOK, Bool.and_eq_true, decide_eq_true_eq] at h
  exact h

set_option maxHeartbeats 1000000 in
theorem dnext_inv {w : World} {r g n d : Nat} {a : Option Addr} {rd : List Int} (hn : rd.length = n) (hR : Rd w g a rd) (hok : rdOK (-1) rd = false) :
    Calls Try.prog 11 #[.pointer (some ⟨r, 0, none⟩), .slice a n d] w fun e w' => e = .returned (.tuple #[.int .i64 0, .int .i64 1]) ∧ Chg [] w w' := by
  have hn6 := hR.1
  rw [hn] at hn6
  have HN := Lib.hid hn
  have HH := Lib.hid (hR.chg ((Chg.refl [] w).alloc (.cells #[.pointer (some ⟨r, 0, none⟩)] 25)) (by simp))
  have HK := Lib.hid hok
  clear hn hR hok
  go_enter Try.func11, Try.ntmps11
  go_wp2_with fail
  go_loop [6, 12] (fun l i => ∃ (k : Nat) (v : Int), k ≤ n ∧ i = .int .i64 k ∧ l = .int .i64 v ∧ Hid (rdOK v (rd.drop k) = false)) (fun l i => n - (intOf i).toNat)
  case atStart => exact ⟨0, -1, Nat.zero_le _, rfl, rfl, Lib.hid (by simpa using HK.out)⟩
  case round =>
    obtain ⟨k, v, hk, rfl, rfl, HP⟩ := hrel
    by_cases hlt : k < n
    · have hkl : k < rd.length := by have := HN.out; omega
      obtain ⟨off, rfl, c0⟩ := HH.out.2 k hkl
      rw [getD_get hkl] at c0
      have HQ := Lib.hid (HP.out)
      rw [drop_cons hkl] at HQ
      have HX := Lib.hid (fun (h1 : v < rd[k]) (h2 : rd[k] < 16) => (rdOK_good (r := rd.drop (k + 1)) h1 h2).symm.trans HQ.out)
      clear HQ HP
      generalize rd[k] = x at c0 HX
      have hI : (k : Int) < (n : Int) := by omega
      have hJ : (0 : Int) ≤ (k : Int) := by omega
      by_cases h1 : x ≤ v
      · go_wp2_with fail
        go_ret2
        exact ⟨rfl, (Chg.refl _ _).alloc _⟩
      by_cases h2 : 16 ≤ x
      · go_wp2_with fail
        go_ret2
        exact ⟨rfl, (Chg.refl _ _).alloc _⟩
      have HY := HX.out (by omega) (by omega)
      have HZ := Lib.hid HY
      clear HX HY
      go_wp2_with fail
      go_round
      case rel => exact ⟨k + 1, x, by omega, by go_num, rfl, HZ⟩
      case measure => simp [intOf]; omega
    · have := HP.out
      rw [List.drop_of_length_le (by have := HN.out; omega)] at this
      simp [rdOK] at this

set_option maxHeartbeats 1000000 in
theorem dnext_empty {w : World} {B r g n d : Nat} {O : List Nat} {q now : Int} {L : List Sd} {a : Option Addr} {rd : List Int} (h : DA w B r O q L now) (hl : L.length ≤ 1000) (hn : rd.length = n) (hR : Rd w g a rd) (hok : rdOK (-1) rd = true) (hany : anyB rd L = false) :
    Calls Try.prog 11 #[.pointer (some ⟨r, 0, none⟩), .slice a n d] w fun e w' => e = .returned (.tuple #[.int .i64 0, .int .i64 5]) ∧ Chg [] w w' := by
  have hmf : ∀ (fn : Fn) (first cap : Array Value) (w : World), (Instr.makeFunc fn first cap).run Try.prog w = .ok (.func fn first cap) w := fun _ _ _ _ => rfl
  have hn6 := hR.1
  rw [hn] at hn6
  have HN := Lib.hid hn
  have HH := Lib.hid (hR.chg ((Chg.refl [] w).alloc (.cells #[.pointer (some ⟨r, 0, none⟩)] 25)) (by simp))
  have HD := Lib.hid (h.chg ((Chg.refl [] w).alloc (.cells #[.pointer (some ⟨r, 0, none⟩)] 25)) (by simp) (by simp))
  have HB := Lib.hid ((Blk.new w 25 #[.pointer (some ⟨r, 0, none⟩)]).cell 0)
  have HC := Lib.hid (fcon_c (d := d) hn HH.out HD.out hl (HB.out.trans rfl))
  rw [hany] at HC
  have HK := Lib.hid hok
  clear hn hR hok h hany
  go_enter Try.func11, Try.ntmps11
  go_wp2_with fail
  go_loop [6, 12] (fun l i => ∃ (k : Nat) (v : Int), k ≤ n ∧ i = .int .i64 k ∧ l = .int .i64 v ∧ Hid (rdOK v (rd.drop k) = true)) (fun l i => n - (intOf i).toNat)
  case atStart => exact ⟨0, -1, Nat.zero_le _, rfl, rfl, Lib.hid (by simpa using HK.out)⟩
  case round =>
    obtain ⟨k, v, hk, rfl, rfl, HP⟩ := hrel
    by_cases hlt : k < n
    · have hkl : k < rd.length := by have := HN.out; omega
      obtain ⟨off, rfl, c0⟩ := HH.out.2 k hkl
      rw [getD_get hkl] at c0
      have HQ := Lib.hid (HP.out)
      rw [drop_cons hkl] at HQ
      obtain ⟨⟨h1, h2⟩, h3⟩ := rdOK_true HQ.out
      have HZ := Lib.hid h3
      clear HQ HP h3
      generalize hx : rd[k] = x at c0 h1 h2 HZ
      clear hx
      have hI : (k : Int) < (n : Int) := by omega
      have hJ : (0 : Int) ≤ (k : Int) := by omega
      go_wp2_with fail
      go_round
      case rel => exact ⟨k + 1, x, by omega, by go_num, rfl, HZ⟩
      case measure => simp [intOf]; omega
    · clear HP
      go_wp2_with fail
      refine HC.out.mono ?_
      rintro e w1 ⟨rfl, hc1⟩
      go_wp2_with fail
      go_ret2
      exact ⟨rfl, ((Chg.refl [] w).alloc _).trans hc1 (by simp)⟩

end Go.Proofs.Ytmbmejobffpaoaa
