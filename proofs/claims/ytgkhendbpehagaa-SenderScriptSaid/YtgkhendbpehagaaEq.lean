/- The contract of airsharehelp.Equal at int. -/
import Derived.Test.YtgkhendbpehagaaGen
namespace Go.Proofs.Ytgkhendbpehagaa
open Go.RowKit
set_option linter.unusedVariables false
set_option linter.unusedSimpArgs false

/-- The slice (a, len) reads as the integers L; if it is not empty, it lies in block g. -/
def Rd (w : World) (g : Nat) (a : Option Addr) (L : List Int) : Prop :=
  L.length ≤ 9223372036854775807 ∧ ∀ i, i < L.length → ∃ off, a = some ⟨g, off, none⟩ ∧ w.cell? ⟨g, off + i, none⟩ = some (.int .i64 (L.getD i 0))

theorem Rd.lt {w : World} {g : Nat} {a : Option Addr} {L : List Int} (h : Rd w g a L) (hl : 0 < L.length) : g < w.heap.size := by
  obtain ⟨off, _, h2⟩ := h.2 0 hl
  exact block_lt_of_cell h2
theorem Rd.chg {S : List Nat} {w w' : World} {g : Nat} {a : Option Addr} {L : List Int} (h : Rd w g a L) (hc : Chg S w w') (hg : g ∉ S) : Rd w' g a L :=
  ⟨h.1, fun i hi => by
    obtain ⟨off, h1, h2⟩ := h.2 i hi
    exact ⟨off, h1, by rw [hc.cell (block_lt_of_cell h2) hg]; exact h2⟩⟩
theorem Rd.nil (w : World) (g : Nat) (a : Option Addr) : Rd w g a [] := ⟨by simp, fun i hi => absurd hi (by simp)⟩
theorem Rd.of_blk {w : World} {g : Nat} {t : TypeId} {L : List Int} (h : Blk w g t (L.map (Value.int .i64)).toArray) (hl : L.length ≤ 9223372036854775807) : Rd w g (some ⟨g, 0, none⟩) L :=
  ⟨hl, fun i hi => ⟨0, rfl, by rw [h.cell]; simp [hi]⟩⟩

theorem getD_ne_of {L M : List Int} {k : Nat} (h : L.getD k 0 ≠ M.getD k 0) : L ≠ M := fun e => h (by rw [e])
theorem eq_of_take {L M : List Int} (h1 : L.length = M.length) (h : ∀ i, i < L.length → L.getD i 0 = M.getD i 0) : L = M := by
  apply List.ext_getElem h1
  intro i hi hj
  have := h i hi
  rwa [List.getD_eq_getElem?_getD, List.getD_eq_getElem?_getD, List.getElem?_eq_getElem hi, List.getElem?_eq_getElem hj] at this

set_option maxHeartbeats 400000 in
theorem equal_c {w : World} {g h c d : Nat} {a b : Option Addr} {L M : List Int} {n1 n2 : Nat} (e1 : L.length = n1) (e2 : M.length = n2) (hL : Rd w g a L) (hM : Rd w h b M) :
    Calls Try.prog 31 #[.slice a n1 c, .slice b n2 d] w fun e w' => e = .returned (.bool (decide (L = M))) ∧ ∃ m, w' = w.drewN m := by
  obtain ⟨hL0, hL⟩ := hL
  obtain ⟨hM0, hM⟩ := hM
  have HL := Lib.hid hL
  have HM := Lib.hid hM
  clear hL hM
  by_cases hlen : L.length = M.length
  · obtain rfl : n2 = L.length := by omega
    subst e1
    have E2 := Lib.hid e2
    have HD := Lib.hid hlen
    clear e2 hlen hM0
    have hq : ((L.length : Int) != (L.length : Int)) = false := by simp
    go_enter Try.func31, Try.ntmps31
    go_wp2
    go_loopw [5] (fun i wr => ∃ k m : Nat, k ≤ L.length ∧ i = .int .i64 k ∧ wr = w.drewN m ∧ ∀ j, j < k → L.getD j 0 = M.getD j 0) (fun i _ => L.length - (intOf i).toNat)
    case atStart => exact ⟨0, 0, Nat.zero_le _, rfl, rfl, fun j hj => absurd hj (by omega)⟩
    case round =>
      obtain ⟨k, m, hk, rfl, rfl, hP⟩ := hrel
      have HP := Lib.hid hP
      clear hP
      by_cases hlt : k < L.length
      · obtain ⟨o1, rfl, c1⟩ := HL.out k hlt
        obtain ⟨o2, rfl, c2⟩ := HM.out k (by have := HD.out; omega)
        by_cases hx : L.getD k 0 = M.getD k 0
        · have HX := Lib.hid hx
          rw [← hx] at c2
          clear hx
          generalize L.getD k 0 = v at c1 c2
          have hI : (k : Int) < (L.length : Int) := by omega
          have hJ : (0 : Int) ≤ (k : Int) := by omega
          go_wp2
          go_quiet (fail)
          go_wp2
          go_roundw
          case rel => exact ⟨k + 1, _, by omega, by go_num, rfl, fun j hj => by
            by_cases h1 : j = k
            · subst h1; exact HX.out
            · exact HP.out j (by omega)⟩
          case measure => simp [intOf]; omega
        · have hne : (L.getD k 0 != M.getD k 0) = true := by simpa using hx
          have HX := Lib.hid (decide_eq_false (getD_ne_of hx))
          clear hx
          generalize L.getD k 0 = v at c1 hne
          generalize M.getD k 0 = u at c2 hne
          have hI : (k : Int) < (L.length : Int) := by omega
          have hJ : (0 : Int) ≤ (k : Int) := by omega
          go_wp2
          go_quiet (fail)
          go_wp2
          go_ret
          exact ⟨ret_bool HX.out.symm, _, by first | rfl | rw [World.drewN_drewN]⟩
      · have HX := Lib.hid (decide_eq_true (eq_of_take HD.out (fun i hi => HP.out i (by omega))))
        go_wp2
        go_ret
        exact ⟨ret_bool HX.out.symm, _, rfl⟩
  · have HX := Lib.hid (decide_eq_false (p := L = M) (fun e => hlen (by rw [e])))
    rw [HX.out]
    subst e1
    subst e2
    have hq : ((L.length : Int) != (M.length : Int)) = true := by rw [bne_iff_ne]; omega
    have HD := Lib.hid hlen
    clear hlen
    go_enter Try.func31, Try.ntmps31
    go_wp2
    go_ret
    exact ⟨rfl, 0, rfl⟩

end Go.Proofs.Ytgkhendbpehagaa
