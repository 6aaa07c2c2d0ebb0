/- The walk of the statement RingBothEnds: numbers are taken back from the end at which they were added. -/
import Derived.Test.YteejbfookokadaaRingQ
namespace Go.Proofs.Yteejbfookokadaa
open Go.RowKit
set_option linter.unusedVariables false
set_option linter.unusedSimpArgs false

theorem takeEnd {A : List Int} {y i : Int} (hi : i = (A.length : Int)) : takeOk (A ++ [y]) i = true ∧ takeV (A ++ [y]) i = y ∧ takeL (A ++ [y]) i = A := by
  subst hi
  have ok : takeOk (A ++ [y]) (A.length : Int) = true := by simp [takeOk]; omega
  refine ⟨ok, ?_, ?_⟩
  · rw [takeV, ok, if_pos rfl]; simp
  · rw [takeL, ok, if_pos rfl]; simp [List.eraseIdx_append]

section
variable {w : World} {B r q n : Nat} {L M : List Int}
theorem pushf_is {c : Int} (h : RingA w B r q n L) (x : Int) (hc : insE n L = c) (hM : insL n L x true = M) :
    Calls Try.prog 17 #[.pointer (some ⟨r, 0, none⟩), .int .i64 x] w fun e w' => e = .returned (.int .i64 c) ∧ RingA w' B r q n M ∧ Chg [r, q] w w' := by
  subst hc hM
  exact pushf_c h x
theorem popb_is {v c : Int} (h : RingA w B r q n L) (hv : takeV L ((L.length : Int) - 1) = v) (hc : codeE (takeOk L ((L.length : Int) - 1)) 5 = c) (hM : takeL L ((L.length : Int) - 1) = M) :
    Calls Try.prog 19 #[.pointer (some ⟨r, 0, none⟩)] w fun e w' => e = .returned (.tuple #[.int .i64 v, .int .i64 c]) ∧ RingA w' B r q n M ∧ Chg [r, q] w w' := by
  subst hv hc hM
  exact popb_c h
theorem at_is {i v : Int} {b : Bool} (h : RingA w B r q n L) (hv : takeV L i = v) (hb : takeOk L i = b) :
    Calls Try.prog 18 #[.pointer (some ⟨r, 0, none⟩), .int .i64 i] w fun e w' => e = .returned (.tuple #[.int .i64 v, .bool b]) ∧ ∃ m, w' = w.drewN m := by
  subst hv hb
  exact at_c h i
theorem len_is {c : Nat} (h : RingA w B r q n L) (hc : L.length = c) :
    Calls Try.prog 12 #[.pointer (some ⟨r, 0, none⟩)] w fun e w' => e = .returned (.int .i64 (c : Nat)) ∧ ∃ m, w' = w.drewN m := by
  subst hc
  exact len_c h
theorem items_is {c : Nat} (h : RingA w B r q n L) (hc : L.length = c) : Calls Try.prog 14 #[.pointer (some ⟨r, 0, none⟩)] w fun e w' =>
    ∃ g, e = .returned (.slice (some ⟨g, 0, none⟩) c c) ∧ w.heap.size ≤ g ∧ g < w'.heap.size ∧ Rd w' g (some ⟨g, 0, none⟩) L ∧ Chg [] w w' := by
  subst hc
  exact items_c h
theorem RingA.drewN (h : RingA w B r q n L) (m : Nat) : RingA (w.drewN m) B r q n L := h.chg ((Chg.refl [] w).drewN m) (by simp) (by simp)
end

set_option maxHeartbeats 2000000 in
theorem ringBothEnds_walk {w : World} {a : Option Addr} {len cap : Nat} {zs : List Int} {x y : Int} (hz : zs.length = len) (hl : len ≤ 9223372036854775807) (hi : Inp w w.heap.size a zs) :
    Calls Try.prog 5 #[.slice a len cap, .int .i64 x, .int .i64 y] w fun e w' => e = .returned (.bool true) ∧ Below w.heap.size w w' := by
  have hgn := gnew_c (cap := cap) hz hl hi
  clear hz hi
  go_enter Try.func5, Try.ntmps5
  go_wp2_with fail
  refine hgn.mono ?_
  rintro e w1 ⟨c, rfl, hC1, hc1⟩
  clear hgn
  have hB1 : w.heap.size ≤ c := hC1.le
  go_wp2_with fail
  refine (rnew_3 8 (by omega) (by omega) (by omega) w1 (B := w.heap.size) hc1.size).mono ?_
  rintro e w2 ⟨r, q, rfl, hR2, hr, hq, hc2⟩
  have k2 := hc1.trans hc2 (by simp)
  have hC2 := hC1.chg hc2 (by simp) (by simp)
  have hclt := hC1.lt
  have hne1 : c ≠ r := by omega
  have hne2 : c ≠ q := by omega
  have hBr := hc1.size
  clear hC1 hc1 hc2
  go_wp2_with fail
  refine (next_c hC2 (by omega) (by omega)).mono ?_
  rintro e w3 ⟨rfl, hC3, hc3⟩
  have k3 := chg_one k2 hc3 hB1
  have hR3 := hR2.chg hc3 (by simp; exact Ne.symm hne1) (by simp; exact Ne.symm hne2)
  clear hR2 hC2 hc3 k2
  obtain ⟨n, hn⟩ := Int.eq_ofNat_of_zero_le (nx_nonneg zs 0 6)
  have hn6 := nx_lt zs 0 6 (by omega)
  rw [hn] at hn6 ⊢
  clear hn
  go_wp2_with fail
  go_loopw [10] (fun vi wr => ∃ (j k : Nat) (L : List Int), k ≤ 10 - j ∧ L.length + j ≤ 5 ∧ vi = .int .i64 j ∧ Cho wr w.heap.size c zs k ∧ RingA wr w.heap.size r q 8 L ∧ Chg [] w wr) (fun vi _ => (intOf vi).toNat)
  case atStart => exact ⟨n, 1, [], by omega, by simp; omega, rfl, hC3, hR3, k3⟩
  case round =>
    obtain ⟨j, k, L, hk, hL, rfl, hC, hR, hch⟩ := hrel
    clear hC3 hR3 k3
    by_cases hj : 0 < j
    · have hj' : (0 : Int) < (j : Int) := by omega
      go_wp2_with fail
      refine (next_c hC (by omega) (by omega)).mono ?_
      rintro e wa ⟨rfl, hCa, hca⟩
      have hRa := hR.chg hca (by simp; exact Ne.symm hne1) (by simp; exact Ne.symm hne2)
      go_wp2_with fail
      refine (push_is hRa _ (c := 0) (M := L ++ [nx zs k 9]) (by rw [insE, if_pos (by omega)]) (by rw [insL, if_pos (by omega)]; rfl)).mono ?_
      rintro e wb ⟨rfl, hRb, hcb⟩
      go_wp2_with fail
      go_roundw
      case rel => exact ⟨j - 1, k + 1, _, by omega, by simp; omega, by rw [show ((j - 1 : Nat) : Int) = (j : Int) - 1 from by omega], hCa.chg hcb (by simp [hne1, hne2]) (by simp; omega), hRb, chg_pair (chg_one hch hca hB1) hcb (by omega) (by omega)⟩
      case measure => simp [intOf]; omega
    · obtain rfl : j = 0 := by omega
      have hBq := hch.size
      have hlt := hR.lt
      go_wp2_with fail
      refine (items_is hR rfl).mono ?_
      rintro e wa ⟨g, rfl, hg1, hg2, hrd, hca⟩
      have ka := hch.trans hca (by simp)
      have hRa := hR.chg hca (by simp) (by simp)
      go_wp2_with fail
      refine (pushf_is hRa x (c := 0) (M := x :: L) (by rw [insE, if_pos (by omega)]) (by rw [insL, if_pos (by omega)]; rfl)).mono ?_
      rintro e wb ⟨rfl, hRb, hcb⟩
      have kb := chg_pair ka hcb (by omega) (by omega)
      have hrdb := hrd.chg hcb (by simp; omega)
      clear hRa hrd hca hcb ka
      go_wp2_with fail
      refine (push_is hRb y (c := 0) (M := (x :: L) ++ [y]) (by rw [insE, if_pos (by simp; omega)]) (by rw [insL, if_pos (by simp; omega)]; rfl)).mono ?_
      rintro e wc ⟨rfl, hRc, hcc⟩
      have kc := chg_pair kb hcc (by omega) (by omega)
      have hrdc := hrdb.chg hcc (by simp; omega)
      clear hRb hrdb hcc kb
      obtain ⟨t1, t2, t3⟩ := takeEnd (A := x :: L) (y := y) (i := (L.length : Int) + 1) (by simp)
      have T1 := Lib.hid t1
      have T2 := Lib.hid t2
      have T3 := Lib.hid t3
      clear t1 t2 t3
      go_wp2_with fail
      refine (at_is hRc (v := x) (b := true) (takeV_cons _ _) (takeOk_cons _ _)).mono ?_
      rintro e wd ⟨rfl, m1, rfl⟩
      go_wp2_with fail
      refine (len_is (hRc.drewN m1) (c := L.length + 2) (by simp)).mono ?_
      rintro e wd ⟨rfl, m2, rfl⟩
      go_wp2_with fail
      rw [show ((L.length : Int) + 2 - 1) = (L.length : Int) + 1 from by omega]
      refine (at_is ((hRc.drewN _)) (v := y) (b := true) T2.out T1.out).mono ?_
      rintro e wd ⟨rfl, m3, rfl⟩
      go_wp2_with fail
      refine (popb_is (hRc.drewN _) (v := y) (c := 0) (M := x :: L) (by rw [show ((((x :: L) ++ [y]).length : Nat) : Int) - 1 = (L.length : Int) + 1 from by simp]; exact T2.out)
        (by rw [show ((((x :: L) ++ [y]).length : Nat) : Int) - 1 = (L.length : Int) + 1 from by simp, T1.out]; rfl)
        (by rw [show ((((x :: L) ++ [y]).length : Nat) : Int) - 1 = (L.length : Int) + 1 from by simp]; exact T3.out)).mono ?_
      rintro e wd ⟨rfl, hRd, hcd⟩
      have kd := chg_pair (kc.drewN _) hcd (by omega) (by omega)
      have hrdd := (hrdc.chg ((Chg.refl [] _).drewN _) (by simp)).chg hcd (by simp; omega)
      clear hRc hrdc hcd kc
      go_wp2_with fail
      refine (pop_is hRd (v := x) (c := 0) (M := L) (takeV_cons _ _) (by rw [takeOk_cons]; rfl) (takeL_cons _ _)).mono ?_
      rintro e we ⟨rfl, hRe, hce⟩
      have ke := chg_pair kd hce (by omega) (by omega)
      have hrde := hrdd.chg hce (by simp; omega)
      clear hRd hrdd hce kd
      go_wp2_with fail
      refine (items_is hRe rfl).mono ?_
      rintro e wf ⟨g2, rfl, hg3, hg4, hrd2, hcf⟩
      have kf := ke.trans hcf (by simp)
      have hrdf := hrde.chg hcf (by simp)
      go_wp2_with fail
      refine (equal_is rfl hrdf hrd2).mono ?_
      rintro e wh ⟨rfl, m4, rfl⟩
      go_wp2_with fail
      refine (awake_c _).mono ?_
      rintro e wi ⟨rfl, hci⟩
      go_wp2_with fail
      go_ret
      exact ⟨rfl, ((kf.drewN m4).trans hci (by simp)).below (Nat.le_refl _) (by simp)⟩

end Go.Proofs.Yteejbfookokadaa
