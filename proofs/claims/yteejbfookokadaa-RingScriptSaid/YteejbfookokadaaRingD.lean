/- The contract of (*Ring).Remove: the later numbers move up. -/
import Derived.Test.YteejbfookokadaaRingC
namespace Go.Proofs.Yteejbfookokadaa
open Go.RowKit
set_option linter.unusedVariables false
set_option linter.unusedSimpArgs false

/-- The j-th number while the numbers from a on are moved up, those below k being done. -/
def shAt (L : List Int) (a k j : Nat) : Int := if a ≤ j ∧ j < k then L.getD (j + 1) 0 else L.getD j 0

set_option maxHeartbeats 800000 in
theorem remove_yes {w : World} {B r q n : Nat} {L : List Int} (h : RingA w B r q n L) (a : Nat) (ha : a < L.length) :
    Calls Try.prog 15 #[.pointer (some ⟨r, 0, none⟩), .int .i64 (a : Nat)] w fun e w' =>
    e = .returned (.tuple #[.int .i64 (L.getD a 0), .int .i64 0]) ∧ RingA w' B r q n (L.eraseIdx a) ∧ Chg [r, q] w w' := by
  have hat := at_c h (a : Int)
  have hok : takeOk L (a : Int) = true := by simp [takeOk]; omega
  rw [takeV, hok, if_pos rfl, Int.toNat_natCast] at hat
  obtain ⟨h1, h2, h3, h4, h5, h6, f, cs, h7, h8, h9, h10, h11⟩ := h
  have H11 := Lib.hid h11
  have HAT := Lib.hid hat
  have H10 := Lib.hid h10
  obtain ⟨v, hv⟩ : ∃ v, v = L.getD a 0 := ⟨_, rfl⟩
  rw [← hv] at HAT ⊢
  have HV := Lib.hid hv
  clear h11 hat hok hv h10
  go_enter Try.func15, Try.ntmps15
  go_wp2_with (go_at_call 18; refine (HAT.out).mono ?_; rintro e w' ⟨rfl, m0, rfl⟩)
  go_loopw [1] (fun i wr => ∃ k : Nat, a ≤ k ∧ k < L.length ∧ i = .int .i64 k ∧ Blk wr r 51 #[.slice (some ⟨q, 0, none⟩) n n, .int .i64 (f : Nat), .int .i64 (L.length : Nat)] ∧ Chg [r, q] w wr ∧
      ∃ cs', Blk wr q 3 cs' ∧ cs'.size = n ∧ ∀ j, j < L.length → cs'[(f + j) % n]? = some (.int .i64 (shAt L a k j))) (fun i _ => L.length - (intOf i).toNat)
  case atStart =>
    refine ⟨a, Nat.le_refl _, ha, rfl, h8.drewN m0, (Chg.refl _ _).drewN m0, cs, h9.drewN m0, H10.out, fun j hj => ?_⟩
    rw [shAt, if_neg (by omega)]
    exact H11.out j hj
  case round =>
    obtain ⟨k, hak, hk, rfl, hb, hch, cs', hq, hsz, hcs⟩ := hrel
    have c0 : wr.cell? ⟨r, 0, none⟩ = some (.slice (some ⟨q, 0, none⟩) n n) := (hb.cell 0).trans rfl
    have c1 : wr.cell? ⟨r, 1, none⟩ = some (.int .i64 (f : Nat)) := (hb.cell 1).trans rfl
    have c2 : wr.cell? ⟨r, 2, none⟩ = some (.int .i64 (L.length : Nat)) := (hb.cell 2).trans rfl
    have f2 := hb.frozen 2
    have HS := Lib.hid hsz
    have HC := Lib.hid hcs
    clear hsz hcs
    by_cases hlt : k + 1 < L.length
    · have hlt' : (k : Int) + 1 < (L.length : Int) := by omega
      have d1 := (hq.cell ((f + k) % n)).trans (HC.out k hk)
      have d2 := (hq.cell ((f + (k + 1)) % n)).trans (HC.out (k + 1) hlt)
      have d3 := hq.frozen ((f + k) % n)
      generalize hg1 : shAt L a k k = u1 at d1
      generalize hg2 : shAt L a k (k + 1) = u2 at d2
      have HG := Lib.hid hg2
      clear hg1 hg2
      go_wp2_with fail
      refine (cell_raw r q n f k _ c0 c1 h4 h5 h7 (by omega)).mono ?_
      rintro e w' ⟨rfl, m1, rfl⟩
      go_wp2_with fail
      refine (cell_raw r q n f (k + 1) _ (by simp [go_sem, c0]) (by simp [go_sem, c1]) h4 h5 h7 (by omega)).mono ?_
      rintro e w' ⟨rfl, m2, rfl⟩
      go_wp2_with fail
      go_roundw
      case rel =>
        refine ⟨k + 1, by omega, by omega, by go_num, ((hb.far (p := ⟨q, (f + k) % n, none⟩) h3 _).drewN _), ((hch.setCell (by simp) _).drewN _), cs'.setIfInBounds ((f + k) % n) (.int .i64 u2), (hq.set_ _ _).drewN _, by simpa using HS.out, fun j hj => ?_⟩
        have hixk : (f + k) % n < n := Nat.mod_lt _ (by omega)
        by_cases hjk : j = k
        · subst hjk
          have : shAt L a (j + 1) j = u2 := by rw [← HG.out, shAt, if_pos (by omega), shAt, if_neg (by omega)]
          rw [this]
          simp [HS.out, hixk]
        · have hne : (f + k) % n ≠ (f + j) % n := fun e => hjk (wrapIx_inj h7 (by omega) (by omega) e.symm)
          have : shAt L a (k + 1) j = shAt L a k j := by
            unfold shAt
            by_cases h : a ≤ j ∧ j < k
            · rw [if_pos h, if_pos (by omega)]
            · rw [if_neg h, if_neg (by omega)]
          rw [this, ← HC.out j hj]
          simp [hne]
      case measure => simp [intOf]; omega
    · have hge : (L.length : Int) ≤ (k : Int) + 1 := by omega
      go_wp2_with fail
      go_ret2
      refine ⟨rfl, ?_, ((hch.setCell (by simp) _))⟩
      have hle : (L.eraseIdx a).length = L.length - 1 := by rw [List.length_eraseIdx, if_pos ha]
      refine ⟨h1, h2, h3, h4, h5, by omega, f, cs', h7, ?_, (hq.far (p := ⟨r, 2, none⟩) (Ne.symm h3) _), HS.out, fun j hj => ?_⟩
      · have := (hb.set_ 2 (.int .i64 ((L.length : Int) - 1)))
        rw [show (((L.eraseIdx a).length : Nat) : Int) = (L.length : Int) - 1 from by omega]
        simpa using this
      · rw [hle] at hj
        rw [HC.out j (by omega)]
        have : shAt L a k j = (L.eraseIdx a).getD j 0 := by
          unfold shAt
          rw [List.getD_eq_getElem?_getD (l := L.eraseIdx a), List.getElem?_eraseIdx]
          by_cases h : j < a
          · rw [if_neg (by omega), if_pos h, List.getD_eq_getElem?_getD]
          · rw [if_pos (by omega), if_neg h, List.getD_eq_getElem?_getD]
        rw [this]

set_option maxHeartbeats 400000 in
theorem remove_no {w : World} {B r q n : Nat} {L : List Int} (h : RingA w B r q n L) (i : Int) (ok : takeOk L i = false) :
    Calls Try.prog 15 #[.pointer (some ⟨r, 0, none⟩), .int .i64 i] w fun e w' =>
    e = .returned (.tuple #[.int .i64 0, .int .i64 6]) ∧ ∃ m, w' = w.drewN m := by
  have hat := at_c h i
  rw [takeV, ok] at hat
  have HAT := Lib.hid hat
  clear hat ok
  go_enter Try.func15, Try.ntmps15
  go_wp2_with (go_at_call 18; refine (HAT.out).mono ?_; rintro e w' ⟨rfl, m0, rfl⟩)
  go_ret2
  exact ⟨rfl, _, rfl⟩

theorem remove_c {w : World} {B r q n : Nat} {L : List Int} (h : RingA w B r q n L) (i : Int) :
    Calls Try.prog 15 #[.pointer (some ⟨r, 0, none⟩), .int .i64 i] w fun e w' =>
    e = .returned (.tuple #[.int .i64 (takeV L i), .int .i64 (codeE (takeOk L i) 6)]) ∧ RingA w' B r q n (takeL L i) ∧ Chg [r, q] w w' := by
  rw [takeV, takeL]
  by_cases ok : takeOk L i = true
  · have hi : 0 ≤ i ∧ i < L.length := by simpa [takeOk] using ok
    obtain ⟨a, rfl⟩ := Int.eq_ofNat_of_zero_le hi.1
    rw [ok]
    exact remove_yes h a (by omega)
  · have ok' : takeOk L i = false := by simpa using ok
    refine (remove_no h i ok').mono ?_
    rintro e w' ⟨rfl, m, rfl⟩
    rw [ok']
    exact ⟨rfl, h.chg ((Chg.refl [] w).drewN m) (by simp) (by simp), (Chg.refl _ _).drewN m⟩

end Go.Proofs.Yteejbfookokadaa
