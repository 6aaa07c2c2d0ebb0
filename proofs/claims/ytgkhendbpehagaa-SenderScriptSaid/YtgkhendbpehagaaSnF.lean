/- The sender: find (slices.IndexFunc at its closure). -/
import Derived.Test.YtgkhendbpehagaaSnB
namespace Go.Proofs.Ytgkhendbpehagaa
open Go.RowKit
set_option linter.unusedVariables false
set_option linter.unusedSimpArgs false

theorem cell_lt {w : World} {a : Addr} {v : Value} (h : w.cell? a = some v) : a.block < w.heap.size := by
  refine Nat.lt_of_not_le fun hn => ?_
  have hnone : w.heap[a.block]? = none := Array.getElem?_eq_none hn
  simp [World.cell?, hnone] at h

set_option maxHeartbeats 400000 in
theorem findfn_c (q i t : Int) (b : Nat) (x : Int) (w : World) (h : w.cell? ⟨b, 0, none⟩ = some (.int .i64 x)) :
    Calls Try.prog 44 #[.agg #[.int .i64 q, .int .i64 i, .int .i64 t], .pointer (some ⟨b, 0, none⟩)] w fun e w' => e = .returned (.bool (q == x)) ∧ Chg [] w w' := by
  have hb : b < w.heap.size := cell_lt h
  go_enter Try.func44, Try.ntmps44
  go_wp2
  go_ret
  exact ⟨rfl, (Chg.refl _ _).alloc _⟩

theorem row_sn {w : World} {g c k : Nat} {ps : List Sn} (h : Row w g 39 3 c snC ps) (hk : k < ps.length) :
    w.cell? ⟨g, k * 3, none⟩ = some (.int .i64 ps[k].q) ∧ w.cell? ⟨g, k * 3 + 1, none⟩ = some (.int .i64 ps[k].i) ∧ w.cell? ⟨g, k * 3 + 2, none⟩ = some (.int .i64 ps[k].t) :=
  ⟨(h.cell hk (r := 0) (by omega)).trans rfl, (h.cell hk (r := 1) (by omega)).trans rfl, (h.cell hk (r := 2) (by omega)).trans rfl⟩

/-- The place of the first element whose number is x. -/
def fnd (x : Int) : List Sn → Option Nat
  | [] => none
  | p :: r => if p.q = x then some 0 else (fnd x r).map (· + 1)

theorem fnd_some {x : Int} {ps : List Sn} {k : Nat} (h : ∀ j (hj : j < ps.length), j < k → ps[j].q ≠ x) (hk : k < ps.length) (he : ps[k].q = x) : fnd x ps = some k := by
  induction ps generalizing k with
  | nil => simp at hk
  | cons p r ih =>
    cases k with
    | zero => simp at he; simp [fnd, he]
    | succ k =>
      have h0 := h 0 (by simp) (by omega)
      simp at h0
      rw [fnd, if_neg h0, ih (k := k) (fun j hj hjk => by have := h (j + 1) (by simp; omega) (by omega); simpa using this) (by simpa using hk) (by simpa using he)]
      rfl
theorem fnd_none {x : Int} {ps : List Sn} (h : ∀ j (hj : j < ps.length), ps[j].q ≠ x) : fnd x ps = none := by
  induction ps with
  | nil => rfl
  | cons p r ih =>
    have h0 := h 0 (by simp)
    simp at h0
    rw [fnd, if_neg h0, ih (fun j hj => by have := h (j + 1) (by simp; omega); simpa using this)]
    rfl
theorem fnd_spec {x : Int} {ps : List Sn} {k : Nat} (h : fnd x ps = some k) : ∃ hk : k < ps.length, ps[k].q = x := by
  induction ps generalizing k with
  | nil => cases h
  | cons p r ih =>
    rw [fnd] at h
    split at h
    · rename_i hp
      injection h with h
      subst h
      exact ⟨by simp, hp⟩
    · cases hr : fnd x r with
      | none => rw [hr] at h; cases h
      | some j =>
        rw [hr] at h
        injection h with h
        subst h
        obtain ⟨h1, h2⟩ := ih hr
        exact ⟨by simp; omega, by simpa using h2⟩

def fndI (x : Int) (ps : List Sn) : Int := match fnd x ps with
  | none => -1
  | some k => k

set_option maxHeartbeats 2000000 in
theorem idx_c {w : World} {g b n c : Nat} {x : Int} {ps : List Sn} (hn : ps.length = n) (hn6 : n ≤ 1000) (hr : Row w g 39 3 c snC ps) (hs : w.cell? ⟨b, 0, none⟩ = some (.int .i64 x)) :
    Calls Try.prog 43 #[.slice (some ⟨g, 0, none⟩) n c, .func (.func 44) #[] #[.pointer (some ⟨b, 0, none⟩)]] w fun e w' =>
      e = .returned (.int .i64 (fndI x ps)) ∧ Chg [] w w' := by
  have HN := Lib.hid hn
  clear hn
  go_enter Try.func43, Try.ntmps43
  go_wp2
  go_loopw [8] (fun i wr => ∃ k : Nat, k ≤ n ∧ i = .int .i64 k ∧ Chg [] w wr ∧ ∀ j (hj : j < ps.length), j < k → ps[j].q ≠ x) (fun i _ => n - (intOf i).toNat)
  case atStart => exact ⟨0, Nat.zero_le _, rfl, Chg.refl _ _, fun j _ hj => absurd hj (by omega)⟩
  case round =>
    obtain ⟨k, hk, rfl, hc, hP⟩ := hrel
    have HP := Lib.hid hP
    clear hP
    by_cases hlt : k < n
    · have hkl : k < ps.length := by have := HN.out; omega
      have hr' := hr.chg hc (by simp)
      obtain ⟨c0, c1, c2⟩ := row_sn hr' hkl
      have hs' : wr.cell? ⟨b, 0, none⟩ = some (.int .i64 x) := (hc.cell (p := ⟨b, 0, none⟩) (block_lt_of_cell hs) (by simp)).trans hs
      have HH := Lib.hid (fun W : World => findfn_c ps[k].q ps[k].i ps[k].t b x W)
      have HE := Lib.hid (fun hq : ps[k].q = x => fnd_some HP.out hkl hq)
      have HX := Lib.hid (fun (hq : ps[k].q ≠ x) j (hj : j < ps.length) (h1 : j < k + 1) => show ps[j].q ≠ x from by
        by_cases h2 : j = k
        · subst h2; exact hq
        · exact HP.out j hj (by omega))
      generalize ps[k] = p at c0 c1 c2 HH HE HX
      have hI : (k : Int) < (n : Int) := by omega
      have hJ : (0 : Int) ≤ (k : Int) := by omega
      have hgl := hr'.lt
      go_wp2_with fail
      refine (HH.out _ hs').mono ?_
      rintro e w2 ⟨rfl, hc2⟩
      have k2 : Chg [] w w2 := hc.trans hc2 (by simp)
      by_cases hq : p.q = x
      · have hq' : (p.q == x) = true := by simpa using hq
        have HF := Lib.hid (HE.out hq)
        clear hq
        rw [hq']
        go_wp2_with fail
        go_ret
        exact ⟨ret_int (by rw [fndI, HF.out]), k2⟩
      · have hq' : (p.q == x) = false := by simpa using hq
        have HF := Lib.hid (HX.out hq)
        clear hq
        rw [hq']
        go_wp2_with fail
        go_roundw
        case rel => exact ⟨k + 1, by omega, by go_num, k2, HF.out⟩
        case measure => simp [intOf]; omega
    · have HF := Lib.hid (fnd_none (x := x) (ps := ps) (fun j hj => HP.out j hj (by have := HN.out; omega)))
      go_wp2_with fail
      go_ret
      exact ⟨ret_int (by rw [fndI, HF.out]), hc⟩

set_option maxHeartbeats 1000000 in
theorem idx_nil (w : World) (A : Option Addr) (c : Nat) (f : Value) :
    Calls Try.prog 43 #[.slice A 0 c, f] w fun e w' => e = .returned (.int .i64 (-1)) ∧ Chg [] w w' := by
  go_enter Try.func43, Try.ntmps43
  go_wp2
  refine wp_loop_rounds 1 ?_
  rw [rounds_succ]
  go_wp2
  go_ret
  exact ⟨rfl, Chg.refl _ _⟩

set_option maxHeartbeats 1000000 in
theorem sfind_c {w : World} {B s : Nat} {O : List Nat} {wd tr nx : Int} {ps : List Sn} (h : SA w B s O wd tr nx ps) (x : Int) :
    Calls Try.prog 32 #[.pointer (some ⟨s, 0, none⟩), .int .i64 x] w fun e w' => e = .returned (.int .i64 (fndI x ps)) ∧ Chg [] w w' := by
  have hmf : ∀ (fn : Fn) (first cap : Array Value) (w : World), (Instr.makeFunc fn first cap).run Try.prog w = .ok (.func fn first cap) w := fun _ _ _ _ => rfl
  obtain ⟨A, c, h9, h10⟩ := h.split
  have hl := h.hl
  have hsl := h.lt
  have e3 := (h9.cell 3).trans rfl
  have f := (Blk.new w 3 #[.int .i64 x]).cell 0
  rcases h10 with ⟨rfl, rfl, rfl⟩ | ⟨g, rfl, hg, hgO, hgs, hr⟩
  · go_enter Try.func32, Try.ntmps32
    go_wp2_with fail
    refine (idx_nil _ none 0 _).mono ?_
    rintro e w' ⟨rfl, hc⟩
    go_wp2_with fail
    go_ret
    exact ⟨rfl, ((Chg.refl [] w).alloc _).trans hc (by simp)⟩
  · have hr2 := hr.chg ((Chg.refl [] w).alloc (.cells #[.int .i64 x] 3)) (by simp)
    have hgl := hr.lt
    have HR := Lib.hid hr2
    have HF := Lib.hid (f.trans rfl)
    clear hr hr2 f
    go_enter Try.func32, Try.ntmps32
    go_wp2_with fail
    refine (idx_c rfl hl HR.out HF.out).mono ?_
    rintro e w' ⟨rfl, hc⟩
    go_wp2_with fail
    go_ret
    exact ⟨rfl, ((Chg.refl [] w).alloc _).trans hc (by simp)⟩

end Go.Proofs.Ytgkhendbpehagaa
