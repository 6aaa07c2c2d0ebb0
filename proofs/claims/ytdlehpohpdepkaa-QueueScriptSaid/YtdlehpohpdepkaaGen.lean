/- The contracts of airsharegen.New and (*Choices).Next: the numbers that a statement draws from the list that came in. -/
import Derived.Test.YtdlehpohpdepkaaProg
import Derived.Test.YtdlehpohpdepkaaBase
import Derived.OpenShut
namespace Go.Proofs.Ytdlehpohpdepkaa
open Go.RowKit
set_option linter.unusedVariables false
set_option linter.unusedSimpArgs false

/-- The number at a place of the list, or 7 * place + 3 behind its end. -/
def nxRaw (zs : List Int) (k : Nat) : Int := if k < zs.length then zs.getD k 0 else 7 * k + 3
/-- What the k-th draw gives at n. -/
def nx (zs : List Int) (k : Nat) (n : Int) : Int := if n < 1 then 0 else nxRaw zs k % n

theorem nx_nonneg (zs : List Int) (k : Nat) (n : Int) : 0 ≤ nx zs k n := by
  unfold nx
  split
  · omega
  · exact Int.emod_nonneg _ (by omega)
theorem nx_lt (zs : List Int) (k : Nat) (n : Int) (h : 1 ≤ n) : nx zs k n < n := by
  unfold nx
  split
  · omega
  · exact Int.emod_lt_of_pos _ (by omega)

theorem tmod_emod {v n : Int} (hn : 1 ≤ n) : v % n = if v.tmod n < 0 then v.tmod n + n else v.tmod n := by
  have h1 := Int.emod_nonneg v (show n ≠ 0 by omega)
  have h2 := Int.emod_lt_of_pos v (show 0 < n by omega)
  have := Int.tmod_eq_emod (a := v) (b := n)
  split <;> split at this <;> omega
theorem tmod_lo {v n : Int} (hn : 1 ≤ n) : -n < v.tmod n ∧ v.tmod n < n := by
  have h1 := Int.emod_nonneg v (show n ≠ 0 by omega)
  have h2 := Int.emod_lt_of_pos v (show 0 < n by omega)
  have := Int.tmod_eq_emod (a := v) (b := n)
  split at this <;> omega

/-- What a statement's frame tells of a row of int64 that came in, in the walk's words. -/
theorem inp_of_row {w : World} {a : Option Addr} {len cap : Nat} {zs : List Int}
    (h : (a = none ∧ len = 0 ∧ cap = 0 ∧ zs = []) ∨ ∃ x, a = some x ∧ len ≤ cap ∧ cap ≤ maxLen ∧ zs.length = cap ∧ (∀ i, i < zs.length → w.cell? (x.add i) = some (.int .i64 (zs.getD i 0))) ∧ ∀ n ∈ zs, (Lit.int .i64 n).wf = true) :
    (zs.take len).length = len ∧ len ≤ 9223372036854775807 ∧ Inp w w.heap.size a (zs.take len) := by
  rcases h with ⟨rfl, rfl, rfl, rfl⟩ | ⟨x, rfl, h1, h2, h3, h4, h5⟩
  · exact ⟨rfl, by omega, fun i hi => absurd hi (by simp)⟩
  · have hl : (zs.take len).length = len := by simp; omega
    unfold maxLen at h2
    refine ⟨hl, by omega, fun i hi => ?_⟩
    have hiz : i < zs.length := by omega
    have e : (zs.take len).getD i 0 = zs.getD i 0 := by
      simp [List.getElem?_take, show i < len from by omega]
    obtain ⟨b, off, spot⟩ := x
    have hs : spot = none := by
      have := h4 0 (by omega)
      cases spot with
      | none => rfl
      | some s =>
        simp [Addr.add, World.cell?] at this
        split at this <;> simp at this
    subst hs
    have hc := h4 i hiz
    have hadd : (⟨b, off, none⟩ : Addr).add i = ⟨b, off + i, none⟩ := by
      unfold Addr.add
      split
      · subst_vars; rfl
      · rfl
    rw [hadd] at hc
    have hw := h5 (zs.getD i 0) (by rw [List.getD_eq_getElem?_getD, List.getElem?_eq_getElem hiz]; simp)
    have hb := bounds_i64 hw
    exact ⟨b, off, rfl, block_lt_of_cell hc, by rw [e]; exact hc, by rw [e]; omega, by rw [e]; omega⟩

/-- Block c holds the choices: the list zs, k of them drawn. -/
def Cho (w : World) (B c : Nat) (zs : List Int) (k : Nat) : Prop :=
  B ≤ c ∧ zs.length ≤ 9223372036854775807 ∧ ∃ a cap, Blk w c 54 #[.slice a zs.length cap, .int .i64 k] ∧ Inp w B a zs

theorem Cho.lt {w : World} {B c : Nat} {zs : List Int} {k : Nat} (h : Cho w B c zs k) : c < w.heap.size := by
  obtain ⟨_, _, a, cap, hb, _⟩ := h
  exact hb.lt
theorem Cho.le {w : World} {B c : Nat} {zs : List Int} {k : Nat} (h : Cho w B c zs k) : B ≤ c := h.1

theorem Cho.chg {S : List Nat} {w w' : World} {B c : Nat} {zs : List Int} {k : Nat} (h : Cho w B c zs k) (hc : Chg S w w') (hn : c ∉ S) (hs : ∀ x ∈ S, B ≤ x) : Cho w' B c zs k := by
  have hlt := h.lt
  obtain ⟨h1, h2, a, cap, hb, hi⟩ := h
  exact ⟨h1, h2, a, cap, hb.chg hc hn, hi.chg hc (by omega) hs⟩

set_option maxHeartbeats 400000 in
theorem gnew_raw (a : Option Addr) (len cap : Nat) (w : World) :
    Calls Try.prog 7 #[.slice a len cap] w fun e w' => e = .returned (.pointer (some ⟨w.heap.size, 0, none⟩)) ∧ w' = w.alloc (.cells #[.slice a len cap, .int .i64 0] 54) := by
  go_enter Try.func7, Try.ntmps7
  go_wp2
  go_ret
  exact ⟨rfl, rfl⟩

theorem gnew_c {w : World} {a : Option Addr} {len cap : Nat} {zs : List Int} (hz : zs.length = len) (hl : len ≤ 9223372036854775807) (hi : Inp w w.heap.size a zs) :
    Calls Try.prog 7 #[.slice a len cap] w fun e w' => ∃ c, e = .returned (.pointer (some ⟨c, 0, none⟩)) ∧ Cho w' w.heap.size c zs 0 ∧ Chg [] w w' := by
  subst hz
  refine (gnew_raw a zs.length cap w).mono ?_
  rintro e w' ⟨rfl, rfl⟩
  have hc : Chg [] w (w.alloc (.cells #[.slice a zs.length cap, .int .i64 0] 54)) := (Chg.refl _ _).alloc _
  exact ⟨_, rfl, ⟨Nat.le_refl _, hl, a, cap, Blk.new _ _ _, hi.chg hc (Nat.le_refl _) (by simp)⟩, hc⟩

set_option maxHeartbeats 400000 in
theorem next_out (b : Nat) (a : Option Addr) (len cap : Nat) (k : Nat) (n : Int) (w : World)
    (hc0 : w.cell? ⟨b, 0, none⟩ = some (.slice a len cap)) (hc1 : w.cell? ⟨b, 1, none⟩ = some (.int .i64 k)) (hf1 : w.frozen? ⟨b, 1, none⟩ = false)
    (hk : k ≤ 1000000) (hge : ¬ (k : Int) < len) (hn2 : n ≤ 9223372036854775807) :
    Calls Try.prog 13 #[.pointer (some ⟨b, 0, none⟩), .int .i64 n] w fun e w' =>
      e = .returned (.int .i64 (if n < 1 then 0 else (7 * (k : Int) + 3) % n)) ∧ ∃ m, w' = (w.setCell ⟨b, 1, none⟩ (.int .i64 (k + 1))).drewN m := by
  by_cases hn : n < 1
  · rw [if_pos hn]
    go_enter Try.func13, Try.ntmps13
    go_wp2
    go_quiet (fail)
    go_wp2
    go_ret
    exact ⟨rfl, _, rfl⟩
  · rw [if_neg hn]
    go_enter Try.func13, Try.ntmps13
    go_wp2
    go_quiet (fail)
    go_wp2
    go_ret
    exact ⟨rfl, _, rfl⟩

set_option maxHeartbeats 400000 in
theorem next_in (b : Nat) (ab ao : Nat) (len cap : Nat) (k : Nat) (n v : Int) (w : World)
    (hc0 : w.cell? ⟨b, 0, none⟩ = some (.slice (some ⟨ab, ao, none⟩) len cap)) (hc1 : w.cell? ⟨b, 1, none⟩ = some (.int .i64 k)) (hf1 : w.frozen? ⟨b, 1, none⟩ = false)
    (hv : w.cell? ⟨ab, ao + k, none⟩ = some (.int .i64 v)) (hv1 : -9223372036854775808 ≤ v) (hv2 : v ≤ 9223372036854775807)
    (hk : k ≤ 1000000) (hge : (k : Int) < len) (hn2 : n ≤ 9223372036854775807) :
    Calls Try.prog 13 #[.pointer (some ⟨b, 0, none⟩), .int .i64 n] w fun e w' =>
      e = .returned (.int .i64 (if n < 1 then 0 else v % n)) ∧ ∃ m, w' = (w.setCell ⟨b, 1, none⟩ (.int .i64 (k + 1))).drewN m := by
  by_cases hn : n < 1
  · rw [if_pos hn]
    go_enter Try.func13, Try.ntmps13
    go_wp2
    go_quiet (fail)
    go_wp2
    go_quiet (fail)
    go_wp2
    go_ret
    exact ⟨rfl, _, rfl⟩
  · rw [if_neg hn]
    have hb := tmod_lo (v := v) (n := n) (by omega)
    have HE := Lib.hid (tmod_emod (v := v) (n := n) (by omega))
    obtain ⟨hb1, hb2⟩ := hb
    by_cases hs : v.tmod n < 0
    all_goals
      go_enter Try.func13, Try.ntmps13
      go_wp2
      go_quiet (fail)
      go_wp2
      go_quiet (fail)
      go_wp2
      go_ret
      refine ⟨ret_int ?_, _, rfl⟩
      rw [HE.out]
      split <;> first | rfl | omega

theorem next_c {w : World} {B c : Nat} {zs : List Int} {k : Nat} {n : Int} (h : Cho w B c zs k) (hk : k ≤ 1000000) (hn : n ≤ 9223372036854775807) :
    Calls Try.prog 13 #[.pointer (some ⟨c, 0, none⟩), .int .i64 n] w fun e w' =>
      e = .returned (.int .i64 (nx zs k n)) ∧ Cho w' B c zs (k + 1) ∧ Chg [c] w w' := by
  have hlt := h.lt
  obtain ⟨h1, h2, a, cap, hb, hi⟩ := h
  have post : ∀ m, Cho ((w.setCell ⟨c, 1, none⟩ (.int .i64 (k + 1))).drewN m) B c zs (k + 1) ∧ Chg [c] w ((w.setCell ⟨c, 1, none⟩ (.int .i64 (k + 1))).drewN m) := fun m => by
    have hc : Chg [c] w ((w.setCell ⟨c, 1, none⟩ (.int .i64 (k + 1))).drewN m) := ((Chg.refl _ _).setCell (by simp) _).drewN m
    refine ⟨⟨h1, h2, a, cap, ?_, hi.chg hc (by omega) (by simp; omega)⟩, hc⟩
    have := (hb.set_ 1 (.int .i64 (k + 1))).drewN m
    simpa using this
  by_cases hlen : k < zs.length
  · obtain ⟨ab, ao, rfl, h3, h4, h5, h6⟩ := hi k hlen
    refine (next_in c ab ao zs.length cap k n (zs.getD k 0) w ((hb.cell 0).trans rfl) ((hb.cell 1).trans rfl) (hb.frozen 1) h4 h5 h6 hk (by omega) hn).mono ?_
    rintro e w' ⟨rfl, m, rfl⟩
    exact ⟨by rw [nx, nxRaw, if_pos hlen], post m⟩
  · refine (next_out c a zs.length cap k n w ((hb.cell 0).trans rfl) ((hb.cell 1).trans rfl) (hb.frozen 1) hk (by omega) hn).mono ?_
    rintro e w' ⟨rfl, m, rfl⟩
    exact ⟨by rw [nx, nxRaw, if_neg hlen], post m⟩

end Go.Proofs.Ytdlehpohpdepkaa
