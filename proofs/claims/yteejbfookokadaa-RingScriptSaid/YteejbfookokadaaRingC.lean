/- The contracts of package ring's functions, said of 'RingA': New, Push, PushFront, Pop, PopBack, At, Len, Cap, Items, Remove. -/
import Derived.Test.YteejbfookokadaaRing
import Derived.Test.YteejbfookokadaaEq
import Derived.Deep.OwnRows
namespace Go.Proofs.Yteejbfookokadaa
open Go.RowKit
set_option linter.unusedVariables false
set_option linter.unusedSimpArgs false


theorem rnew_ok (n : Nat) (hn : 1 ≤ n) (hn2 : n ≤ 4096) (w : World) :
    Calls Try.prog 8 #[.int .i64 (n : Nat)] w fun e w' => e = .returned (.tuple #[.pointer (some ⟨w.heap.size + 1, 0, none⟩), .int .i64 0]) ∧
      ∃ m, w' = ((w.alloc (.cells (madeCells #[.int .i64 0] n) 3)).alloc (.cells #[.slice (some ⟨w.heap.size, 0, none⟩) n n, .int .i64 0, .int .i64 0] 51)).drewN m := by
  have hmk := fun W => run_make_row' (P := Try.prog) 22 3 (.int .i64 0) 8 Try.underlying22 (by kernel_rfl) rfl .i64 .i64 n (by omega) (by omega) W
  go_enter Try.func8, Try.ntmps8
  go_wp2
  go_ret2
  exact ⟨rfl, 0, rfl⟩
theorem rnew_bad (n : Int) (hn : n < 1 ∨ 4096 < n) (w : World) :
    Calls Try.prog 8 #[.int .i64 n] w fun e w' => e = .returned (.tuple #[.pointer none, .int .i64 1]) ∧ ∃ m, w' = w.drewN m := by
  by_cases hn0 : n < 1
  all_goals
    have hn1 : 1 ≤ n → 4096 < n := by omega
    go_enter Try.func8, Try.ntmps8
    go_wp2
    go_ret2
    exact ⟨rfl, 0, rfl⟩


def itemsArr (L : List Int) (k : Nat) : Array Value := ((L.take k).map (Value.int .i64) ++ List.replicate (L.length - k) (Value.int .i64 0)).toArray
theorem itemsArr_size (L : List Int) (k : Nat) (h : k ≤ L.length) : (itemsArr L k).size = L.length := by simp [itemsArr]; omega
theorem itemsArr_zero (L : List Int) : madeCells #[.int .i64 0] L.length = itemsArr L 0 := by
  apply Array.ext'
  simp [itemsArr, toList_madeCells_one]
theorem itemsArr_set (L : List Int) (k : Nat) (h : k < L.length) : (itemsArr L k).setIfInBounds k (.int .i64 (L.getD k 0)) = itemsArr L (k + 1) := by
  apply Array.ext'
  apply List.ext_getElem?
  intro i
  simp only [itemsArr, Array.toList_setIfInBounds, List.getElem?_set, List.getElem?_append, List.length_map, List.length_take, List.getElem?_map, List.getElem?_take, List.getElem?_replicate, List.length_append, List.length_replicate]
  have hk : min k L.length = k := by omega
  have hk1 : min (k+1) L.length = k + 1 := by omega
  simp only [hk, hk1]
  by_cases h1 : k = i
  · subst h1
    simp [h]
    omega
  · by_cases h2 : i < k
    · have h3 : i < k + 1 := by omega
      simp [h1, h2, h3]
    · have h3 : ¬ i < k + 1 := by omega
      simp [h1, h2, h3]
      by_cases h4 : i < L.length <;> simp [show (i - k < L.length - k) = (i - (k+1) < L.length - (k+1)) from by simp; omega]
theorem itemsArr_next (L : List Int) (k : Nat) (h : k < L.length) : (itemsArr L k)[k]? = some (.int .i64 0) := by
  have h1 : min k L.length = k := by omega
  simp [itemsArr, List.getElem?_append, List.getElem?_replicate, h1]
  omega
theorem itemsArr_all (L : List Int) : itemsArr L L.length = (L.map (Value.int .i64)).toArray := by simp [itemsArr]

set_option maxHeartbeats 400000 in
theorem items_raw (r q n f : Nat) (L : List Int) (w : World) (h0 : w.cell? ⟨r, 0, none⟩ = some (.slice (some ⟨q, 0, none⟩) n n)) (h1 : w.cell? ⟨r, 1, none⟩ = some (.int .i64 (f : Nat))) (h2 : w.cell? ⟨r, 2, none⟩ = some (.int .i64 (L.length : Nat)))
    (hrl : r < w.heap.size) (hql : q < w.heap.size) (hn : 1 ≤ n) (hn2 : n ≤ 4096) (hf : f < n) (hc : L.length ≤ n) (hu : ∀ i, i < L.length → w.cell? ⟨q, (f + i) % n, none⟩ = some (.int .i64 (L.getD i 0))) :
    Calls Try.prog 14 #[.pointer (some ⟨r, 0, none⟩)] w fun e w' => e = .returned (.slice (some ⟨w.heap.size, 0, none⟩) L.length L.length) ∧
      ∃ m, w' = (w.alloc (.cells (L.map (Value.int .i64)).toArray 3)).drewN m := by
  have hmk := fun W => run_make_row' (P := Try.prog) 22 3 (.int .i64 0) 8 Try.underlying22 (by kernel_rfl) rfl .i64 .i64 L.length (by omega) (by omega) W
  rw [itemsArr_zero] at hmk
  have hS := Lib.hid (itemsArr_set L)
  have hA := Lib.hid (itemsArr_all L)
  have hX := fun k h => Lib.hid (itemsArr_next L k h)
  have HU := Lib.hid hu
  clear hu
  go_enter Try.func14, Try.ntmps14
  go_wp2
  go_loopw [4, 12] (fun _ i wr => ∃ k m : Nat, k ≤ L.length ∧ i = .int .i64 k ∧ wr = (w.alloc (.cells (itemsArr L k) 3)).drewN m) (fun _ i _ => L.length - (intOf i).toNat)
  case atStart => exact ⟨0, 0, Nat.zero_le _, rfl, rfl⟩
  case round =>
    obtain ⟨k, m, hk, rfl, rfl⟩ := hrel
    by_cases hlt : k < L.length
    · have hx := (hX k hlt).out
      have hv := HU.out k hlt
      have hs := hS.out k hlt
      generalize L.getD k 0 = v at hv hs
      have HS := Lib.hid hs
      clear hs
      have hlm : (f + k) % n < n := Nat.mod_lt _ (by omega)
      go_wp2_with (go_at_call 23; refine (cell_raw r q n f k _ (by simp [go_sem, h0, hrl]) (by simp [go_sem, h1, hrl]) hn hn2 hf (by omega)).mono ?_; rintro e w' ⟨rfl, m1, rfl⟩)
      go_roundw
      case rel => exact ⟨k + 1, _, by omega, by go_num, by rw [← HS.out]⟩
      case measure => simp [intOf]; omega
    · obtain rfl : k = L.length := by omega
      rw [hA.out]
      go_wp2
      go_ret
      exact ⟨rfl, _, rfl⟩

/-! ### What the calls do to the list -/
def takeOk (L : List Int) (i : Int) : Bool := decide (0 ≤ i ∧ i < L.length)
def takeV (L : List Int) (i : Int) : Int := if takeOk L i then L.getD i.toNat 0 else 0
def takeL (L : List Int) (i : Int) : List Int := if takeOk L i then L.eraseIdx i.toNat else L
def insE (n : Nat) (L : List Int) : Int := if L.length < n then 0 else 4
def insL (n : Nat) (L : List Int) (x : Int) (front : Bool) : List Int := if L.length < n then (if front then x :: L else L ++ [x]) else L
/-- The result code where there is a number, and where there is none: ErrEmpty (5), ErrNotFound (6). -/
def codeE (ok : Bool) (no : Int) : Int := if ok then 0 else no

theorem takeOk_cons (x : Int) (L : List Int) : takeOk (x :: L) 0 = true := by simp [takeOk]
theorem takeV_cons (x : Int) (L : List Int) : takeV (x :: L) 0 = x := by rw [takeV, takeOk_cons]; rfl
theorem takeL_cons (x : Int) (L : List Int) : takeL (x :: L) 0 = L := by rw [takeL, takeOk_cons]; rfl

theorem wrapIx {n f i : Nat} (hf : f < n) (hi : i ≤ n) : (f + i) % n = if f + i < n then f + i else f + i - n := by
  split
  · exact Nat.mod_eq_of_lt (by omega)
  · rw [Nat.mod_eq_sub_mod (by omega)]; exact Nat.mod_eq_of_lt (by omega)
theorem wrapIx_inj {n f i j : Nat} (hf : f < n) (hi : i < n) (hj : j < n) (h : (f + i) % n = (f + j) % n) : i = j := by
  rw [wrapIx hf (by omega), wrapIx hf (by omega)] at h
  split at h <;> split at h <;> omega

section
variable {w : World} {B r q n : Nat} {L : List Int}
theorem push_c (h : RingA w B r q n L) (x : Int) : Calls Try.prog 10 #[.pointer (some ⟨r, 0, none⟩), .int .i64 x] w fun e w' =>
    e = .returned (.int .i64 (insE n L)) ∧ RingA w' B r q n (insL n L x false) ∧ Chg [r, q] w w' := by
  obtain ⟨h1, h2, h3, h4, h5, h6, f, cs, h7, h8, h9, h10, h11⟩ := h
  have c0 : w.cell? ⟨r, 0, none⟩ = some (.slice (some ⟨q, 0, none⟩) n n) := (h8.cell 0).trans rfl
  have c1 : w.cell? ⟨r, 1, none⟩ = some (.int .i64 (f : Nat)) := (h8.cell 1).trans rfl
  have c2 : w.cell? ⟨r, 2, none⟩ = some (.int .i64 (L.length : Nat)) := (h8.cell 2).trans rfl
  by_cases hl : L.length < n
  · have hix : (f + L.length) % n < n := Nat.mod_lt _ (by omega)
    obtain ⟨u, hu⟩ : ∃ u, cs[(f + L.length) % n]? = some u := ⟨_, Array.getElem?_eq_getElem (by omega)⟩
    refine (push_room r q n f L.length x w u c0 c1 c2 h3 (h8.frozen 2) ((h9.cell _).trans hu) (h9.frozen _) h4 h5 h7 hl).mono ?_
    rintro e w' ⟨rfl, m, rfl⟩
    refine ⟨by rw [insE, if_pos hl], ?_, ((((Chg.refl _ _).setCell (by simp) _).setCell (by simp) _).drewN m)⟩
    rw [insL, if_pos hl]
    refine ⟨h1, h2, h3, h4, h5, by simp; omega, f, cs.setIfInBounds ((f + L.length) % n) (.int .i64 x), h7, ?_, ?_, by simpa using h10, ?_⟩
    · have := (((h8.far (p := ⟨q, (f + L.length) % n, none⟩) h3 (.int .i64 x)).set_ 2 (.int .i64 ((L.length : Int) + 1))).drewN m)
      simpa using this
    · exact (((h9.set_ ((f + L.length) % n) (.int .i64 x)).far (p := ⟨r, 2, none⟩) (Ne.symm h3) _).drewN m)
    · intro i hi
      by_cases hil : i = L.length
      · subst hil
        simp [h10, hix]
      · have hi' : i < L.length := by simp at hi; omega
        have hne : (f + L.length) % n ≠ (f + i) % n := fun e => hil (wrapIx_inj h7 (by omega) (by omega) e.symm)
        simp [hne]
        rw [h11 i hi']
        simp [List.getElem?_append, hi']
  · have hl' : L.length = n := by omega
    refine (push_full r q n x w c0 (by rw [← hl']; exact c2)).mono ?_
    rintro e w' ⟨rfl, m, rfl⟩
    refine ⟨by rw [insE, if_neg hl], ?_, (Chg.refl _ _).drewN m⟩
    rw [insL, if_neg hl]
    exact ⟨h1, h2, h3, h4, h5, h6, f, cs, h7, h8.drewN m, h9.drewN m, h10, h11⟩

theorem pushf_c (h : RingA w B r q n L) (x : Int) : Calls Try.prog 17 #[.pointer (some ⟨r, 0, none⟩), .int .i64 x] w fun e w' =>
    e = .returned (.int .i64 (insE n L)) ∧ RingA w' B r q n (insL n L x true) ∧ Chg [r, q] w w' := by
  obtain ⟨h1, h2, h3, h4, h5, h6, f, cs, h7, h8, h9, h10, h11⟩ := h
  have c0 : w.cell? ⟨r, 0, none⟩ = some (.slice (some ⟨q, 0, none⟩) n n) := (h8.cell 0).trans rfl
  have c1 : w.cell? ⟨r, 1, none⟩ = some (.int .i64 (f : Nat)) := (h8.cell 1).trans rfl
  have c2 : w.cell? ⟨r, 2, none⟩ = some (.int .i64 (L.length : Nat)) := (h8.cell 2).trans rfl
  by_cases hl : L.length < n
  · have hix : (f + n - 1) % n < n := Nat.mod_lt _ (by omega)
    obtain ⟨u, hu⟩ : ∃ u, cs[(f + n - 1) % n]? = some u := ⟨_, Array.getElem?_eq_getElem (by omega)⟩
    refine (pushf_room r q n f L.length x w u c0 c1 c2 h3 (h8.frozen 1) (h8.frozen 2) ((h9.cell _).trans hu) (h9.frozen _) h4 h5 h7 hl).mono ?_
    rintro e w' ⟨rfl, m, rfl⟩
    refine ⟨by rw [insE, if_pos hl], ?_, (((((Chg.refl _ _).setCell (by simp) _).setCell (by simp) _).setCell (by simp) _).drewN m)⟩
    rw [insL, if_pos hl]
    refine ⟨h1, h2, h3, h4, h5, by simp; omega, (f + n - 1) % n, cs.setIfInBounds ((f + n - 1) % n) (.int .i64 x), hix, ?_, ?_, by simpa using h10, ?_⟩
    · have := ((((h8.set_ 1 (.int .i64 ((f + n - 1) % n : Nat))).set_ 2 (.int .i64 ((L.length : Int) + 1))).far (p := ⟨q, (f + n - 1) % n, none⟩) h3 (.int .i64 x)).drewN m)
      simpa using this
    · exact ((((h9.far (p := ⟨r, 1, none⟩) (Ne.symm h3) _).far (p := ⟨r, 2, none⟩) (Ne.symm h3) _).set_ ((f + n - 1) % n) (.int .i64 x)).drewN m)
    · intro i hi
      rcases i with _ | i
      · simp [h10, hix, Nat.mod_eq_of_lt hix]
      · have hi' : i < L.length := by simpa using hi
        have e1 : ((f + n - 1) % n + (i + 1)) % n = (f + i) % n := by
          rw [Nat.mod_add_mod, show f + n - 1 + (i + 1) = f + i + n from by omega, Nat.add_mod_right]
        have hne : (f + n - 1) % n ≠ (f + i) % n := fun e => by
          rw [show f + n - 1 = f + (n - 1) from by omega] at e
          have := wrapIx_inj h7 (by omega) (by omega) e
          omega
        rw [e1]
        simp [hne]
        rw [h11 i hi']
        simp
  · have hl' : L.length = n := by omega
    refine (pushf_full r q n x w c0 (by rw [← hl']; exact c2)).mono ?_
    rintro e w' ⟨rfl, m, rfl⟩
    refine ⟨by rw [insE, if_neg hl], ?_, (Chg.refl _ _).drewN m⟩
    rw [insL, if_neg hl]
    exact ⟨h1, h2, h3, h4, h5, h6, f, cs, h7, h8.drewN m, h9.drewN m, h10, h11⟩

theorem pop_c (h : RingA w B r q n L) : Calls Try.prog 11 #[.pointer (some ⟨r, 0, none⟩)] w fun e w' =>
    e = .returned (.tuple #[.int .i64 (takeV L 0), .int .i64 (codeE (takeOk L 0) 5)]) ∧ RingA w' B r q n (takeL L 0) ∧ Chg [r, q] w w' := by
  obtain ⟨h1, h2, h3, h4, h5, h6, f, cs, h7, h8, h9, h10, h11⟩ := h
  have c0 : w.cell? ⟨r, 0, none⟩ = some (.slice (some ⟨q, 0, none⟩) n n) := (h8.cell 0).trans rfl
  have c1 : w.cell? ⟨r, 1, none⟩ = some (.int .i64 (f : Nat)) := (h8.cell 1).trans rfl
  have c2 : w.cell? ⟨r, 2, none⟩ = some (.int .i64 (L.length : Nat)) := (h8.cell 2).trans rfl
  rcases L with _ | ⟨x, L⟩
  · refine (pop_none r w c2).mono ?_
    rintro e w' ⟨rfl, m, rfl⟩
    exact ⟨rfl, ⟨h1, h2, h3, h4, h5, h6, f, cs, h7, h8.drewN m, h9.drewN m, h10, h11⟩, (Chg.refl _ _).drewN m⟩
  · have hx := h11 0 (by simp)
    refine (pop_some r q n f (x :: L).length x w c0 c1 c2 h3 (h8.frozen 1) (h8.frozen 2) ((h9.cell _).trans (by simpa using hx)) h4 h5 h7 h6 (by simp)).mono ?_
    rintro e w' ⟨rfl, m, rfl⟩
    have ok : takeOk (x :: L) 0 = true := by simp [takeOk]
    refine ⟨by rw [takeV, ok]; rfl, ?_, ((((Chg.refl _ _).setCell (by simp) _).setCell (by simp) _).drewN m)⟩
    rw [show takeL (x :: L) 0 = L from by rw [takeL, ok]; rfl]
    refine ⟨h1, h2, h3, h4, h5, by simp at h6; omega, (f + 1) % n, cs, Nat.mod_lt _ (by omega), ?_, ?_, h10, ?_⟩
    · have := (((h8.set_ 1 (.int .i64 (((f : Int) + 1) % (n : Int)))).set_ 2 (.int .i64 (((x :: L).length : Int) - 1))).drewN m)
      simpa using this
    · exact (((h9.far (p := ⟨r, 1, none⟩) (Ne.symm h3) _).far (p := ⟨r, 2, none⟩) (Ne.symm h3) _).drewN m)
    · intro i hi
      rw [Nat.mod_add_mod, show f + 1 + i = f + (i + 1) from by omega]
      have := h11 (i + 1) (by simpa using hi)
      simpa using this

theorem popb_c (h : RingA w B r q n L) : Calls Try.prog 19 #[.pointer (some ⟨r, 0, none⟩)] w fun e w' =>
    e = .returned (.tuple #[.int .i64 (takeV L ((L.length : Int) - 1)), .int .i64 (codeE (takeOk L ((L.length : Int) - 1)) 5)]) ∧ RingA w' B r q n (takeL L ((L.length : Int) - 1)) ∧ Chg [r, q] w w' := by
  obtain ⟨h1, h2, h3, h4, h5, h6, f, cs, h7, h8, h9, h10, h11⟩ := h
  have c0 : w.cell? ⟨r, 0, none⟩ = some (.slice (some ⟨q, 0, none⟩) n n) := (h8.cell 0).trans rfl
  have c1 : w.cell? ⟨r, 1, none⟩ = some (.int .i64 (f : Nat)) := (h8.cell 1).trans rfl
  have c2 : w.cell? ⟨r, 2, none⟩ = some (.int .i64 (L.length : Nat)) := (h8.cell 2).trans rfl
  by_cases hl : L.length = 0
  · obtain rfl : L = [] := List.eq_nil_of_length_eq_zero hl
    refine (popb_none r w c2).mono ?_
    rintro e w' ⟨rfl, m, rfl⟩
    exact ⟨rfl, ⟨h1, h2, h3, h4, h5, h6, f, cs, h7, h8.drewN m, h9.drewN m, h10, h11⟩, (Chg.refl _ _).drewN m⟩
  · obtain ⟨k, hk⟩ : ∃ k, L.length = k + 1 := ⟨L.length - 1, by omega⟩
    have ok : takeOk L ((L.length : Int) - 1) = true := by simp [takeOk]; omega
    have hto : ((L.length : Int) - 1).toNat = k := by omega
    have hx := h11 k (by omega)
    refine (popb_some r q n f k (L.getD k 0) w c0 c1 (by rw [← hk]; exact c2) h3 (h8.frozen 2) ((h9.cell _).trans hx) h4 h5 h7 (by omega)).mono ?_
    rintro e w' ⟨rfl, m, rfl⟩
    refine ⟨by rw [takeV, ok, hto]; rfl, ?_, (((Chg.refl _ _).setCell (by simp) _).drewN m)⟩
    rw [takeL, ok, hto, if_pos rfl]
    have hle : (L.eraseIdx k).length = k := by rw [List.length_eraseIdx]; split <;> omega
    refine ⟨h1, h2, h3, h4, h5, by omega, f, cs, h7, ?_, ?_, h10, ?_⟩
    · have := ((h8.set_ 2 (.int .i64 (k : Nat))).drewN m)
      rw [hle]
      simpa using this
    · exact ((h9.far (p := ⟨r, 2, none⟩) (Ne.symm h3) _).drewN m)
    · intro i hi
      rw [hle] at hi
      rw [h11 i (by omega)]
      simp [List.getElem?_eraseIdx, hi]

theorem at_c (h : RingA w B r q n L) (i : Int) : Calls Try.prog 18 #[.pointer (some ⟨r, 0, none⟩), .int .i64 i] w fun e w' =>
    e = .returned (.tuple #[.int .i64 (takeV L i), .bool (takeOk L i)]) ∧ ∃ m, w' = w.drewN m := by
  obtain ⟨h1, h2, h3, h4, h5, h6, f, cs, h7, h8, h9, h10, h11⟩ := h
  have c0 : w.cell? ⟨r, 0, none⟩ = some (.slice (some ⟨q, 0, none⟩) n n) := (h8.cell 0).trans rfl
  have c1 : w.cell? ⟨r, 1, none⟩ = some (.int .i64 (f : Nat)) := (h8.cell 1).trans rfl
  have c2 : w.cell? ⟨r, 2, none⟩ = some (.int .i64 (L.length : Nat)) := (h8.cell 2).trans rfl
  by_cases hi : 0 ≤ i ∧ i < L.length
  · have ok : takeOk L i = true := by simpa [takeOk] using hi
    obtain ⟨k, rfl⟩ := Int.eq_ofNat_of_zero_le hi.1
    have hk : k < L.length := by omega
    refine (at_some r q n f L.length (L.getD k 0) w k c0 c1 c2 ((h9.cell _).trans (h11 k hk)) h4 h5 h7 h6 hk).mono ?_
    rintro e w' ⟨rfl, m, rfl⟩
    exact ⟨by rw [takeV, ok]; rfl, m, rfl⟩
  · have ok : takeOk L i = false := by simpa [takeOk] using hi
    refine (at_none r L.length w i c2 (by omega)).mono ?_
    rintro e w' ⟨rfl, m, rfl⟩
    exact ⟨by rw [takeV, ok]; rfl, m, rfl⟩

theorem len_c (h : RingA w B r q n L) : Calls Try.prog 12 #[.pointer (some ⟨r, 0, none⟩)] w fun e w' => e = .returned (.int .i64 (L.length : Nat)) ∧ ∃ m, w' = w.drewN m := by
  obtain ⟨h1, h2, h3, h4, h5, h6, f, cs, h7, h8, h9, h10, h11⟩ := h
  exact len_raw r L.length w ((h8.cell 2).trans rfl)
theorem items_c (h : RingA w B r q n L) : Calls Try.prog 14 #[.pointer (some ⟨r, 0, none⟩)] w fun e w' =>
    ∃ g, e = .returned (.slice (some ⟨g, 0, none⟩) L.length L.length) ∧ w.heap.size ≤ g ∧ g < w'.heap.size ∧ Rd w' g (some ⟨g, 0, none⟩) L ∧ Chg [] w w' := by
  obtain ⟨h1, h2, h3, h4, h5, h6, f, cs, h7, h8, h9, h10, h11⟩ := h
  refine (items_raw r q n f L w ((h8.cell 0).trans rfl) ((h8.cell 1).trans rfl) ((h8.cell 2).trans rfl) h8.lt h9.lt h4 h5 h7 h6 (fun i hi => (h9.cell _).trans (h11 i hi))).mono ?_
  rintro e w' ⟨rfl, m, rfl⟩
  exact ⟨_, rfl, Nat.le_refl _, by simp, Rd.of_blk ((Blk.new _ _ _).drewN m) (by omega), ((Chg.refl _ _).alloc _).drewN m⟩
end

theorem rnew_c (n : Nat) (hn : 1 ≤ n) (hn2 : n ≤ 4096) (w : World) {B : Nat} (hB : B ≤ w.heap.size) :
    Calls Try.prog 8 #[.int .i64 (n : Nat)] w fun e w' => ∃ r q, e = .returned (.tuple #[.pointer (some ⟨r, 0, none⟩), .int .i64 0]) ∧ RingA w' B r q n [] ∧ w.heap.size ≤ r ∧ w.heap.size ≤ q ∧ Chg [] w w' := by
  refine (rnew_ok n hn hn2 w).mono ?_
  rintro e w' ⟨rfl, m, rfl⟩
  refine ⟨w.heap.size + 1, w.heap.size, rfl, ⟨by omega, hB, by omega, hn, hn2, by simp, 0, madeCells #[.int .i64 0] n, by omega, ?_, ?_, size_madeCells _ _, by simp⟩, by omega, Nat.le_refl _, (((Chg.refl _ _).alloc _).alloc _).drewN m⟩
  · have := (Blk.new (w.alloc (.cells (madeCells #[.int .i64 0] n) 3)) 51 #[.slice (some ⟨w.heap.size, 0, none⟩) n n, .int .i64 0, .int .i64 0]).drewN m
    simpa using this
  · exact (((Blk.new w 3 (madeCells #[.int .i64 0] n)).alloc _).drewN m)

end Go.Proofs.Yteejbfookokadaa
