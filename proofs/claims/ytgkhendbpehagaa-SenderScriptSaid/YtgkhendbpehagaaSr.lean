/- The reference's sender: its state as SA; New, Base, Room, Open, at; Distance, Before, Has of the bitmap's reference. -/
import Derived.Test.YtgkhendbpehagaaSnK
namespace Go.Proofs.Ytgkhendbpehagaa
open Go.RowKit
set_option linter.unusedVariables false
set_option linter.unusedSimpArgs false

def distV (a b : Int) : Int := if 0 ≤ a ∧ a < 65536 ∧ 0 ≤ b ∧ b < 65536 then dst a b else 0
def distE (a b : Int) : Int := if 0 ≤ a ∧ a < 65536 ∧ 0 ≤ b ∧ b < 65536 then 0 else 1
theorem wrap_small (d : Int) (h0 : 0 ≤ d) (h1 : d < 65536) : IntKind.u64.wrap d = d := by rw [IntKind.wrap_u64]; omega

set_option maxHeartbeats 400000 in
theorem rdist (a b : Int) (w : World) : Calls Try.prog 46 #[.int .i64 a, .int .i64 b] w fun e w' => e = .returned (.tuple #[.int .i64 (distV a b), .int .i64 (distE a b)]) ∧ w = w' := by
  by_cases h : 0 ≤ a ∧ a < 65536 ∧ 0 ≤ b ∧ b < 65536
  · have e1 : distV a b = dst a b := if_pos h
    have e2 : distE a b = 0 := if_pos h
    rw [e1, e2]
    obtain ⟨h1, h2, h3, h4⟩ := h
    clear e1 e2
    unfold dst
    go_enter Try.func46, Try.ntmps46
    go_wp2
    go_ret2
    exact ⟨rfl, rfl⟩
  · have e1 : distV a b = 0 := if_neg h
    have e2 : distE a b = 1 := if_neg h
    rw [e1, e2]
    clear e1 e2
    go_enter Try.func46, Try.ntmps46
    go_wp2
    all_goals
      first
        | (go_ret2; exact ⟨rfl, rfl⟩)
        | (exfalso; simp only [Bool.not_eq_false', decide_eq_true_eq] at *; omega)

set_option maxHeartbeats 400000 in
theorem rbef (a b : Int) (w : World) : Calls Try.prog 47 #[.int .i64 a, .int .i64 b] w fun e w' => e = .returned (.bool (befB a b)) ∧ w = w' := by
  by_cases h : 0 ≤ a ∧ a < 65536 ∧ 0 ≤ b ∧ b < 65536
  · have hd := dst_bd a b
    have HB := Lib.hid (show befB a b = decide (1 ≤ dst a b ∧ dst a b < 32768) from by unfold befB; exact decide_eq_decide.2 (by omega))
    have HD := Lib.hid (rdist a b)
    rw [show distV a b = dst a b from if_pos h, show distE a b = 0 from if_pos h] at HD
    clear h
    generalize dst a b = d at hd HB HD
    go_enter Try.func47, Try.ntmps47
    go_wp2_with fail
    refine (HD.out _).mono ?_
    rintro e w' ⟨rfl, rfl⟩
    go_wp2_with fail
    all_goals
      go_ret
      refine ⟨ret_bool ?_, rfl⟩
      rw [HB.out]
      first
        | exact (decide_eq_true (by omega)).symm
        | exact (decide_eq_false (by omega)).symm
        | exact decide_eq_decide.2 (by omega)
  · have HB := Lib.hid (show befB a b = false from by unfold befB; exact decide_eq_false (by omega))
    have HD := Lib.hid (rdist a b)
    rw [show distV a b = 0 from if_neg h, show distE a b = 1 from if_neg h] at HD
    clear h
    go_enter Try.func47, Try.ntmps47
    go_wp2_with fail
    refine (HD.out _).mono ?_
    rintro e w' ⟨rfl, rfl⟩
    go_wp2_with fail
    go_ret
    exact ⟨ret_bool HB.out.symm, rfl⟩

set_option maxHeartbeats 1000000 in
theorem rhas (base b seq : Int) (w : World) (hb0 : 0 ≤ b) (hb : b < 18446744073709551616) :
    Calls Try.prog 48 #[.agg #[.int .i64 base, .int .u64 b], .int .i64 seq] w fun e w' => e = .returned (.bool (hasB base b seq)) ∧ Chg [] w w' := by
  by_cases h : 0 ≤ base ∧ base < 65536 ∧ 0 ≤ seq ∧ seq < 65536
  · have hd := dst_bd base seq
    have HD := Lib.hid (rdist base seq)
    rw [show distV base seq = dst base seq from if_pos h, show distE base seq = 0 from if_pos h] at HD
    by_cases h5 : dst base seq < 64
    · have HB := Lib.hid (show hasB base b seq = decide (b / 2 ^ (dst base seq).toNat % 2 = 1) from by unfold hasB; exact decide_eq_decide.2 ⟨fun h => h.2.2.2.2.2, fun h' => ⟨h.1, h.2.1, h.2.2.1, h.2.2.2, h5, h'⟩⟩)
      have hw := wrap_small (dst base seq) hd.1 hd.2
      have hq : 0 ≤ b / 2 ^ (dst base seq).toNat := Int.ediv_nonneg hb0 (Int.le_of_lt (Int.pow_pos (by decide)))
      clear h
      generalize dst base seq = d at hd HD h5 hw HB hq ⊢
      go_enter Try.func48, Try.ntmps48
      go_wp2_with fail
      refine (HD.out _).mono ?_
      rintro e w' ⟨rfl, rfl⟩
      go_wp2_with fail
      go_ret
      refine ⟨ret_bool ?_, (Chg.refl _ _).alloc _⟩
      rw [HB.out]
      rfl
    · have HB := Lib.hid (show hasB base b seq = false from by unfold hasB; exact decide_eq_false (fun hh => h5 hh.2.2.2.2.1))
      clear h
      generalize dst base seq = d at hd HD h5 ⊢
      go_enter Try.func48, Try.ntmps48
      go_wp2_with fail
      refine (HD.out _).mono ?_
      rintro e w' ⟨rfl, rfl⟩
      go_wp2_with fail
      go_ret
      exact ⟨ret_bool HB.out.symm, (Chg.refl _ _).alloc _⟩
  · have HB := Lib.hid (show hasB base b seq = false from by unfold hasB; exact decide_eq_false (fun hh => h ⟨hh.1, hh.2.1, hh.2.2.1, hh.2.2.2.1⟩))
    have HD := Lib.hid (rdist base seq)
    rw [show distV base seq = 0 from if_neg h, show distE base seq = 1 from if_neg h] at HD
    clear h
    go_enter Try.func48, Try.ntmps48
    go_wp2_with fail
    refine (HD.out _).mono ?_
    rintro e w' ⟨rfl, rfl⟩
    go_wp2_with fail
    go_ret
    exact ⟨ret_bool HB.out.symm, (Chg.refl _ _).alloc _⟩

/-- Block s is a sender with this window, tries and next number, ps are pending; its row lies in one of the blocks O, if anywhere. -/
structure RA (w : World) (B s : Nat) (O : List Nat) (wd tr nx : Int) (ps : List Sn) : Prop where
  Bs : B ≤ s
  sO : s ∉ O
  BO : ∀ j ∈ O, B ≤ j
  Ol : ∀ j ∈ O, j < w.heap.size
  hw : 1 ≤ wd ∧ wd ≤ 64
  ht : 1 ≤ tr ∧ tr ≤ 16
  hn : 0 ≤ nx ∧ nx < 65536
  hl : ps.length ≤ 1000
  ok : ∀ p ∈ ps, okSn p
  row : ∃ A c, Blk w s 50 #[.int .i64 wd, .int .i64 tr, .int .i64 nx, .slice A ps.length c] ∧
    w.ownsRow B 39 3 (.slice A ps.length c) ps.length (ps.flatMap snC) ∧ ∀ j ∈ ownL (.slice A ps.length c), j ∈ O

section
variable {w w' : World} {B s : Nat} {O : List Nat} {wd tr nx : Int} {ps : List Sn}
theorem RA.chg {S : List Nat} (h : RA w B s O wd tr nx ps) (hc : Chg S w w') (hs : s ∉ S) (hO : ∀ j ∈ O, j ∉ S) : RA w' B s O wd tr nx ps := by
  obtain ⟨h1, h2, h3, h3l, h4, h5, h6, h7, h8, A, c, h9, h10, h11⟩ := h
  exact ⟨h1, h2, h3, fun j hj => Nat.lt_of_lt_of_le (h3l j hj) hc.size, h4, h5, h6, h7, h8, A, c, h9.chg hc hs, own_chg h10 hc (fun g hg => hO g (h11 g (mem_ownL.2 hg))), h11⟩
theorem RA.lt (h : RA w B s O wd tr nx ps) : s < w.heap.size := by
  obtain ⟨A, c, h9, _⟩ := h.row
  exact h9.lt
theorem RA.bs (h : RA w B s O wd tr nx ps) : 0 ≤ bs nx ps ∧ bs nx ps < 65536 := by
  cases ps with
  | nil => exact h.hn
  | cons p r => exact ⟨(h.ok p (by simp)).1, (h.ok p (by simp)).2.1⟩
end


set_option maxHeartbeats 400000 in
theorem rbase_nil (s : Nat) (A : Option Addr) (c : Nat) (nx : Int) (w : World) (h2 : w.cell? ⟨s, 2, none⟩ = some (.int .i64 nx)) (h3 : w.cell? ⟨s, 3, none⟩ = some (.slice A 0 c)) :
    Calls Try.prog 20 #[.pointer (some ⟨s, 0, none⟩)] w fun e w' => e = .returned (.int .i64 nx) ∧ ∃ m, w' = w.drewN m := by
  go_enter Try.func20, Try.ntmps20
  go_wp2
  go_ret
  exact ⟨rfl, 0, rfl⟩

set_option maxHeartbeats 400000 in
theorem rbase_some (s g n c : Nat) (q : Int) (w : World) (h3 : w.cell? ⟨s, 3, none⟩ = some (.slice (some ⟨g, 0, none⟩) (n + 1) c)) (h0 : w.cell? ⟨g, 0, none⟩ = some (.int .i64 q)) :
    Calls Try.prog 20 #[.pointer (some ⟨s, 0, none⟩)] w fun e w' => e = .returned (.int .i64 q) ∧ ∃ m, w' = w.drewN m := by
  have hd : ((n : Int) + 1 == 0) = false := by rw [beq_eq_false_iff_ne]; omega
  have hb1 : (0 : Int) < (n : Int) + 1 := by omega
  go_enter Try.func20, Try.ntmps20
  go_wp2
  go_ret
  exact ⟨rfl, 0, rfl⟩

theorem RA.split {w : World} {B s : Nat} {O : List Nat} {wd tr nx : Int} {ps : List Sn} (h : RA w B s O wd tr nx ps) : ∃ A c, Blk w s 50 #[.int .i64 wd, .int .i64 tr, .int .i64 nx, .slice A ps.length c] ∧
    ((A = none ∧ c = 0 ∧ ps = []) ∨ ∃ g, A = some ⟨g, 0, none⟩ ∧ B ≤ g ∧ g ∈ O ∧ g ≠ s ∧ Row w g 39 3 c snC ps) := by
  obtain ⟨A, c, h9, h10, h11⟩ := h.row
  refine ⟨A, c, h9, ?_⟩
  rcases (own_row snCells (by omega) h10).2 with h | ⟨g, rfl, hg, hr⟩
  · exact .inl h
  · have hgO := h11 g (mem_ownL.2 rfl)
    exact .inr ⟨g, rfl, hg, hgO, fun e => h.sO (e ▸ hgO), hr⟩

theorem rbase_c {w : World} {B s : Nat} {O : List Nat} {wd tr nx : Int} {ps : List Sn} (h : RA w B s O wd tr nx ps) :
    Calls Try.prog 20 #[.pointer (some ⟨s, 0, none⟩)] w fun e w' => e = .returned (.int .i64 (bs nx ps)) ∧ ∃ m, w' = w.drewN m := by
  obtain ⟨A, c, h9, h10⟩ := h.split
  cases ps with
  | nil => exact rbase_nil s A c nx w ((h9.cell 2).trans rfl) ((h9.cell 3).trans rfl)
  | cons p r =>
    rcases h10 with ⟨_, _, h0⟩ | ⟨g, rfl, _, _, _, hr⟩
    · cases h0
    · exact rbase_some s g r.length c p.q w ((h9.cell 3).trans rfl) ((hr.cell (k := 0) (by simp) (r := 0) (by omega)).trans rfl)

theorem RA.drewN {w : World} {B s : Nat} {O : List Nat} {wd tr nx : Int} {ps : List Sn} (h : RA w B s O wd tr nx ps) (m : Nat) : RA (w.drewN m) B s O wd tr nx ps := h.chg ((Chg.refl [] w).drewN m) (by simp) (by simp)

set_option maxHeartbeats 400000 in
theorem rnew_raw (n t : Int) (h1 : 1 ≤ n) (h2 : n ≤ 64) (h3 : 1 ≤ t) (h4 : t ≤ 16) (w : World) :
    Calls Try.prog 17 #[.int .i64 n, .int .i64 t] w fun e w' => e = .returned (.tuple #[.pointer (some ⟨w.heap.size, 0, none⟩), .int .i64 0]) ∧
      ∃ m, w' = (w.alloc (.cells #[.int .i64 n, .int .i64 t, .int .i64 0, .slice none 0 0] 50)).drewN m := by
  go_enter Try.func17, Try.ntmps17
  go_wp2
  go_ret2
  exact ⟨rfl, 0, rfl⟩

theorem rnew_c (n t : Int) (h1 : 1 ≤ n) (h2 : n ≤ 64) (h3 : 1 ≤ t) (h4 : t ≤ 16) (w : World) {B : Nat} (hB : B ≤ w.heap.size) :
    Calls Try.prog 17 #[.int .i64 n, .int .i64 t] w fun e w' => ∃ s, e = .returned (.tuple #[.pointer (some ⟨s, 0, none⟩), .int .i64 0]) ∧ RA w' B s [] n t 0 [] ∧ w.heap.size ≤ s ∧ Chg [] w w' := by
  refine (rnew_raw n t h1 h2 h3 h4 w).mono ?_
  rintro e w' ⟨rfl, m, rfl⟩
  exact ⟨w.heap.size, rfl, ⟨hB, by simp, by simp, by simp, ⟨h1, h2⟩, ⟨h3, h4⟩, by omega, by simp, by simp, none, 0, (Blk.new _ _ _).drewN m, World.ownsRow_nil _ _ _ _, by simp [ownL, Value.ownBlock]⟩, Nat.le_refl _, ((Chg.refl _ _).alloc _).drewN m⟩

set_option maxHeartbeats 400000 in
theorem snew_bad (n t : Int) (h : ¬ (1 ≤ n ∧ n ≤ 64 ∧ 1 ≤ t ∧ t ≤ 16)) (w : World) :
    Calls Try.prog 8 #[.int .i64 n, .int .i64 t] w fun e w' => e = .returned (.tuple #[.pointer none, .int .i64 1]) ∧ Chg [] w w' := by
  go_enter Try.func8, Try.ntmps8
  go_wp2
  all_goals
    first
      | (go_ret2; exact ⟨rfl, Chg.refl _ _⟩)
      | (exfalso; simp only [Bool.not_eq_false', decide_eq_true_eq, decide_eq_false_iff_not] at *; omega)
      | (exfalso; simp at *; omega)

set_option maxHeartbeats 400000 in
theorem rnew_bad (n t : Int) (h : ¬ (1 ≤ n ∧ n ≤ 64 ∧ 1 ≤ t ∧ t ≤ 16)) (w : World) :
    Calls Try.prog 17 #[.int .i64 n, .int .i64 t] w fun e w' => e = .returned (.tuple #[.pointer none, .int .i64 1]) ∧ Chg [] w w' := by
  go_enter Try.func17, Try.ntmps17
  go_wp2
  all_goals
    first
      | (go_ret2; exact ⟨rfl, Chg.refl _ _⟩)
      | (exfalso; simp only [Bool.not_eq_false', decide_eq_true_eq, decide_eq_false_iff_not] at *; omega)
      | (exfalso; simp at *; omega)

set_option maxHeartbeats 400000 in
theorem rroom_c {w : World} {B s : Nat} {O : List Nat} {wd tr nx : Int} {ps : List Sn} (h : RA w B s O wd tr nx ps) :
    Calls Try.prog 38 #[.pointer (some ⟨s, 0, none⟩)] w fun e w' => e = .returned (.int .i64 (wd - dst (bs nx ps) nx)) ∧ ∃ m, w' = w.drewN m := by
  obtain ⟨A, c, h9, _⟩ := h.split
  have h0 := (h9.cell 0).trans rfl
  have h2 := (h9.cell 2).trans rfl
  have hn := h.hn
  have hb := h.bs
  have hw := h.hw
  have HD := Lib.hid (rdist (bs nx ps) nx)
  rw [show distV (bs nx ps) nx = dst (bs nx ps) nx from if_pos ⟨hb.1, hb.2, hn.1, hn.2⟩, show distE (bs nx ps) nx = 0 from if_pos ⟨hb.1, hb.2, hn.1, hn.2⟩] at HD
  have hd := dst_bd (bs nx ps) nx
  have HB := Lib.hid (fun m => rbase_c (h.drewN m))
  generalize dst (bs nx ps) nx = d at HD hd
  have hwr : IntKind.i64.wrap (wd - d) = wd - d := by rw [IntKind.wrap_i64]; omega
  clear h
  go_enter Try.func38, Try.ntmps38
  go_wp2_with fail
  go_quiet (first | (go_at_call 20; exact Calls.quiet_of (HB.out _)) | (go_at_call 46; exact Calls.quiet_of ((HD.out _).mono (by rintro e w' ⟨rfl, rfl⟩; exact ⟨rfl, 0, rfl⟩))))
  go_wp2_with fail
  go_ret
  exact ⟨rfl, _, rfl⟩

set_option maxHeartbeats 400000 in
theorem ropen_c {w : World} {B s : Nat} {O : List Nat} {wd tr nx : Int} {ps : List Sn} (h : RA w B s O wd tr nx ps) :
    Calls Try.prog 19 #[.pointer (some ⟨s, 0, none⟩)] w fun e w' => e = .returned (.bool (decide (dst (bs nx ps) nx < wd))) ∧ ∃ m, w' = w.drewN m := by
  have HR := Lib.hid (rroom_c h)
  generalize dst (bs nx ps) nx = d at HR ⊢
  clear h
  go_enter Try.func19, Try.ntmps19
  go_wp2_with fail
  refine HR.out.mono ?_
  rintro e w' ⟨rfl, m, rfl⟩
  go_wp2_with fail
  go_ret
  exact ⟨ret_bool (decide_eq_decide.2 (by omega)), _, rfl⟩

set_option maxHeartbeats 1000000 in
theorem rat_c {w : World} {B s : Nat} {O : List Nat} {wd tr nx : Int} {ps : List Sn} (h : RA w B s O wd tr nx ps) (x : Int) :
    Calls Try.prog 45 #[.pointer (some ⟨s, 0, none⟩), .int .i64 x] w fun e w' => e = .returned (.int .i64 (fndI x ps)) ∧ Chg [] w w' := by
  obtain ⟨A, c, h9, h10⟩ := h.split
  have hl := h.hl
  have e3 := (h9.cell 3).trans rfl
  have hn : ∃ n, ps.length = n := ⟨_, rfl⟩
  obtain ⟨n, hn⟩ := hn
  have HN := Lib.hid hn
  rw [hn] at e3 hl
  clear hn h9 h
  go_enter Try.func45, Try.ntmps45
  go_wp2
  go_loopw [5] (fun i wr => ∃ k : Nat, k ≤ n ∧ i = .int .i64 k ∧ Chg [] w wr ∧ ∀ j (hj : j < ps.length), j < k → ps[j].q ≠ x) (fun i _ => n - (intOf i).toNat)
  case atStart => exact ⟨0, Nat.zero_le _, rfl, Chg.refl _ _, fun j _ hj => absurd hj (by omega)⟩
  case round =>
    obtain ⟨k, hk, rfl, hc, hP⟩ := hrel
    have HP := Lib.hid hP
    clear hP
    have e4 := (hc.cell (p := ⟨s, 3, none⟩) (block_lt_of_cell e3) (by simp)).trans e3
    by_cases hlt : k < n
    · have hkl : k < ps.length := by have := HN.out; omega
      rcases h10 with ⟨_, _, h0⟩ | ⟨g, rfl, hg, hgO, hgs, hr⟩
      · exact absurd hkl (by rw [h0]; simp)
      · have hr' := hr.chg hc (by simp)
        obtain ⟨c0, c1, c2⟩ := row_sn hr' hkl
        have HE := Lib.hid (fun hq : ps[k].q = x => fnd_some HP.out hkl hq)
        have HX := Lib.hid (fun (hq : ps[k].q ≠ x) j (hj : j < ps.length) (h1 : j < k + 1) => show ps[j].q ≠ x from by
          by_cases h2 : j = k
          · subst h2; exact hq
          · exact HP.out j hj (by omega))
        generalize ps[k] = p at c0 c1 c2 HE HX
        have hI : (k : Int) < (n : Int) := by omega
        have hJ : (0 : Int) ≤ (k : Int) := by omega
        by_cases hq : p.q = x
        · have hq' : (p.q == x) = true := by simpa using hq
          have HF := Lib.hid (HE.out hq)
          clear hq
          go_wp2_with fail
          go_ret
          exact ⟨ret_int (by rw [fndI, HF.out]), hc⟩
        · have hq' : (p.q == x) = false := by simpa using hq
          have HF := Lib.hid (HX.out hq)
          clear hq
          go_wp2_with fail
          go_roundw
          case rel => exact ⟨k + 1, by omega, by go_num, hc, HF.out⟩
          case measure => simp [intOf]; omega
    · have hge : (n : Int) ≤ (k : Int) := by omega
      have HF := Lib.hid (fnd_none (x := x) (ps := ps) (fun j hj => HP.out j hj (by have := HN.out; omega)))
      go_wp2_with fail
      go_ret
      exact ⟨ret_int (by rw [fndI, HF.out]), hc⟩

end Go.Proofs.Ytgkhendbpehagaa
