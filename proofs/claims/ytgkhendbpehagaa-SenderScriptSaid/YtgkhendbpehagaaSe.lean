/- The reference's sender: Exhausted. -/
import Derived.Test.YtgkhendbpehagaaSt
namespace Go.Proofs.Ytgkhendbpehagaa
open Go.RowKit
set_option linter.unusedVariables false
set_option linter.unusedSimpArgs false

theorem exh_snoc {tr : Int} {ps : List Sn} {k : Nat} (hk : k < ps.length) : exh tr (ps.take (k + 1)) = if ps[k].t < tr then exh tr (ps.take k) else exh tr (ps.take k) ++ [ps[k]] := by
  rw [List.take_succ_eq_append_getElem hk]
  unfold exh
  rw [List.filter_append]
  by_cases h : ps[k].t < tr <;> simp [h]

set_option maxRecDepth 100000 in
set_option maxHeartbeats 2000000 in
theorem rexh_c {w : World} {B s : Nat} {O : List Nat} {wd tr nx : Int} {ps : List Sn} (h : RA w B s O wd tr nx ps) :
    Calls Try.prog 23 #[.pointer (some ⟨s, 0, none⟩)] w fun e w' => ∃ A' c', e = .returned (.slice A' (exh tr ps).length c') ∧ w'.ownsRow w.heap.size 39 3 (.slice A' (exh tr ps).length c') (exh tr ps).length ((exh tr ps).flatMap snC) ∧ Chg [] w w' := by
  obtain ⟨n, hn⟩ : ∃ n, ps.length = n := ⟨_, rfl⟩
  obtain ⟨A0, c0, h9, h10⟩ := h.split
  have hl := h.hl
  have e1 := (h9.cell 1).trans rfl
  have e3 := (h9.cell 3).trans rfl
  rw [hn] at e3 hl
  have hsl := h9.lt
  have HN := Lib.hid hn
  clear h h9 hn
  go_enter Try.func23, Try.ntmps23
  go_wp2_with fail
  go_loopw [3, 4] (fun v3 v4 wr => ∃ (k m : Nat) (A : Option Addr) (c : Nat), k ≤ n ∧ v4 = .int .i64 k ∧ m = (exh tr (ps.take k)).length ∧ v3 = .slice A m c ∧ wr.ownsRow w.heap.size 39 3 (.slice A m c) m ((exh tr (ps.take k)).flatMap snC) ∧ Chg [] w wr) (fun _ v4 _ => n - (intOf v4).toNat)
  case atStart => exact ⟨0, 0, none, 0, by omega, rfl, by simp [exh], rfl, by simpa [exh] using World.ownsRow_nil _ _ _ _, Chg.refl _ _⟩
  case round =>
    obtain ⟨k, m, A, c, hk, rfl, hm, rfl, ho, kr⟩ := hrel
    have hmk : m ≤ k := by
      have h1 : (exh tr (ps.take k)).length ≤ (ps.take k).length := List.length_filter_le _ _
      rw [List.length_take] at h1
      omega
    have y1 := (kr.cell (p := ⟨s, 1, none⟩) hsl (by simp)).trans e1
    have y3 := (kr.cell (p := ⟨s, 3, none⟩) hsl (by simp)).trans e3
    have hws := kr.size
    have HM := Lib.hid hm
    have HO := Lib.hid ho
    clear hm ho
    by_cases hlt : k < n
    · have hkl : k < ps.length := by have := HN.out; omega
      rcases h10 with ⟨_, _, h0⟩ | ⟨g, rfl, hg, hgO, hgs, hr⟩
      · exact absurd hkl (by rw [h0]; simp)
      · have hr' := hr.chg kr (by simp)
        obtain ⟨c0, c1, c2⟩ := row_sn hr' hkl
        have HS := Lib.hid (exh_snoc (tr := tr) hkl)
        have HP := Lib.hid (rfl : snC ps[k] = snC ps[k])
        generalize ps[k] = p at c0 c1 c2 HS HP
        have hI : (k : Int) < (n : Int) := by omega
        have hJ : (0 : Int) ≤ (k : Int) := by omega
        have hgl := hr'.lt
        clear hr hr'
        by_cases hq : p.t < tr
        · have hq' : ¬ tr ≤ p.t := by omega
          go_wp2_with fail
          go_quiet (fail)
          go_wp2_with fail
          go_roundw
          case rel => exact ⟨k + 1, m, A, c, by omega, by go_num, by rw [HS.out, if_pos hq]; exact HM.out, rfl, by rw [HS.out, if_pos hq]; exact own_drewN HO.out _, kr.drewN _⟩
          case measure => simp [intOf]; omega
        · have hq' : tr ≤ p.t := by omega
          have hone : ∀ u ∈ ([.int .i64 p.q, .int .i64 p.i, .int .i64 p.t] : List Value), u.oneCell' = true := by intro u hu; simp at hu; rcases hu with rfl | rfl | rfl <;> rfl
          go_wp2_with fail
          go_quiet (fail)
          go_wp2_with (at_builtin; refine list_app (P := Try.prog) (t := 33) Try.underlying33 sn_info rfl (by omega) (.tmp 27) (.tmp 35) w.heap.size (n := m) (m := 1) (N := m + 1) rfl (by omega) hone (by omega) (own_drewN (own_chg HO.out ((Chg.refl [] wr).alloc (.cells #[.int .i64 p.q, .int .i64 p.i, .int .i64 p.t] 39)) (by simp)) _) ((reads_lit wr 39 #[.int .i64 p.q, .int .i64 p.i, .int .i64 p.t] 3 rfl).drewN _) (by simp; omega) (by rfl) (by rfl) (by rfl) (by rfl) ?_; intro A3 d3 W3 hown3 hgrow3 hat3; have kW := (((Chg.refl (ownL (.slice A m c)) wr).alloc (.cells #[.int .i64 p.q, .int .i64 p.i, .int .i64 p.t] 39)).drewN _).grown hgrow3 (fun j hj => .inl (mem_ownL.2 hj)))
          go_roundw
          case rel =>
            have hol := ownL_lt HO.out
            refine ⟨k + 1, m + 1, A3, d3, by omega, by go_num, ?_, rfl, ?_, kr.trans kW (fun x hx => .inr (hol _ hx).1)⟩
            · rw [HS.out, if_neg (by omega), List.length_append, ← HM.out]; rfl
            · rw [HS.out, if_neg (by omega), List.flatMap_append]; simpa [snC] using hown3
          case measure => simp [intOf]; omega
    · have hge : (n : Int) ≤ (k : Int) := by omega
      have ht : ps.take k = ps := List.take_of_length_le (by have := HN.out; omega)
      have hm := HM.out
      have ho := HO.out
      rw [ht] at hm ho
      have HM2 := Lib.hid hm
      have HO2 := Lib.hid ho
      clear hm ho
      go_wp2_with fail
      go_ret
      have hm := HM2.out
      subst hm
      exact ⟨A, c, rfl, HO2.out, kr⟩

end Go.Proofs.Ytgkhendbpehagaa
