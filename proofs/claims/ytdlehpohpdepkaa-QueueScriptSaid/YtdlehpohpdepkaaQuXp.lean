/- Expire: the walk. -/
import Derived.Test.YtdlehpohpdepkaaQuZ
namespace Go.Proofs.Ytdlehpohpdepkaa
open Go.RowKit
set_option linter.unusedVariables false
set_option linter.unusedSimpArgs false

theorem lates_snoc2 {s : Int} {ps : List Pk} {k : Nat} (hk : k < ps.length) : lates s (ps.take (k + 1)) = if lateB (pkAt ps k).d s then lates s (ps.take k) ++ [pkAt ps k] else lates s (ps.take k) := by
  rw [take_snoc hk]
  unfold lates
  rw [List.filter_append]
  cases h : lateB (pkAt ps k).d s <;> simp [h]

set_option maxRecDepth 100000 in
set_option maxHeartbeats 4000000 in
theorem qexpire_some {w : World} {g q n c : Nat} {s most mb : Int} {ps : List Pk} (hn : ps.length = n) (hn6 : n ≤ 64) (hnc : n ≤ c) (hcm : c ≤ 9223372036854775807) (hD : DF w g c 0 [] ps) (hp : PB w g ps) (hgq : g ≠ q) (hv : ∀ p ∈ ps, vld p = true)
    (hq : Blk w q 57 #[.int .i64 most, .int .i64 mb, .slice (some ⟨g, 0, none⟩) n c, .int .i64 (tot ps)]) :
    Calls Try.prog 20 #[.pointer (some ⟨q, 0, none⟩), .int .i64 s] w fun e w' => ∃ A' c' m2, e = .returned (.slice A' (lates s ps).length c') ∧ w'.ownsRow (w.heap.size + 1) 24 5 (.slice A' (lates s ps).length c') (lates s ps).length ((lates s ps).flatMap pkC) ∧ DF w' g c m2 (stays s ps) ps ∧
      Blk w' q 57 #[.int .i64 most, .int .i64 mb, .slice (some ⟨g, 0, none⟩) (stays s ps).length c, .int .i64 (tot (stays s ps))] ∧ Chg [g, q] w w' := by
  have hmf : ∀ (fn : Fn) (first cap : Array Value) (w : World), (Instr.makeFunc fn first cap).run Try.prog w = .ok (.func fn first cap) w := fun _ _ _ _ => rfl
  have HN := Lib.hid hn
  clear hn
  have hq2 := (hq.cell 2).trans rfl
  have hql := hq.lt
  go_enter Try.func20, Try.ntmps20
  go_wp2_with fail
  go_loopw [5, 13] (fun vo vi wr => ∃ (k m : Nat) (A1 : Option Addr) (c1 : Nat), k ≤ n ∧ vi = .int .i64 k ∧ m = (lates s (ps.take k)).length ∧ vo = .slice A1 m c1 ∧ wr.ownsRow (w.heap.size + 1) 24 5 (.slice A1 m c1) m ((lates s (ps.take k)).flatMap pkC) ∧ wr.cell? ⟨w.heap.size, 0, none⟩ = some (.int .i64 s) ∧ Chg [q] w wr ∧ Blk wr q 57 #[.int .i64 most, .int .i64 mb, .slice (some ⟨g, 0, none⟩) n c, .int .i64 (tot ps - tot (lates s (ps.take k)))]) (fun _ vi _ => n - (intOf vi).toNat)
  case atStart =>
    refine ⟨0, 0, none, 0, Nat.zero_le _, rfl, by simp [lates], rfl, ?_, by simp, (Chg.refl _ _).alloc _, ?_⟩
    · simp only [lates, List.take_zero, List.filter_nil, List.flatMap_nil]; exact World.ownsRow_nil _ _ _ _
    · simp only [lates, List.take_zero, List.filter_nil, tot, Int.sub_zero]; exact hq.alloc _
  case round =>
    obtain ⟨k, m, A1, c1, hk, rfl, hm, rfl, hO, hs, hc, hQ⟩ := hrel
    by_cases hlt : k < n
    · have hkl : k < ps.length := by have := HN.out; omega
      have hp' := hp.chg hc (by simpa using hgq)
      obtain ⟨x0, x1, x2, x3, x4⟩ := hp'.at_ hkl
      have HH := Lib.hid (fun W : World => late_raw (pkAt ps k).i (pkAt ps k).f (pkAt ps k).l (pkAt ps k).a (pkAt ps k).d s W)
      have HO := Lib.hid hO
      have HQ := Lib.hid hQ
      have HM := Lib.hid hm
      clear hO hQ hm
      generalize hqq : pkAt ps k = p at x0 x1 x2 x3 x4 HH
      have HP := Lib.hid hqq
      clear hqq
      have hI : (k : Int) < (n : Int) := by omega
      have hJ : (0 : Int) ≤ (k : Int) := by omega
      have hbl := block_lt_of_cell hs
      simp at hbl
      go_wp2_with fail
      refine (HH.out _).mono ?_
      rintro e w2 ⟨rfl, hc2⟩
      have hcr : Chg [] wr w2 := ((Chg.refl [] wr).alloc _).trans hc2 (by simp)
      have HC := Lib.hid hcr
      have ht := lates_snoc2 (s := s) hkl
      rw [HP.out] at ht
      cases hlb : lateB p.d s
      · rw [hlb] at ht
        simp only [Bool.false_eq_true, if_false] at ht
        have HT := Lib.hid ht
        clear ht
        go_wp2_with fail
        go_roundw
        case rel =>
          have e1 : Chg [q] w w2 := hc.trans HC.out (by simp)
          exact ⟨k + 1, m, A1, c1, by omega, by go_num, by rw [HT.out]; exact HM.out, rfl, by rw [HT.out]; exact own_chg HO.out HC.out (by simp), (HC.out.cell (p := ⟨w.heap.size, 0, none⟩) (block_lt_of_cell hs) (by simp)).trans hs, e1, by rw [HT.out]; exact HQ.out.chg HC.out (by simp)⟩
        case measure => simp [intOf]; omega
      · rw [hlb] at ht
        simp only [if_true] at ht
        have HT := Lib.hid ht
        clear ht
        have hx := (Blk.new wr 24 #[.int .i64 p.i, .int .i64 p.f, .int .i64 p.l, .int .i64 p.a, .int .i64 p.d]).chg hc2 (by simp)
        have HX := Lib.hid hx
        obtain ⟨v0, v1, v2, v3, v4⟩ := pk5 hx
        clear hx
        have HO2 := Lib.hid (own_chg HO.out HC.out (by simp))
        have hml : m ≤ k := by rw [HM.out]; exact Nat.le_trans (lates_le s _) (by simp; omega)
        have hE := own_chg HO2.out ((Chg.refl [] w2).alloc (.cells #[.int .i64 p.i, .int .i64 p.f, .int .i64 p.l, .int .i64 p.a, .int .i64 p.d] 24)) (by simp)
        have hR := reads_lit w2 24 #[.int .i64 p.i, .int .i64 p.f, .int .i64 p.l, .int .i64 p.a, .int .i64 p.d] 5 rfl
        have hone : ∀ u ∈ ([.int .i64 p.i, .int .i64 p.f, .int .i64 p.l, .int .i64 p.a, .int .i64 p.d] : List Value), u.oneCell' = true := by intro u hu; simp at hu; rcases hu with rfl | rfl | rfl | rfl | rfl <;> rfl
        have hz : w.heap.size + 1 ≤ w2.heap.size + 1 := by have := HC.out.size; omega
        go_wp2_with (at_builtin; refine list_app (P := Try.prog) (t := 42) Try.underlying42 pk_info rfl (by omega) (.tmp 20) (.tmp 22) (w.heap.size + 1) (n := m) (m := 1) (N := m + 1) rfl (by omega) hone (by omega) hE hR (by simpa using hz) (by rfl) (by rfl) (by rfl) (by rfl) ?_; intro A2 d2 W2 hown2 hgrow2 hat2)
        have hol := ownL_lt HO.out
        have kq := ((Chg.refl (ownL (.slice A1 m c1)) w2).alloc (.cells #[.int .i64 p.i, .int .i64 p.f, .int .i64 p.l, .int .i64 p.a, .int .i64 p.d] 24)).grown hgrow2 (fun j hj => .inl (mem_ownL.2 hj))
        have hqn : q ∉ ownL (.slice A1 m c1) := fun hm => absurd (hol _ hm).1 (by omega)
        have hQ2 := (HQ.out.chg HC.out (by simp)).chg kq hqn
        have hX2 := HX.out.chg kq (fun hm => absurd (hol _ hm).2 (by omega))
        obtain ⟨e2', e3', p2', f2', f3'⟩ := push_facts hQ2 hX2
        have HQ2 := Lib.hid hQ2
        clear hQ2 hX2
        go_region
        all_goals
          go_wp2_with fail
          have e9 : Chg [q] W2 (W2.setCell ⟨q, 3, none⟩ (.int .i64 (wrap64 (tot ps - tot (lates s (ps.take k)) - p.l)))).drew := ((Chg.refl [q] W2).setCell (p := ⟨q, 3, none⟩) (by simp) _).drew
          refine ⟨⟨k + 1, m + 1, A2, d2, by omega, by go_num, by rw [HT.out, List.length_append, ← HM.out]; rfl, rfl, ?_, ?_, ?_, ?_⟩, by simp [intOf]; omega⟩
          · rw [HT.out, List.flatMap_append]
            exact own_chg (by simpa [pkC] using hown2) e9 (fun x hx => by simp; rintro rfl; exact own_ne_blk hown2 HQ2.out (by decide) hx)
          · have a1 := block_lt_of_cell hs
            have a2 := HC.out.size
            have a3 := kq.size
            simp only at a1
            exact (e9.cell (p := ⟨w.heap.size, 0, none⟩) (by show w.heap.size < _; omega) (by simp; omega)).trans ((kq.cell (p := ⟨w.heap.size, 0, none⟩) (by show w.heap.size < _; omega) (fun hm => absurd (hol _ hm).1 (by show ¬ _ ≤ w.heap.size; omega))).trans ((HC.out.cell (p := ⟨w.heap.size, 0, none⟩) a1 (by simp)).trans hs))
          · exact ((hc.trans HC.out (by simp)).trans kq (fun x hx => .inr (by have := (hol _ hx).1; omega))).trans e9 (by simp)
          · have b1 := tot_bd hv
            have b2 := tot_split s ps
            have b3 := tot_bd (ps := lates s (ps.take k)) (fun x hx => hv x (List.mem_of_mem_take (List.mem_filter.1 hx).1))
            have b4 : (lates s (ps.take k)).length ≤ 64 := by rw [← HM.out]; omega
            have b5 := HN.out
            have b6 := vld_len (hv p (by rw [← HP.out]; simp [pkAt, hkl]))
            have b7 : tot (lates s (ps.take (k + 1))) = tot (lates s (ps.take k)) + p.l := by rw [HT.out, tot_append]; simp [tot]
            rw [b7, show wrap64 (tot ps - tot (lates s (ps.take k)) - p.l) = tot ps - (tot (lates s (ps.take k)) + p.l) from by unfold wrap64; omega]
            have b8 := (HQ2.out.set_ 3 (.int .i64 (tot ps - (tot (lates s (ps.take k)) + p.l)))).drew
            simp only [List.setIfInBounds_toArray, List.set_cons_succ, List.set_cons_zero] at b8
            exact b8
    · obtain rfl : k = n := by omega
      have ht : ps.take k = ps := List.take_of_length_le (by have := HN.out; omega)
      rw [ht] at hm hO hQ
      have y2 : wr.cell? ⟨q, 2, none⟩ = some (.slice (some ⟨g, 0, none⟩) k c) := (hQ.cell 2).trans rfl
      have hgl : g < w.heap.size := by obtain ⟨cs, h1, _⟩ := hp; exact h1.lt
      have HO := Lib.hid hO
      have HQ := Lib.hid hQ
      have HM := Lib.hid hm
      clear hO hQ hm
      go_wp2_with fail
      refine (delf_c HN.out hn6 hnc hcm (hD.chg hc (by simpa using hgq)) (hp.chg hc (by simpa using hgq)) hs (by omega)).mono ?_
      rintro e w2 ⟨rfl, hc2, m2, hD2⟩
      have hQ2 := HQ.out.chg hc2 (by simpa using fun h => hgq h.symm)
      have z2 : w2.cell? ⟨q, 2, none⟩ = some (.slice (some ⟨g, 0, none⟩) k c) := (hQ2.cell 2).trans rfl
      have z3 : w2.frozen? ⟨q, 2, none⟩ = false := hQ2.frozen 2
      have HQ2 := Lib.hid hQ2
      have HD2 := Lib.hid hD2
      clear hQ2 hD2
      go_wp2_with fail
      go_ret
      have e1 : Chg [g, q] w wr := hc.mono (by simp)
      have e2 : Chg [g, q] wr w2 := hc2.mono (by simp)
      have hol := ownL_lt HO.out
      have e3 : Chg [q] w2 (w2.setCell ⟨q, 2, none⟩ (.slice (some ⟨g, 0, none⟩) (stays s ps).length c)) := (Chg.refl [q] w2).setCell (p := ⟨q, 2, none⟩) (by simp) _
      have o2 := own_chg HO.out hc2 (fun x hx => by simp; rintro rfl; have := (hol _ (mem_ownL.2 hx)).1; omega)
      have o3 := own_chg o2 e3 (fun x hx => by simp; rintro rfl; have := (hol _ (mem_ownL.2 hx)).1; omega)
      have b8 := HQ2.out.set_ 2 (.slice (some ⟨g, 0, none⟩) (stays s ps).length c)
      simp only [List.setIfInBounds_toArray, List.set_cons_succ, List.set_cons_zero] at b8
      have b9 : tot ps - tot (lates s ps) = tot (stays s ps) := by have := tot_split s ps; omega
      rw [b9] at b8
      have hM := HM.out
      subst hM
      exact ⟨A1, c1, m2, rfl, o3, HD2.out.chg e3 (by simpa using hgq), b8, (e1.trans e2 (by simp)).setCell (p := ⟨q, 2, none⟩) (by simp) _⟩

end Go.Proofs.Ytdlehpohpdepkaa
