/- The reference's receiver: Set of the bitmap's reference, Acks, Holds. -/
import Derived.Test.YtgkdlplocahnnaaRs
import Derived.Test.YtgkdlplocahnnaaRt
namespace Go.Proofs.Ytgkdlplocahnnaa
open Go.RowKit Go.Maps
set_option linter.unusedVariables false
set_option linter.unusedSimpArgs false

set_option maxHeartbeats 1000000 in
theorem rset_ok (base b seq : Int) (w : World) (h0 : 0 ≤ b) (h1 : b < 18446744073709551616) (h2 : 0 ≤ base ∧ base < 65536) (h4 : 0 ≤ seq ∧ seq < 65536) (h6 : dst base seq < 64) :
    Calls Try.prog 43 #[.agg #[.int .i64 base, .int .u64 b], .int .i64 seq] w fun e w' => e = .returned (.tuple #[.agg #[.int .i64 base, .int .u64 (bits .or .u64 b (IntKind.u64.wrap (2 ^ (dst base seq).toNat)))], .int .i64 0]) ∧ Chg [] w w' := by
  have hd := dst_bd base seq
  have HD := Lib.hid (fun W => rdist_ok base seq W h2 h4)
  have hw := wrap_dst6 (dst base seq) hd.1 hd.2
  generalize dst base seq = d at hd HD h6 hw ⊢
  go_enter Try.func43, Try.ntmps43
  go_wp2_with fail
  refine (HD.out _).mono ?_
  rintro e w1 ⟨rfl, rfl⟩
  go_wp2_with fail
  try go_region
  all_goals
    go_wp2_with fail
    refine bodyPost_ret (v := .tuple #[.agg #[.int .i64 base, .int .u64 (bits .or .u64 b (IntKind.u64.wrap (2 ^ d.toNat)))], .int .i64 0]) (by simp [results, Try.results43, go_sem, *]) rfl ⟨rfl, ?_⟩
    repeat (first | (with_reducible exact Chg.refl _ _) | (with_reducible refine Chg.alloc ?_ _) | (with_reducible refine Chg.drew ?_) | ((with_reducible refine Chg.setCell ?_ ?hp _); case hp => simp))
theorem rset_c (base b seq : Int) (w : World) (h0 : 0 ≤ b) (h1 : b < 18446744073709551616) (h2 : 0 ≤ base ∧ base < 65536) (h4 : 0 ≤ seq ∧ seq < 65536) (h6 : dst base seq < 64) :
    Calls Try.prog 43 #[.agg #[.int .i64 base, .int .u64 b], .int .i64 seq] w fun e w' => e = .returned (.tuple #[.agg #[.int .i64 base, .int .u64 (orB b (dst base seq).toNat)], .int .i64 0]) ∧ Chg [] w w' := rset_ok base b seq w h0 h1 h2 h4 h6

set_option maxHeartbeats 1000000 in
theorem rholds_c {w : World} {B s : Nat} {O : List Nat} {wd x : Int} {ps : List Hd} (h : RF w B s O wd x ps) (id : Int) :
    Calls Try.prog 38 #[.pointer (some ⟨s, 0, none⟩), .int .i64 id] w fun e w' => e = .returned (.bool (ps.any fun p => p.i == id)) ∧ Chg [] w w' := by
  obtain ⟨A, c, h9, h10⟩ := h.split
  have hl := h.hl
  have e3 := (h9.cell 2).trans rfl
  obtain ⟨n, hn⟩ : ∃ n, ps.length = n := ⟨_, rfl⟩
  have HN := Lib.hid hn
  rw [hn] at e3 hl
  clear hn h9 h
  go_enter Try.func38, Try.ntmps38
  go_wp2
  go_loopw [5] (fun i wr => ∃ k : Nat, k ≤ n ∧ i = .int .i64 k ∧ Chg [] w wr ∧ Hid ((ps.take k).any (fun p => p.i == id) = false)) (fun i _ => n - (intOf i).toNat)
  case atStart => exact ⟨0, Nat.zero_le _, rfl, Chg.refl _ _, Lib.hid (by simp)⟩
  case round =>
    obtain ⟨k, hk, rfl, hc, HA⟩ := hrel
    have e4 := (hc.cell (p := ⟨s, 2, none⟩) (block_lt_of_cell e3) (by simp)).trans e3
    by_cases hlt : k < n
    · have hkl : k < ps.length := by have := HN.out; omega
      rcases h10 with ⟨_, _, h0⟩ | ⟨g, rfl, hg, hgO, hgs, hr⟩
      · exact absurd hkl (by rw [h0]; simp)
      · obtain ⟨c0, c1⟩ := row_hd (hr.chg hc (by simp)) hkl
        have HS := Lib.hid (show (ps.take (k + 1)).any (fun p => p.i == id) = (ps[k].i == id) from by rw [List.take_succ_eq_append_getElem hkl, List.any_append, HA.out]; simp)
        have HM := Lib.hid (show (ps[k].i == id) = true → ps.any (fun p => p.i == id) = true from fun h => List.any_eq_true.2 ⟨ps[k], by simp, h⟩)
        generalize ps[k] = p at c0 c1 HS HM
        have hI : (k : Int) < (n : Int) := by omega
        have hJ : (0 : Int) ≤ (k : Int) := by omega
        have HC := Lib.hid hc
        clear hr hc
        by_cases hq : p.i = id
        · have hq' : (p.i == id) = true := by simpa using hq
          have HMM := Lib.hid (HM.out hq')
          clear hq
          go_wp2_with fail
          go_ret
          exact ⟨ret_bool HMM.out.symm, HC.out⟩
        · have hq' : (p.i == id) = false := by simpa using hq
          have HSS := Lib.hid (HS.out.trans hq')
          clear hq
          go_wp2_with fail
          go_roundw
          case rel => exact ⟨k + 1, by omega, by go_num, HC.out, HSS⟩
          case measure => simp [intOf]; omega
    · have hge : (n : Int) ≤ (k : Int) := by omega
      have HF := Lib.hid (show ps.any (fun p => p.i == id) = false from by have := HA.out; rwa [List.take_of_length_le (by have := HN.out; omega)] at this)
      go_wp2_with fail
      go_ret
      exact ⟨ret_bool HF.out.symm, hc⟩

set_option maxRecDepth 100000 in
set_option maxHeartbeats 4000000 in
theorem racks_c {w : World} {B s : Nat} {O : List Nat} {wd x : Int} {H : Int → Option Int} (h : RF w B s O wd x (lst x H)) (hBd : Bd x wd H) :
    Calls Try.prog 36 #[.pointer (some ⟨s, 0, none⟩)] w (AcksPost w x H) := by
  obtain ⟨A, c, h9, h10⟩ := h.split
  have e1 := (h9.cell 1).trans rfl
  have e2 := (h9.cell 2).trans rfl
  have hx := h.hx
  have hw64 := h.hw.2
  have hsl := h9.lt
  obtain ⟨n, hn⟩ : ∃ n, (lst x H).length = n := ⟨_, rfl⟩
  have hn64 : n ≤ 64 := by have := lst_le x H; omega
  have HN := Lib.hid hn
  rw [hn] at e2
  have HM := Lib.hid (mem_lst hBd hx hw64)
  have HB := Lib.hid hBd
  have k2 : Chg [] w ((w.alloc (.cells #[.int .i64 0, .int .u64 0] 39)).alloc (.cells #[.int .i64 x, .int .u64 0] 39)) := ((Chg.refl [] w).alloc _).alloc _
  have bR : Blk ((w.alloc (.cells #[.int .i64 0, .int .u64 0] 39)).alloc (.cells #[.int .i64 x, .int .u64 0] 39)) w.heap.size 39 #[.int .i64 0, .int .u64 0] := (Blk.new _ _ _).alloc _
  have bM : Blk ((w.alloc (.cells #[.int .i64 0, .int .u64 0] 39)).alloc (.cells #[.int .i64 x, .int .u64 0] 39)) (w.heap.size + 1) 39 #[.int .i64 x, .int .u64 0] := by simpa using Blk.new (w.alloc (.cells #[.int .i64 0, .int .u64 0] 39)) 39 #[.int .i64 x, .int .u64 0]
  have K2 := Lib.hid k2
  have BR := Lib.hid bR
  have BM := Lib.hid bM
  clear h hn h9 hBd k2 bR bM
  go_enter Try.func36, Try.ntmps36
  go_wp2_with fail
  go_loopw [4] (fun v wr => ∃ (k : Nat) (b : Int), k ≤ n ∧ v = .int .i64 k ∧ Hid (BitsP b (fun j => ∃ i, ∃ hi : i < (lst x H).length, i < k ∧ dst x (lst x H)[i].q = j)) ∧ Chg [] w wr ∧ Blk wr w.heap.size 39 #[.int .i64 0, .int .u64 0] ∧ Blk wr (w.heap.size + 1) 39 #[.int .i64 x, .int .u64 b]) (fun v _ => n - (intOf v).toNat)
  case atStart => exact ⟨0, 0, by omega, rfl, Lib.hid (.zero fun j hj ⟨i, _, h, _⟩ => absurd h (by omega)), K2.out, BR.out, BM.out⟩
  case round =>
    clear K2 BR BM
    obtain ⟨k, b, hk, rfl, HBit, hc, hbR, hbM⟩ := hrel
    have e3 := (hc.cell (p := ⟨s, 2, none⟩) (block_lt_of_cell e2) (by simp)).trans e2
    have z0 := (hbM.cell 0).trans rfl
    have z1 := (hbM.cell 1).trans rfl
    have HC := Lib.hid hc
    have HbR := Lib.hid hbR
    have HbM := Lib.hid hbM
    have hml := hbM.lt
    by_cases hlt : k < n
    · have hkl : k < (lst x H).length := by have := HN.out; omega
      rcases h10 with ⟨_, _, h0⟩ | ⟨g, rfl, hg, hgO, hgs, hr⟩
      · exact absurd hkl (by rw [h0]; simp)
      · obtain ⟨c0, c1⟩ := row_hd (hr.chg hc (by simp)) hkl
        have hmk := HB.out _ _ ((HM.out (lst x H)[k]).1 (by simp))
        have HBit2 := Lib.hid (show BitsP (orB b (dst x (lst x H)[k].q).toNat) (fun j => ∃ i, ∃ hi : i < (lst x H).length, i < k + 1 ∧ dst x (lst x H)[i].q = j) from by
          have hdb := dst_bd x (lst x H)[k].q
          refine (HBit.out.set (d := (dst x (lst x H)[k].q).toNat) (by omega)).iff fun j _ => ?_
          constructor
          · rintro (⟨i, hi, h1, h2⟩ | rfl)
            · exact ⟨i, hi, by omega, h2⟩
            · exact ⟨k, hkl, by omega, by omega⟩
          · rintro ⟨i, hi, h1, h2⟩
            by_cases e : i = k
            · subst e; exact .inr (by omega)
            · exact .inl ⟨i, hi, by omega, h2⟩)
        generalize (lst x H)[k] = p at c0 c1 hmk HBit2
        have hI : (k : Int) < (n : Int) := by omega
        have hJ : (0 : Int) ≤ (k : Int) := by omega
        have hb0 := HBit.out.1
        have hb1 := HBit.out.2.1
        have HSet := Lib.hid (fun W : World => rset_c x b p.q W hb0 hb1 hx hmk.1 (by omega))
        obtain ⟨b2, hb2⟩ : ∃ b2, orB b (dst x p.q).toNat = b2 := ⟨_, rfl⟩
        rw [hb2] at HSet HBit2
        clear hr hc hbR hbM hb2 hmk
        go_wp2_with fail
        go_region_with ((go_at_call 43; refine (HSet.out _).mono ?_; rintro e w2 ⟨rfl, hcs⟩; have hbM2 := HbM.out.drew.chg hcs (by simp); have y0 := (hbM2.cell 0).trans rfl; have y1 := (hbM2.cell 1).trans rfl; have yf0 := hbM2.frozen 0; have yf1 := hbM2.frozen 1))
        all_goals
          have hst : Chg [w.heap.size + 1] w2 ((w2.setCell ⟨w.heap.size + 1, 0, none⟩ (.int .i64 x)).setCell ⟨w.heap.size + 1, 1, none⟩ (.int .u64 b2)) := ((Chg.refl _ _).setCell (by simp) _).setCell (by simp) _
          have hbM3 := (hbM2.set_ 0 (.int .i64 x)).set_ 1 (.int .u64 b2)
          simp only [List.setIfInBounds_toArray, List.set_cons_succ, List.set_cons_zero] at hbM3
          have HK3 := Lib.hid (((HC.out.drew).trans hcs (by simp)).trans hst (by simp))
          have HR3 := Lib.hid ((HbR.out.drew.chg hcs (by simp)).chg hst (by simp))
          have HM3 := Lib.hid hbM3
          clear hst hbM3 hcs hbM2
          go_wp2_with fail
          exact ⟨⟨k + 1, b2, by omega, by go_num, HBit2, HK3.out, HR3.out, HM3.out⟩, by simp [intOf]; omega⟩
    · have hge : (n : Int) ≤ (k : Int) := by omega
      have y0 := (hbR.cell 0).trans rfl
      have y1 := (hbR.cell 1).trans rfl
      have yf0 := hbR.frozen 0
      have yf1 := hbR.frozen 1
      clear hc hbR hbM
      go_wp2_with fail
      refine bodyPost_ret (v := .agg #[.int .i64 x, .int .u64 b]) (by simp [results, Try.results36, go_sem, *]) rfl ⟨b, rfl, HBit.out.iff (fun j hj => ?_), ?_⟩
      · constructor
        · rintro ⟨i, hi, h1, h2⟩
          have h3 := (HM.out (lst x H)[i]).1 (by simp)
          have h4 := HB.out _ _ h3
          exact ⟨(lst x H)[i].q, wfI_of (by omega) (by omega), by rw [h3]; simp, h2⟩
        · rintro ⟨q, h1, h2, h3⟩
          cases hh : H q with
          | none => exact absurd hh h2
          | some v =>
            obtain ⟨i, hi, he⟩ := List.getElem_of_mem ((HM.out ⟨q, v⟩).2 hh)
            exact ⟨i, hi, by have := HN.out; omega, by rw [he]; exact h3⟩
      · repeat (first | (with_reducible exact HC.out) | ((with_reducible refine Chg.setCell ?_ ?hp _); case hp => simp))

end Go.Proofs.Ytgkdlplocahnnaa
