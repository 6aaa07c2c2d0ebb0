/- slices.DeleteFunc of packets at Expire's closure: the walk. -/
import Derived.Test.YtdlehpohpdepkaaQuX
namespace Go.Proofs.Ytdlehpohpdepkaa
open Go.RowKit
set_option linter.unusedVariables false
set_option linter.unusedSimpArgs false

/-- clear of n elements, at a plain region's list. -/
theorem list_clear_n {P : Program} {ops : Array Oper} {rest : List Oper} {o : Oper} {a : Act} {Q : Exit → Act → World → Prop} {w : World} {t e : TypeId} {z : Value} {b off n c : Nat} {cs : Array Value} (x : Operand)
    (ht : P.underlying t = some (.slice e)) (hv : ∀ w, (zeroValue e).run P w = .ok z w) (h1 : ∀ n, ∀ u ∈ (Builtin.zeroCells z.cells n).toList, u.oneCell' = true) (hn : 0 < n)
    (hb : Blk w b e cs) (hl : off + z.cells.size * n ≤ cs.size) (hgd : o.guard = none) (ho : o.op = .call { callee := .builtin .clear, args := #[x], argTypes := #[t] })
    (hx : a.eval x = .slice (some ⟨b, off, none⟩) n c) (h : wpList P ops Q rest (a.put o.dst (.tuple #[])) (w.setCells b off (Builtin.zeroCells z.cells n).toList)) : wpList P ops Q (o :: rest) a w := by
  refine wpList_plain hgd fun K hK => ?_
  have hrun := run_clear_n (P := P) w t e o.type z ht hv h1 b off n c hn (fun j hj => by rw [hb.cell, Array.getElem?_eq_getElem (by omega)]; rfl) (fun j hj => hb.frozen _)
  unfold Oper.wp
  simp [execOp, ho, resolve, invoke, builtin, hx, hrun, Result.andThen]
  exact hK _ _ h

theorem zero_one : ∀ n, ∀ u ∈ (Builtin.zeroCells (Value.agg #[.int .i64 0, .int .i64 0, .int .i64 0, .int .i64 0, .int .i64 0]).cells n).toList, u.oneCell' = true := by
  intro n u hu
  have h : u = .int .i64 0 := by
    obtain ⟨i, hi, rfl⟩ := List.getElem_of_mem hu
    simp only [Array.getElem_toList, Builtin.zeroCells, Value.cells, Array.getElem_ofFn]
    have h5 : ∀ m (h : m < 5), (#[Value.int .i64 0, .int .i64 0, .int .i64 0, .int .i64 0, .int .i64 0] : Array Value)[m]! = .int .i64 0 := by
      intro m h
      match m, h with
      | 0, _ => rfl
      | 1, _ => rfl
      | 2, _ => rfl
      | 3, _ => rfl
      | 4, _ => rfl
    have h6 := h5 (i % 5) (Nat.mod_lt _ (by omega))
    simpa using h6
  rw [h]
  rfl

theorem DF.at_ {w : World} {g c j : Nat} {l ps : List Pk} (h : DF w g c j l ps) {k : Nat} (hj : j ≤ k) (hk : k < ps.length) :
    w.cell? ⟨g, k * 5, none⟩ = some (.int .i64 (pkAt ps k).i) ∧ w.cell? ⟨g, k * 5 + 1, none⟩ = some (.int .i64 (pkAt ps k).f) ∧ w.cell? ⟨g, k * 5 + 2, none⟩ = some (.int .i64 (pkAt ps k).l) ∧ w.cell? ⟨g, k * 5 + 3, none⟩ = some (.int .i64 (pkAt ps k).a) ∧ w.cell? ⟨g, k * 5 + 4, none⟩ = some (.int .i64 (pkAt ps k).d) := by
  obtain ⟨cur, h1, _, _, h2⟩ := h
  have := fun r hr => (h1.cell (k * 5 + r)).trans (h2 k hj hk r hr)
  exact ⟨this 0 (by omega), this 1 (by omega), this 2 (by omega), this 3 (by omega), this 4 (by omega)⟩

theorem DF.first {w : World} {g c k : Nat} {ps : List Pk} (h : DF w g c 0 [] ps) (hk : k ≤ ps.length) (j : Nat) : DF w g c j (ps.take k) ps := by
  obtain ⟨cs, h1, h2, h3, h4⟩ := h
  refine ⟨cs, h1, h2, fun m hm r hr => ?_, fun m _ hn r hr => h4 m (Nat.zero_le _) hn r hr⟩
  simp at hm
  rw [pkAt_take (by omega)]
  exact h4 m (Nat.zero_le _) (by omega) r hr

/-- What lies behind the packets of l is no part of them. -/
theorem DF.tail {w : World} {g c j n : Nat} {l ps : List Pk} (h : DF w g c j l ps) (vs : List Value) (hv : l.length * 5 + vs.length ≤ c * 5) : DF (w.setCells g (l.length * 5) vs) g c ps.length l ps := by
  obtain ⟨cs, h1, h2, h3, h4⟩ := h
  obtain ⟨cs', k1, k2, k3⟩ := h1.setCells vs (l.length * 5) (by rw [h2]; exact hv)
  refine ⟨cs', k1, k2.trans h2, fun m hm r hr => ?_, fun m hm hn => absurd hn (by omega)⟩
  rw [k3, if_neg (by omega)]
  exact h3 m hm r hr

set_option maxRecDepth 100000 in
set_option maxHeartbeats 4000000 in
theorem delf_c {w : World} {g b n c : Nat} {s : Int} {ps : List Pk} (hn : ps.length = n) (hn6 : n ≤ 64) (hnc : n ≤ c) (hcm : c ≤ 9223372036854775807) (hD : DF w g c 0 [] ps) (hp : PB w g ps) (hs : w.cell? ⟨b, 0, none⟩ = some (.int .i64 s)) (hbg : b ≠ g) :
    Calls Try.prog 31 #[.slice (some ⟨g, 0, none⟩) n c, .func (.func 32) #[] #[.pointer (some ⟨b, 0, none⟩)]] w fun e w' =>
      e = .returned (.slice (some ⟨g, 0, none⟩) (stays s ps).length c) ∧ Chg [g] w w' ∧ ∃ m, DF w' g c m (stays s ps) ps := by
  have HN := Lib.hid hn
  clear hn
  have hgl : g < w.heap.size := by obtain ⟨cs, h1, _⟩ := hp; exact h1.lt
  go_enter Try.func31, Try.ntmps31
  go_wp2_with fail
  refine (idxf_c HN.out hn6 hp hs).mono ?_
  rintro e w1 ⟨hc1, k, hP, ⟨hkn, rfl⟩ | ⟨hkn, hlate, rfl⟩⟩
  · have HP := Lib.hid hP
    clear hP
    go_wp2_with fail
    go_ret
    have he : stays s ps = ps := by
      have := stays_all (s := s) (ps := ps) (k := ps.length) (Nat.le_refl _) (fun j hj => HP.out j (by have := HN.out; omega))
      simpa using this
    have hF := hD.first (k := ps.length) (Nat.le_refl _) 0
    rw [List.take_length] at hF
    rw [he, HN.out]
    exact ⟨rfl, hc1.mono (by simp), 0, hF.chg hc1 (by simp)⟩
  · have HP := Lib.hid hP
    clear hP
    have HL := Lib.hid hlate
    clear hlate
    have hd : ((k : Int) == -1) = false := by rw [beq_eq_false_iff_ne]; omega
    go_wp2_with fail
    go_loopw [5, 6] (fun vi vj wr => ∃ j : Nat, j ≤ n ∧ vj = .int .i64 j ∧ vi = .int .i64 ((stays s (ps.take j)).length : Nat) ∧ (stays s (ps.take j)).length < j ∧ Chg [g] w wr ∧ DF wr g c j (stays s (ps.take j)) ps) (fun _ vj _ => n - (intOf vj).toNat)
    case atStart =>
      have he : stays s (ps.take (k + 1)) = ps.take k := by
        rw [stays_snoc (by have := HN.out; omega), HL.out, stays_all (by have := HN.out; omega) HP.out]; rfl
      have hl : (ps.take k).length = k := by simp; have := HN.out; omega
      exact ⟨k + 1, by omega, by simp, by rw [he, hl], by rw [he, hl]; omega, hc1.mono (by simp), by rw [he]; exact (hD.first (by have := HN.out; omega) _).chg hc1 (by simp)⟩
    case round =>
      obtain ⟨j, hj, rfl, rfl, hij, hc, hF⟩ := hrel
      by_cases hlt : j < n
      · have hjl : j < ps.length := by have := HN.out; omega
        obtain ⟨c0, c1, c2, c3, c4⟩ := hF.at_ (k := j) (Nat.le_refl _) hjl
        have hs' : wr.cell? ⟨b, 0, none⟩ = some (.int .i64 s) := (hc.cell (p := ⟨b, 0, none⟩) (block_lt_of_cell hs) (by simpa using hbg)).trans hs
        have hgw : g < wr.heap.size := Nat.lt_of_lt_of_le hgl hc.size
        have HH := Lib.hid (fun W : World => expfn_c (pkAt ps j) b s W)
        have HT := Lib.hid (stays_snoc (s := s) hjl)
        have HF := Lib.hid hF
        have HP2 := Lib.hid (hF.put (by omega) hjl (by have := HN.out; omega))
        clear hF
        generalize hq : pkAt ps j = p at c0 c1 c2 c3 c4 HH HT HP2
        have HQ := Lib.hid hq
        clear hq
        have hI : (j : Int) < (n : Int) := by omega
        have hJ : (0 : Int) ≤ (j : Int) := by omega
        go_wp2_with fail
        refine (HH.out _ ((World.cell?_alloc_lt wr _ _ (block_lt_of_cell hs')).trans hs')).mono ?_
        rintro e w2 ⟨rfl, hc2⟩
        have hx := (Blk.new wr 24 #[.int .i64 p.i, .int .i64 p.f, .int .i64 p.l, .int .i64 p.a, .int .i64 p.d]).chg hc2 (by simp)
        have hcw : Chg [g] w w2 := hc.trans (((Chg.refl [] wr).alloc _).trans hc2 (by simp)) (by simp)
        have hcr : Chg [] wr w2 := ((Chg.refl [] wr).alloc _).trans hc2 (by simp)
        have HF2 := Lib.hid (HF.out.chg hcr (by simp))
        have HC := Lib.hid hcw
        obtain ⟨x0, x1, x2, x3, x4⟩ := pk5 hx
        cases hlb : lateB p.d s
        · obtain ⟨cs, q1, q2, _⟩ := id HF2.out.row
          have hz : ∀ r, r < 5 → ∃ v, w2.cell? ⟨g, (stays s (ps.take j)).length * 5 + r, none⟩ = some v := fun r hr => ⟨_, by rw [q1.cell, Array.getElem?_eq_getElem (by omega)]⟩
          obtain ⟨z0, y0⟩ := hz 0 (by omega)
          obtain ⟨z1, y1⟩ := hz 1 (by omega)
          obtain ⟨z2, y2⟩ := hz 2 (by omega)
          obtain ⟨z3, y3⟩ := hz 3 (by omega)
          obtain ⟨z4, y4⟩ := hz 4 (by omega)
          rw [Nat.add_zero] at y0
          have hf := fun r => q1.frozen r
          have HFZ := Lib.hid hf
          have f0 := HFZ.out ((stays s (ps.take j)).length * 5)
          have f1 := HFZ.out ((stays s (ps.take j)).length * 5 + 1)
          have f2 := HFZ.out ((stays s (ps.take j)).length * 5 + 2)
          have f3 := HFZ.out ((stays s (ps.take j)).length * 5 + 3)
          have f4 := HFZ.out ((stays s (ps.take j)).length * 5 + 4)
          clear hf hz
          have hK1 : (((stays s (ps.take j)).length : Nat) : Int) < (n : Int) := by omega
          have hK2 : (0 : Int) ≤ (((stays s (ps.take j)).length : Nat) : Int) := by omega
          have HPT := Lib.hid (HF2.out.put (by omega) hjl (by have := HN.out; omega))
          go_wp2_with fail
          go_roundw
          case rel =>
            have ht := HT.out
            rw [hlb] at ht
            simp only [Bool.false_eq_true, if_false] at ht
            have hw := HPT.out
            rw [HQ.out] at hw
            exact ⟨j + 1, by omega, by go_num, by rw [ht, List.length_append]; go_num, by rw [ht, List.length_append]; simp; omega, ((((((HC.out).setCell (by simp) _).setCell (by simp) _).setCell (by simp) _).setCell (by simp) _).setCell (by simp) _), by rw [ht]; exact hw⟩
          case measure => simp [intOf]; omega
        · go_wp2_with fail
          go_roundw
          case rel =>
            have ht := HT.out
            rw [hlb] at ht
            simp only [if_true] at ht
            exact ⟨j + 1, by omega, by go_num, by rw [ht], by rw [ht]; omega, HC.out, by rw [ht]; exact HF2.out.skip⟩
          case measure => simp [intOf]; omega
      · obtain rfl : j = n := by omega
        have ht : ps.take j = ps := List.take_of_length_le (by have := HN.out; omega)
        rw [ht] at hij hF ⊢
        obtain ⟨cs, q1, q2, _⟩ := id hF.row
        have hF' := hF.tail (n := j) (Builtin.zeroCells (Value.agg #[.int .i64 0, .int .i64 0, .int .i64 0, .int .i64 0, .int .i64 0]).cells (j - (stays s ps).length)).toList (by simp [zero_cells, Value.cells]; omega)
        have hcl := run_clear_n (P := Try.prog) wr 42 24 0 (.agg #[.int .i64 0, .int .i64 0, .int .i64 0, .int .i64 0, .int .i64 0]) Try.underlying42 pk_zero zero_one g ((stays s ps).length * 5) (j - (stays s ps).length) (c - (stays s ps).length) (by omega) (fun m hm => by simp [Value.cells] at hm; rw [q1.cell, Array.getElem?_eq_getElem (by omega)]; rfl) (fun m hm => q1.frozen _)
        have HF := Lib.hid hF'
        have hcw := hc.trans (Chg.setCells (S := [g]) (b := g) (.inl (by simp)) (Builtin.zeroCells (Value.agg #[.int .i64 0, .int .i64 0, .int .i64 0, .int .i64 0, .int .i64 0]).cells (j - (stays s ps).length)).toList ((stays s ps).length * 5) (Chg.refl [g] wr)) (by simp)
        clear hF' hF q1 q2
        generalize hlq : stays s ps = l at *
        have HG := Lib.hid hlq
        clear hlq
        generalize (Builtin.zeroCells (Value.agg #[.int .i64 0, .int .i64 0, .int .i64 0, .int .i64 0, .int .i64 0]).cells (j - l.length)).toList = zs at *
        go_wp2_with fail
        go_ret
        exact ⟨by rw [HG.out]; rfl, hcw, _, by rw [HG.out]; exact HF.out⟩

end Go.Proofs.Ytdlehpohpdepkaa
