/- The round of deficits: slices.Delete of one station; Leave. -/
import Derived.Test.YtmbmejobffpaoaaDc
import Derived.Test.YtmbmejobffpaoaaDel
namespace Go.Proofs.Ytmbmejobffpaoaa
open Go.RowKit
set_option linter.unusedVariables false
set_option linter.unusedSimpArgs false

/-- append where there is room, of one-cell elements, the row in the midst of its block. -/
theorem step_room1 {P : Program} {ops : Array Oper} {o : Oper} {a : Act} {w : World} {K : Act → World → Prop} {Q : Exit → Act → World → Prop} {E : Prop} {t e : TypeId} {z : Value} {bytes : Nat}
    (ht : P.underlying t = some (.slice e)) (hinfo : (P.info? e).map (fun i => (i.zero, i.size, i.bytes)) = some (some z, 1, bytes)) (s x : Operand)
    {g off n cap m c N : Nat} {A : Option Addr} {B : Nat} {news : List Value} {cs : Array Value} (hN : n + m = N) (h1 : ∀ u ∈ news, u.oneCell' = true) (hb : Blk w g e cs) (hcs : off + cap ≤ cs.size) (hroom : N ≤ cap)
    (hr : Reads w B 1 A m news) (hgd : o.guard = none) (hop : o.op = .call { callee := .builtin .append, args := #[s, x], argTypes := #[t, t] })
    (hs : a.eval s = .slice (some ⟨g, off, none⟩) n cap) (hx : a.eval x = .slice A m c) (hm : ∃ ad, A = some ad)
    (hK : K (a.put o.dst (.slice (some ⟨g, off, none⟩) N cap)) (w.setCells g (off + n) news)) :
    if Region.wanted o (yielded ops a.tmps) = true then Oper.wp P o a w K Q else E := by
  obtain ⟨i, hi, hzz⟩ := Option.map_eq_some_iff.1 hinfo
  simp only [Prod.mk.injEq] at hzz
  obtain ⟨hz, hs1, hby⟩ := hzz
  subst hN
  obtain ⟨ad, hA⟩ := hm
  subst hA
  have hc : ∀ j u, news[j]? = some u → w.cell? (ad.add j) = some u := by
    intro j u hu
    rcases Nat.eq_zero_or_pos m with h0 | h0
    · subst h0
      have hn : news = [] := List.eq_nil_of_length_eq_zero (by simpa using hr.1)
      subst hn
      simp at hu
    · obtain ⟨ad', h, _, hc⟩ := hr.2 h0
      injection h with h
      subst h
      exact hc j u hu
  have hlen : news.length = m := by have := hr.1; omega
  refine step_append_room hgd s x t hop e i 1 ht hi hs1 g off n cap hs ad m c news hx hr.1 hc h1 hroom (fun j hj => ?_) (by rw [Nat.mul_one]; exact hK)
  rw [Nat.mul_one]
  exact ⟨by rw [hb.cell, Array.getElem?_eq_getElem (by omega)]; rfl, hb.frozen _⟩

theorem SR.reads {w : World} {e : TypeId} {A : Option Addr} {n c : Nat} {xs : List Value} (h : SR w e A n c xs) : Reads w w.heap.size 1 A n xs := by
  refine ⟨by rw [h.1, Nat.mul_one], fun hn => ?_⟩
  rcases h.2 with ⟨_, h2, _⟩ | ⟨g, off, cs, rfl, h3, h4, h5, h6, h7⟩
  · omega
  · refine ⟨_, rfl, h3.lt, fun j u hu => ?_⟩
    have hadd : (⟨g, off, none⟩ : Addr).add j = ⟨g, off + j, none⟩ := by
      unfold Addr.add
      split
      · subst_vars; rfl
      · rfl
    rw [hadd, h3.cell]
    exact h7 j u hu

theorem sp_zero (w : World) : (zeroValue 52).run Try.prog w = .ok (.pointer none) w := by kernel_rfl

set_option maxRecDepth 100000 in
set_option maxHeartbeats 2000000 in
theorem ddel_c {w : World} {g off k cap i : Nat} {xs : List Value} (h : SR w 52 (some ⟨g, off, none⟩) (k + 1) cap xs) (hi : i < k + 1) (hn2 : k ≤ 1000) (hone : ∀ u ∈ xs, u.oneCell' = true) :
    Calls Try.prog 28 #[.slice (some ⟨g, off, none⟩) (k + 1) cap, .int .i64 (i : Nat), .int .i64 ((i : Int) + 1)] w fun e w' => e = .returned (.slice (some ⟨g, off, none⟩) k cap) ∧
      SR w' 52 (some ⟨g, off, none⟩) k cap (xs.eraseIdx i) ∧ Chg [g] w w' := by
  have hread := h.reads
  have hl := h.1
  obtain ⟨hn, hcap⟩ := h.le
  have hb0 : ∃ cs, Blk w g 52 cs ∧ off + cap ≤ cs.size ∧ ∀ j u, xs[j]? = some u → cs[off + j]? = some u := by
    rcases h.2 with ⟨h2, _⟩ | ⟨g', off', cs, h2, h3, h4, h5, h6, h7⟩
    · cases h2
    · injection h2 with h2
      injection h2 with h2 h2'
      subst h2
      subst h2'
      exact ⟨cs, h3, h6, h7⟩
  obtain ⟨cur, hb, hcs, hxs⟩ := hb0
  clear h
  have b1 : (0 : Int) ≤ (i : Int) := by omega
  have b2 : (i : Int) ≤ (i : Int) + 1 := by omega
  have b3 : (i : Int) + 1 ≤ (k : Int) + 1 := by omega
  have b4 : (k : Int) + 1 ≤ (cap : Int) := by omega
  have b5 : (i : Int) ≤ (cap : Int) := by omega
  have b6 : (0 : Int) ≤ (i : Int) + 1 := by omega
  have b7 : ((i : Int) == (i : Int) + 1) = false := by rw [beq_eq_false_iff_ne]; omega
  have b8 : ((i : Int) + 1).toNat = i + 1 := by omega
  obtain ⟨A2, hA2, hr2, hs2⟩ : ∃ A2, (if cap = i + 1 then some ({ block := g, off := off } : Addr) else some { block := g, off := off + (i + 1) }) = A2 ∧ Reads w w.heap.size 1 A2 (k - i) (xs.drop (i + 1)) ∧ ∃ ad, A2 = some ad := by
    refine ⟨_, rfl, ?_, ?_⟩
    · have := hread.cut (k := i + 1) (cap := cap) (by omega) hn
      simpa [Addr.add] using this
    · split <;> exact ⟨_, rfl⟩
  have hone2 : ∀ u ∈ xs.drop (i + 1), u.oneCell' = true := fun u hu => hone u (List.mem_of_mem_drop hu)
  have b9 : ¬ cap = k := by omega
  have b10 : (k : Int) ≤ (k : Int) + 1 := by omega
  have b11 : (k : Int) ≤ (cap : Int) := by omega
  have HX := Lib.hid hxs
  have HL := Lib.hid hl
  clear hxs hl hread hone
  go_enter Try.func28, Try.ntmps28
  go_wp2_with fail
  go_region_held3 (fun w' => True) (trivial) ((refine step_room1 (P := Try.prog) (t := 51) Try.underlying51 st_info (.tmp 22) (.tmp 25) (n := i) (m := k - i) (N := k) (by omega) hone2 hb.drew hcs (by omega) hr2.drew (by rfl) (by rfl) (by rfl) (by rfl) hs2 ?_))
  have hlen : (xs.drop (i + 1)).length = k - i := by
    rw [List.length_drop, HL.out]
    omega
  obtain ⟨cs1, hb1, hs1, hc1⟩ := hb.setCells (xs.drop (i + 1)) (off + i) (by rw [hlen]; omega)
  have HC1 := Lib.hid hc1
  have HS1 := Lib.hid hs1
  clear hc1 hs1
  go_wp2_with (refine list_clear (P := Try.prog) (t := 51) (c := cap - k) (.tmp 31) Try.underlying51 sp_zero (by intro u hu; simp [Value.cells] at hu; subst hu; rfl) hb1.drew (off := off + k) (by rw [HS1.out]; simp [Value.cells]; omega) (by rfl) (by rfl) (by rfl) ?_)
  go_ret
  have hs1 := HS1.out
  have hc1 := HC1.out
  obtain ⟨cs2, hb2, hs2, hc2⟩ := hb1.setCells (Value.pointer none).cells.toList (off + k) (by rw [hs1]; simp [Value.cells]; omega)
  refine ⟨rfl, ⟨by rw [List.length_eraseIdx, HL.out, if_pos hi]; omega, .inr ⟨g, off, cs2, rfl, hb2.drew, by omega, hcap, by omega, fun j u hu => ?_⟩⟩, ?_⟩
  · have hj : j < k := by
      rcases Nat.lt_or_ge j k with hj | hj
      · exact hj
      · rw [List.getElem?_eq_none (by rw [List.length_eraseIdx, HL.out, if_pos hi]; omega)] at hu
        cases hu
    rw [hc2, if_neg (by omega), hc1, hlen]
    rw [List.getElem?_eraseIdx] at hu
    by_cases h1 : j < i
    · rw [if_neg (by omega)]
      rw [if_pos h1] at hu
      exact HX.out j u hu
    · rw [if_pos (by omega), List.getElem?_drop, show i + 1 + (off + j - (off + i)) = j + 1 from by omega]
      rw [if_neg h1] at hu
      exact hu
  · exact (Chg.setCells (by simp) _ _ (Chg.setCells (by simp) _ _ (Chg.refl [g] w))).drew

theorem ptrs_one (M : List (Nat × Sd)) : ∀ u ∈ ptrs M, u.oneCell' = true := by
  intro u hu
  obtain ⟨m, _, rfl⟩ := List.mem_map.1 hu
  rfl
theorem ptrs_erase (M : List (Nat × Sd)) (i : Nat) : ptrs (M.eraseIdx i) = (ptrs M).eraseIdx i := by
  unfold ptrs
  rw [List.eraseIdx_eq_take_drop_succ, List.eraseIdx_eq_take_drop_succ, List.map_append, List.map_take, List.map_drop]

set_option maxHeartbeats 1000000 in
theorem dleave_none {w : World} {B r : Nat} {O : List Nat} {q now x : Int} {L : List Sd} (h : DA w B r O q L now) (hl : L.length ≤ 1000) (hs : sid x L = none) :
    Calls Try.prog 19 #[.pointer (some ⟨r, 0, none⟩), .int .i64 x] w fun e w' => e = .returned (.int .i64 6) ∧ Chg [] w w' := by
  have HF := Lib.hid (dfind_c h (by omega) x)
  rw [sidI_none hs] at HF
  clear h hs
  go_enter Try.func19, Try.ntmps19
  go_wp2_with fail
  refine HF.out.mono ?_
  rintro e w1 ⟨rfl, hc1⟩
  go_wp2_with fail
  go_ret
  exact ⟨rfl, hc1⟩

set_option maxHeartbeats 2000000 in
theorem dleave_m {w : World} {B r c k : Nat} {O : List Nat} {q x : Int} {M : List (Nat × Sd)} {A sn : Option Addr} (h : DM w B r O q M A c sn) (hl : M.length ≤ 1000) (hs : sid x (vw M) = some k) :
    Calls Try.prog 19 #[.pointer (some ⟨r, 0, none⟩), .int .i64 x] w fun e w' => e = .returned (.int .i64 0) ∧ DM w' B r O q (M.eraseIdx k) A c none ∧ Chg (r :: O) w w' := by
  have HF := Lib.hid (dfind_m h (by omega) x)
  rw [sidI_some hs] at HF
  have hkm : k < M.length := by have := (sid_spec hs).1; rw [vw_len] at this; exact this
  obtain ⟨n, hn⟩ : ∃ n, M.length = n + 1 := ⟨M.length - 1, by omega⟩
  obtain ⟨g, off, rfl, hg, hcc⟩ := h.cell hkm
  have HH := Lib.hid h
  have HN := Lib.hid hn
  have hkn : k < n + 1 := by omega
  have hnl : n ≤ 1000 := by omega
  clear hcc h hs hkm hn hl
  go_enter Try.func19, Try.ntmps19
  go_wp2_with fail
  refine HF.out.mono ?_
  rintro e w1 ⟨rfl, hc1⟩
  have h1 := HH.out.chg hc1 (by simp) (by simp)
  have hr := h1.hr
  have hw := h1.row.1
  rw [HN.out] at hr hw
  have e1 := (hr.cell 1).trans rfl
  have HR := Lib.hid hr
  have hgr : g ≠ r := fun e => h1.rO (e ▸ hg)
  have H1 := Lib.hid h1
  have HC := Lib.hid hc1
  have hwr : IntKind.i64.wrap ((k : Int) + 1) = (k : Int) + 1 := by rw [IntKind.wrap_i64]; omega
  clear h1 hc1 hr
  go_wp2_with fail
  refine (ddel_c hw hkn hnl (ptrs_one M)).mono ?_
  rintro e w2 ⟨rfl, hS2, hc2⟩
  have hr2 := HR.out.chg hc2 (by simp; exact hgr.symm)
  have e1' := (hr2.cell 1).trans rfl
  have f1 := hr2.frozen 1
  have e2 := (hr2.cell 2).trans rfl
  have f2 := hr2.frozen 2
  go_wp2_with fail
  go_ret
  have h1 := H1.out
  refine ⟨rfl, DM.setsn (DM.put h1.Br hr2 (by rw [List.length_eraseIdx, HN.out, if_pos hkn]; omega) (by rw [ptrs_erase]; exact hS2) h1.row.2 h1.rO (fun j hj => ⟨(h1.BO j hj).1, Nat.lt_of_lt_of_le (h1.BO j hj).2 hc2.size⟩) (fun m hm => ?_) ?_), ?_⟩
  · have hm := List.mem_of_mem_eraseIdx hm
    exact ⟨(h1.st m hm).1, (h1.st m hm).2.chg hc2 (by have := h1.ne hm; simpa [blkL] using this)⟩
  · refine List.Nodup.sublist ?_ h1.nd
    exact List.Sublist.map _ (List.eraseIdx_sublist _ _)
  · exact (((HC.out.mono (S' := r :: O) (by simp)).trans hc2 (by simp [hg])).setCell (by simp) _).setCell (by simp) _

theorem dleave_c {w : World} {B r k : Nat} {O : List Nat} {q now x : Int} {L : List Sd} (h : DA w B r O q L now) (hl : L.length ≤ 1000) (hs : sid x L = some k) :
    Calls Try.prog 19 #[.pointer (some ⟨r, 0, none⟩), .int .i64 x] w fun e w' => e = .returned (.int .i64 0) ∧ DA w' B r O q (L.eraseIdx k) (-1) ∧ Chg (r :: O) w w' := by
  obtain ⟨M, A, c, sn, h1, rfl, h2⟩ := h
  refine (dleave_m h1 (by rw [vw_len] at hl; exact hl) hs).mono ?_
  rintro e w' ⟨rfl, h3, h5⟩
  refine ⟨rfl, ⟨_, A, c, none, h3, ?_, .inl ⟨rfl, rfl⟩⟩, h5⟩
  unfold vw
  rw [List.eraseIdx_eq_take_drop_succ, List.eraseIdx_eq_take_drop_succ, List.map_append, List.map_take, List.map_drop]

end Go.Proofs.Ytmbmejobffpaoaa
