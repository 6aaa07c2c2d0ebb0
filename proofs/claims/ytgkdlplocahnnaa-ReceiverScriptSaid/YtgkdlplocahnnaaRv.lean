/- The receiver: its state as a window, a number and a map; New, next. -/
import Derived.Test.YtgkdlplocahnnaaRm
import Derived.Test.YtgkdlplocahnnaaApp
import Derived.StillTailTactics
namespace Go.Proofs.Ytgkdlplocahnnaa
open Go.RowKit Go.Maps
set_option linter.unusedVariables false
set_option linter.unusedSimpArgs false

/-- Block r is a receiver: its window, the expected number, the packets held in the map of block m. -/
structure RV (w : World) (B r m n : Nat) (wd x : Int) (H : Int → Option Int) : Prop where
  Br : B ≤ r
  Bm : B ≤ m
  rm : r ≠ m
  hw : 1 ≤ wd ∧ wd ≤ 64
  hx : 0 ≤ x ∧ x < 65536
  hr : Blk w r 58 #[.int .i64 wd, .int .i64 x, .map (some m)]
  hm : MF w m n H

section
variable {w w' : World} {B r m n : Nat} {wd x : Int} {H : Int → Option Int}
theorem RV.chg {S : List Nat} (h : RV w B r m n wd x H) (hc : Chg S w w') (hr : r ∉ S) (hm : m ∉ S) : RV w' B r m n wd x H :=
  ⟨h.Br, h.Bm, h.rm, h.hw, h.hx, h.hr.chg hc hr, h.hm.chg hc hm⟩
theorem RV.lt (h : RV w B r m n wd x H) : r < w.heap.size := h.hr.lt
theorem RV.mlt (h : RV w B r m n wd x H) : m < w.heap.size := h.hm.lt
theorem RV.mono {n' : Nat} (h : RV w B r m n wd x H) (hn : n ≤ n') : RV w B r m n' wd x H := ⟨h.Br, h.Bm, h.rm, h.hw, h.hx, h.hr, h.hm.mono hn⟩
theorem RV.setx (h : RV w B r m n wd x H) {x' : Int} (hx : 0 ≤ x' ∧ x' < 65536) : RV (w.setCell ⟨r, 1, none⟩ (.int .i64 x')) B r m n wd x' H := by
  have hc : Chg [r] w (w.setCell ⟨r, 1, none⟩ (.int .i64 x')) := (Chg.refl [r] w).setCell (by simp) _
  refine ⟨h.Br, h.Bm, h.rm, h.hw, hx, ?_, h.hm.chg hc (by simp; exact h.rm.symm)⟩
  have := h.hr.set_ 1 (.int .i64 x')
  simpa only [List.setIfInBounds_toArray, List.set_cons_succ, List.set_cons_zero] using this
theorem wf_seq {k : Int} (h : 0 ≤ k ∧ k < 65536) : wfI k := wfI_of (by omega) (by omega)
end

set_option maxHeartbeats 400000 in
theorem rvnew_raw (n : Int) (h1 : 1 ≤ n) (h2 : n ≤ 64) (w : World) :
    Calls Try.prog 9 #[.int .i64 n] w fun e w' => e = .returned (.tuple #[.pointer (some ⟨w.heap.size + 1, 0, none⟩), .int .i64 0]) ∧
      w' = (w.alloc (.map #[] 0)).alloc (.cells #[.int .i64 n, .int .i64 0, .map (some w.heap.size)] 58) := by
  have hmm := @run_makeMap Try.prog
  go_enter Try.func9, Try.ntmps9
  go_wp2
  go_ret2
  exact ⟨rfl, rfl⟩

theorem rvnew_c (n : Int) (h1 : 1 ≤ n) (h2 : n ≤ 64) (w : World) {B : Nat} (hB : B ≤ w.heap.size) :
    Calls Try.prog 9 #[.int .i64 n] w fun e w' => ∃ r m, e = .returned (.tuple #[.pointer (some ⟨r, 0, none⟩), .int .i64 0]) ∧ RV w' B r m 0 n 0 (fun _ => none) ∧ w.heap.size ≤ r ∧ w.heap.size ≤ m ∧ Chg [] w w' := by
  refine (rvnew_raw n h1 h2 w).mono ?_
  rintro e w' ⟨rfl, rfl⟩
  have k1 : Chg [] w (w.alloc (.map #[] 0)) := (Chg.refl _ _).alloc _
  refine ⟨w.heap.size + 1, w.heap.size, rfl, ⟨by omega, hB, by omega, ⟨h1, h2⟩, by omega, ?_, (MF.made w).chg ((Chg.refl [] _).alloc _) (by simp)⟩, by omega, Nat.le_refl _, k1.alloc _⟩
  have := Blk.new (w.alloc (.map #[] 0)) 58 #[.int .i64 n, .int .i64 0, .map (some w.heap.size)]
  simpa using this

theorem rint_info : (Try.prog.info? 3).map (fun i => (i.zero, i.size, i.bytes)) = some (some (.int .i64 0), 1, 8) := by kernel_rfl

set_option maxHeartbeats 400000 in
theorem bnext0 (a : Int) (w : World) (h1 : 0 ≤ a) (h2 : a < 65536) :
    Calls Try.prog 44 #[.int .i64 a, .int .i64 1] w fun e w' => e = .returned (.tuple #[.int .i64 ((a + 1 + 65536) % 65536), .int .i64 0]) ∧ w = w' := by
  go_enter Try.func44, Try.ntmps44
  go_wp2
  go_ret2
  exact ⟨rfl, rfl⟩
theorem bnext1 (a : Int) (w : World) (h1 : 0 ≤ a) (h2 : a < 65536) :
    Calls Try.prog 44 #[.int .i64 a, .int .i64 1] w fun e w' => e = .returned (.tuple #[.int .i64 ((a + 1) % 65536), .int .i64 0]) ∧ w = w' :=
  (bnext0 a w h1 h2).mono (by rintro e w' ⟨rfl, rfl⟩; exact ⟨by rw [show (a + 1 + 65536) % 65536 = (a + 1) % 65536 from by omega], rfl⟩)

/-- At a region's step: delete. -/
theorem step_del {ops : Array Oper} {o : Oper} {a : Act} {w : World} {K : Act → World → Prop} {Q : Exit → Act → World → Prop} {E : Prop} {m n : Nat} {H : Int → Option Int} {k : Int} (mo xo : Operand)
    (h : MF w m n H) (hk : wfI k) (hgd : o.guard = none) (ho : o.op = .call { callee := .builtin .delete, args := #[mo, xo], argTypes := #[56, 3] })
    (hm : a.eval mo = .map (some m)) (hx : a.eval xo = .int .i64 k)
    (hK : ∀ w', MF w' m n (mDel H k) → Chg [m] w w' → K (a.put o.dst (.tuple #[])) w') :
    if Region.wanted o (yielded ops a.tmps) = true then Oper.wp Try.prog o a w K Q else E := by
  have hw : Region.wanted o (yielded ops a.tmps) = true := by simp [Region.wanted, hgd]
  rw [if_pos hw]
  obtain ⟨w', hrun, r1, r2⟩ := h.drop hk o.type
  unfold Oper.wp
  simp [execOp, ho, resolve, invoke, builtin, hm, hx, hrun, Result.andThen]
  exact hK _ r1 r2

/-- What next leaves. -/
def NextPost (w : World) (B r m n base : Nat) (wd x : Int) (H : Int → Option Int) (out : List Int) (e : Ending) (w' : World) : Prop :=
  ∃ A c N, e = .returned (.slice A N c) ∧ w'.ownsRow base 3 1 (.slice A N c) N ((out ++ (H x).toList).map (Value.int .i64)) ∧ RV w' B r m n wd ((x + 1) % 65536) (mDel H x) ∧ (∃ S, Chg S w w' ∧ ∀ j ∈ S, j = r ∨ j = m ∨ base ≤ j)

theorem mDel_none {H : Int → Option Int} {k : Int} (h : H k = none) : mDel H k = H := by
  funext j
  by_cases e : j = k
  · subst e; rw [mDel_same, h]
  · exact mDel_other H e

set_option maxHeartbeats 2000000 in
theorem rnext_none {w : World} {B r m n base N c : Nat} {wd x : Int} {H : Int → Option Int} {out : List Int} {A : Option Addr} (h : RV w B r m n wd x H) (hH : H x = none) (hout : w.ownsRow base 3 1 (.slice A N c) N (out.map (Value.int .i64))) (hr : r ∉ ownL (.slice A N c)) :
    Calls Try.prog 41 #[.pointer (some ⟨r, 0, none⟩), .slice A N c] w (NextPost w B r m n base wd x H out) := by
  have e1 := (h.hr.cell 1).trans rfl
  have f1 := h.hr.frozen 1
  have e2 := (h.hr.cell 2).trans rfl
  have hlk := h.hm.look (wf_seq h.hx)
  rw [hH] at hlk
  have hlk' : ∀ j : Nat, (Instr.lookup 56 (.map (some m)) (.int .i64 x) true).run Try.prog (w.drewN j) = .ok (.tuple #[.int .i64 0, .bool false]) (w.drewN j) := fun j => by
    have := (h.hm.chg ((Chg.refl [] w).drewN j) (by simp)).look (wf_seq h.hx)
    rw [hH] at this
    exact this
  obtain ⟨hx0, hx1⟩ := h.hx
  have HH := Lib.hid h
  have HO := Lib.hid hout
  have HN := Lib.hid hH
  clear h hout hH
  go_enter Try.func41, Try.ntmps41
  go_wp2_with fail
  go_quiet (fail)
  go_wp2_with fail
  refine (bnext1 x _ hx0 hx1).mono ?_
  rintro e w' ⟨rfl, rfl⟩
  go_wp2_with fail
  go_ret
  have hn := HN.out
  refine ⟨A, c, N, rfl, ?_, ?_, [r], ((Chg.refl [r] w).setCell (by simp) _).drewN _, by simp⟩
  · rw [hn]
    have := own_chg HO.out ((Chg.refl [r] w).setCell (p := ⟨r, 1, none⟩) (by simp) (.int .i64 ((x + 1) % 65536))) (fun g hg => by simp; rintro rfl; exact hr (mem_ownL.2 hg))
    simpa using own_drewN this _
  · rw [mDel_none hn]
    exact (HH.out.setx (x' := (x + 1) % 65536) (by omega)).chg ((Chg.refl [] _).drewN _) (by simp) (by simp)

set_option maxHeartbeats 4000000 in
theorem rnext_some {w : World} {B r m n base N c : Nat} {wd x v : Int} {H : Int → Option Int} {out : List Int} {A : Option Addr} (h : RV w B r m n wd x H) (hH : H x = some v) (hout : w.ownsRow base 3 1 (.slice A N c) N (out.map (Value.int .i64))) (hN : N ≤ 100000) (hbase : base ≤ w.heap.size) (hr : r ∉ ownL (.slice A N c)) (hm : m ∉ ownL (.slice A N c)) :
    Calls Try.prog 41 #[.pointer (some ⟨r, 0, none⟩), .slice A N c] w (NextPost w B r m n base wd x H out) := by
  have e1 := (h.hr.cell 1).trans rfl
  have f1 := h.hr.frozen 1
  have e2 := (h.hr.cell 2).trans rfl
  have hlk' : ∀ j : Nat, (Instr.lookup 56 (.map (some m)) (.int .i64 x) true).run Try.prog (w.drewN j) = .ok (.tuple #[.int .i64 v, .bool true]) (w.drewN j) := fun j => by
    have := (h.hm.chg ((Chg.refl [] w).drewN j) (by simp)).look (wf_seq h.hx)
    rw [hH] at this
    exact this
  have hlk := hlk' 0
  obtain ⟨hx0, hx1⟩ := h.hx
  have HH := Lib.hid h
  have HO := Lib.hid hout
  have HN := Lib.hid hH
  have HM := Lib.hid hm
  have HR := Lib.hid hr
  have hrl := h.lt
  have hml := h.mlt
  clear h hout hH hm hr
  go_enter Try.func41, Try.ntmps41
  go_wp2_with fail
  go_quiet (fail)
  go_wp2_with (at_builtin; refine list_app (P := Try.prog) (t := 22) Try.underlying22 rint_info rfl (by omega) (.tmp 20) (.tmp 22) base (n := N) (m := 1) (N := N + 1) rfl (by omega) (by intro u hu; simp at hu; subst hu; rfl) (by omega) (own_drewN (own_chg HO.out ((Chg.refl [] w).alloc _) (by simp)) _) ((reads_lit1 w 3 (.int .i64 v)).drewN _) (by simp; omega) (by rfl) (by rfl) (by rfl) (by rfl) ?_; intro A2 d2 W2 hown2 hgrow2 hat2; have q2 := (((Chg.refl (ownL (.slice A N c)) w).alloc (.cells #[.int .i64 v] 3)).drewN _).grown hgrow2 (fun j hj => .inl (mem_ownL.2 hj)); have hR2 := HH.out.chg q2 HR.out HM.out; have g1 := (hR2.hr.cell 1).trans rfl; have g2 := (hR2.hr.cell 2).trans rfl; have g3 := hR2.hr.frozen 1)
  go_region_law ((refine step_del (.tmp 27) (.tmp 31) (hR2.hm.chg ((Chg.refl [] W2).drew) (by simp)) (wf_seq hR2.hx) (by rfl) (by rfl) (by rfl) (by rfl) ?_; intro W3 hM3 hc3; have hc3' : Chg [m] W2 W3 := ((Chg.refl [m] W2).drew).trans hc3 (by simp); have hr3 := hR2.hr.chg hc3' (by simp; exact hR2.rm); have g4 := (hr3.cell 1).trans rfl; have g5 := hr3.frozen 1))
  all_goals
    go_wp2_with fail
    refine (bnext1 x _ hx0 hx1).mono ?_
    rintro e w' ⟨rfl, rfl⟩
    go_wp2_with fail
    go_ret
    have hn := HN.out
    have hol := ownL_lt hown2
    have hroA2 : r ∉ ownL (.slice A2 (N + 1) d2) := fun hm => by
      rcases hat2 with h | h
      · exact HR.out (mem_ownL.2 (h ▸ mem_ownL.1 hm))
      · have := mem_ownL.1 hm
        rw [h] at this
        simp at this
        omega
    have hmoA2 : m ∉ ownL (.slice A2 (N + 1) d2) := fun hm => by
      rcases hat2 with h | h
      · exact HM.out (mem_ownL.2 (h ▸ mem_ownL.1 hm))
      · have := mem_ownL.1 hm
        rw [h] at this
        simp at this
        omega
    have hst : Chg [r] W3 (W3.setCell ⟨r, 1, none⟩ (.int .i64 ((x + 1) % 65536))) := (Chg.refl [r] W3).setCell (by simp) _
    have ho3 := own_chg (own_chg hown2 hc3' (fun g hg => by simp; rintro rfl; exact hmoA2 (mem_ownL.2 hg))) hst (fun g hg => by simp; rintro rfl; exact hroA2 (mem_ownL.2 hg))
    have hV3 : RV W3 B r m n wd x (mDel H x) := ⟨hR2.Br, hR2.Bm, hR2.rm, hR2.hw, hR2.hx, hr3, hM3⟩
    refine ⟨A2, d2, N + 1, rfl, ?_, hV3.setx (by omega), r :: m :: ownL (.slice A N c), ?_, ?_⟩
    · rw [hn]
      simpa using ho3
    · refine (((q2.mono (S' := r :: m :: ownL (.slice A N c)) (by intro j hj; exact .inl (by simp [hj]))).trans hc3' (by simp))).setCell (by simp) _
    · intro j hj
      simp at hj
      rcases hj with rfl | rfl | hj
      · exact .inl rfl
      · exact .inr (.inl rfl)
      · exact .inr (.inr (ownL_lt HO.out j hj).1)

end Go.Proofs.Ytgkdlplocahnnaa
