/- The reference's queue: Push. -/
import Derived.Test.YtdlehpohpdepkaaQc
import Derived.Deep.RegionHeld3
import Derived.Deep.RegionLaw
import Derived.Deep.DeepCutAuto
namespace Go.Proofs.Ytdlehpohpdepkaa
open Go.RowKit
set_option linter.unusedVariables false
set_option linter.unusedSimpArgs false

/-- As step_app, the frame's facts ahead. -/
theorem step_app2 {P : Program} {ops : Array Oper} {o : Oper} {a : Act} {K : Act → World → Prop} {Q : Exit → Act → World → Prop} {E : Prop} {t e : TypeId} {z : Value} {size bytes : Nat}
    (ht : P.underlying t = some (.slice e)) (hinfo : (P.info? e).map (fun i => (i.zero, i.size, i.bytes)) = some (some z, size, bytes)) (hzs : z.cells.size = size) (hsz : 0 < size)
    (s x : Operand) (base : Nat) {w : World} {v : Value} {n : Nat} {xs : List Value} {B : Nat} {A : Option Addr} {m c : Nat} {news : List Value} {N : Nat} (hN : n + m = N)
    (h63 : n + m ≤ 1000000) (h1 : ∀ u ∈ news, u.oneCell' = true) (hby : bytes ≤ 1000)
    (hgd : o.guard = none) (ho : o.op = .call { callee := .builtin .append, args := #[s, x], argTypes := #[t, t] })
    (hs : a.eval s = v) (hx : a.eval x = .slice A m c)
    (hown : w.ownsRow base e size v n xs) (hr : Reads w B size A m news) (hbase : base ≤ w.heap.size)
    (h : ∀ A' c' w', w'.ownsRow base e size (.slice A' N c') N (xs ++ news) → w.grownBy w' v.ownBlock → ((Value.slice A' N c').ownBlock = v.ownBlock ∨ (Value.slice A' N c').ownBlock = some w.heap.size) → K (a.put o.dst (.slice A' N c')) w') :
    if Region.wanted o (yielded ops a.tmps) = true then Oper.wp P o a w K Q else E :=
  step_app ht hinfo hzs hsz s x base hN h63 h1 hby hown hr hbase hgd ho hs hx h

theorem own_mt {w : World} {g : Nat} {e : TypeId} {size base : Nat} (hb : Blk w g e #[]) (hg : base ≤ g) : w.ownsRow base e size (.slice (some ⟨g, 0, none⟩) 0 0) 0 [] :=
  ⟨by simp, .inr ⟨g, 0, #[], rfl, hg, hb, Nat.le_refl _, by unfold maxLen; omega, by simp, by simp⟩⟩
theorem Blk.new2 {w : World} {g : Nat} {t : TypeId} {cs : Array Value} (h : g = w.heap.size) : Blk (w.alloc (.cells cs t)) g t cs := by
  subst h
  exact Blk.new _ _ _
theorem reads_blk {w : World} {g : Nat} {t : TypeId} {cs : Array Value} {size : Nat} (h : Blk w g t cs) (hs : cs.size = size) : Reads w w.heap.size size (some ⟨g, 0, none⟩) 1 cs.toList := by
  refine ⟨by simp [hs], fun _ => ⟨_, rfl, h.lt, fun j u hu => ?_⟩⟩
  have hadd : (⟨g, 0, none⟩ : Addr).add j = ⟨g, j, none⟩ := by
    unfold Addr.add
    split
    · subst_vars; rfl
    · simp
  rw [hadd, h.cell, ← Array.getElem?_toList]
  exact hu
theorem reads_chg {w W : World} {B size n : Nat} {A : Option Addr} {xs : List Value} (h : Reads w B size A n xs) (hc : Chg [] w W) (hB : B ≤ w.heap.size) : Reads W B size A n xs :=
  h.keep fun p hp => hc.cell (by omega) (by simp)

/-- Behind a call that gave the reference a new list, in a row of the call's own. -/
theorem QF.put {w W : World} {B r : Nat} {O : List Nat} {most mb : Int} {ps ps' : List Pk} {A : Option Addr} {n c : Nat} (h : QF w B r O most mb ps) (hB : B ≤ w.heap.size) (hc : Chg [] w W)
    (hown : W.ownsRow w.heap.size 24 5 (.slice A n c) n (ps'.flatMap pkC)) (hl : ps'.length ≤ 64) (hok : ∀ p ∈ ps', vld p = true) :
    QF (W.setCell ⟨r, 2, none⟩ (.slice A n c)) B r (ownL (.slice A n c)) most mb ps' ∧ (∀ j ∈ ownL (.slice A n c), w.heap.size ≤ j) ∧ Chg [r] w (W.setCell ⟨r, 2, none⟩ (.slice A n c)) := by
  obtain ⟨A0, c0, h9, _⟩ := h.row
  have h9' := h9.chg hc (by simp)
  obtain ⟨hR, hk, hnc, hcm⟩ := RdP.of_own hown
  subst hk
  have hqn := ownL_blk hown h9' (by decide)
  have hol := ownL_lt hown
  have hst : Chg [r] W (W.setCell ⟨r, 2, none⟩ (.slice A ps'.length c)) := (Chg.refl [r] W).setCell (by simp) _
  have hb := h9'.set_ 2 (.slice A ps'.length c)
  simp only [List.setIfInBounds_toArray, List.set_cons_succ, List.set_cons_zero] at hb
  exact ⟨⟨h.Br, hqn, fun j hj => Nat.le_trans hB (hol j hj).1, fun j hj => by have := (hol j hj).2; simpa [World.setCell] using this, h.cap, hl, hok, A, c, hb, hnc, hcm, hR.chg hst (fun j hj => by simp; rintro rfl; exact hqn hj)⟩, fun j hj => (hol j hj).1, (hc.mono (by simp)).setCell (by simp) _⟩

section
variable {w : World} {B r : Nat} {O : List Nat} {most mb : Int} {ps : List Pk}
set_option maxHeartbeats 1000000 in
theorem qfpush_bad (h : QF w B r O most mb ps) (p : Pk) (hv : vld p = false) :
    Calls Try.prog 35 #[.pointer (some ⟨r, 0, none⟩), .agg #[.int .i64 p.i, .int .i64 p.f, .int .i64 p.l, .int .i64 p.a, .int .i64 p.d]] w fun e w' => e = .returned (.int .i64 1) ∧ Chg [] w w' := by
  have HV := Lib.hid (fun W : World => rvalid_raw p.i p.f p.l p.a p.d W)
  rw [show validB p.i p.f p.l p.a p.d = false from hv] at HV
  clear h hv
  go_enter Try.func35, Try.ntmps35
  go_wp2_with fail
  refine (HV.out _).mono ?_
  rintro e w1 ⟨rfl, hc1⟩
  have HC1 := Lib.hid hc1
  clear hc1
  go_wp2_with fail
  go_ret
  exact ⟨rfl, Chg.trans (S := []) ((Chg.refl _ _).alloc _) HC1.out (by simp)⟩

set_option maxRecDepth 100000 in
set_option maxHeartbeats 8000000 in
theorem qfpush_ok (h : QF w B r O most mb ps) (hB : B ≤ w.heap.size) (p : Pk) (hv : vld p = true) (t : Bool) (ht : t = decide (most ≤ ps.length ∨ mb < tot ps + p.l)) :
    Calls Try.prog 35 #[.pointer (some ⟨r, 0, none⟩), .agg #[.int .i64 p.i, .int .i64 p.f, .int .i64 p.l, .int .i64 p.a, .int .i64 p.d]] w fun e w' => if t = true then (e = .returned (.int .i64 4) ∧ Chg [] w w') else e = .returned (.int .i64 0) ∧ ∃ O', QF w' B r O' most mb (ps ++ [p]) ∧ (∀ j ∈ O', w.heap.size ≤ j) ∧ Chg [r] w w' := by
  have HV := Lib.hid (fun W : World => rvalid_raw p.i p.f p.l p.a p.d W)
  rw [show validB p.i p.f p.l p.a p.d = true from hv] at HV
  have hvl := vld_len hv
  have hcap := h.cap
  have hl := h.hl
  obtain ⟨n, hn⟩ : ∃ n, ps.length = n := ⟨_, rfl⟩
  rw [hn] at ht hl
  have htb := tot_bd h.ok
  rw [hn] at htb
  have HBy := Lib.hid (fun (W : World) (hW : Chg [] w W) => qfbytes_c (h.chg hW (by simp) (by simp)))
  obtain ⟨bt, hbt⟩ : ∃ bt, tot ps = bt := ⟨_, rfl⟩
  rw [hbt] at ht htb HBy
  have HT := Lib.hid ht
  have HH := Lib.hid h
  have HN := Lib.hid hn
  have HVd := Lib.hid hv
  obtain ⟨A, c, h9, h10, h11, h12⟩ := h.row
  rw [hn] at h9 h10
  have HRd := Lib.hid h12
  have hrl := h9.lt
  obtain ⟨hl1, hl2, _⟩ := hvl
  obtain ⟨htb0, htb1⟩ := htb
  obtain ⟨hcap0, hcap1⟩ := hcap
  generalize hpi : p.i = pi at HV
  generalize hpf : p.f = pf at HV
  generalize hpl : p.l = pl at HV HT hl1 hl2
  generalize hpa : p.a = pa at HV
  generalize hpd : p.d = pd at HV
  have HP := Lib.hid (show pkC p = [.int .i64 pi, .int .i64 pf, .int .i64 pl, .int .i64 pa, .int .i64 pd] from by unfold pkC; rw [hpi, hpf, hpl, hpa, hpd])
  have hfac : ∀ W, Chg [] w W → W.cell? ⟨r, 2, none⟩ = some (.slice A n c) ∧ W.cell? ⟨r, 0, none⟩ = some (.int .i64 most) ∧ W.cell? ⟨r, 1, none⟩ = some (.int .i64 mb) := fun W hW => by
    have := h9.chg hW (by simp)
    exact ⟨(this.cell 2).trans rfl, (this.cell 0).trans rfl, (this.cell 1).trans rfl⟩
  have HF := Lib.hid hfac
  have HF2 := Lib.hid (fun (W : World) (hW : Chg [] w W) => (h9.chg hW (by simp)).frozen 2)
  have HBx := Lib.hid (Blk.new w 24 #[.int .i64 pi, .int .i64 pf, .int .i64 pl, .int .i64 pa, .int .i64 pd])
  have HA0 := Lib.hid ((Chg.refl [] w).alloc (.cells #[.int .i64 pi, .int .i64 pf, .int .i64 pl, .int .i64 pa, .int .i64 pd] 24))
  clear h hv hbt hn ht h9 h12 hpi hpf hpl hpa hpd hfac
  go_enter Try.func35, Try.ntmps35
  go_wp2_with fail
  refine (HV.out _).mono ?_
  rintro e w1 ⟨rfl, hc1⟩
  have HC1 := Lib.hid (HA0.out.trans hc1 (by simp))
  have HB1 := Lib.hid (HBx.out.chg hc1 (by simp))
  clear hc1 HBx HA0
  go_upto_region 3 with fail
  go_cut [30] (fun v wx => v = .bool t ∧ Chg [] w1 wx)
  case first =>
    obtain ⟨d2, d0, d1⟩ := HF.out _ HC1.out.drew
    have b2 := (HB1.out.drew.cell 2).trans rfl
    by_cases hfull : most ≤ (n : Int)
    · have hg1 : most < (n : Int) + 1 := by omega
      have hw1 : IntKind.i64.wrap ((n : Int) + 1) = (n : Int) + 1 := IntWalk.i64_in _ (by omega)
      have hd1 : decide (most < (n : Int) + 1) = true := decide_eq_true hg1
      have HTT := Lib.hid (HT.out.trans (decide_eq_true (.inl hfull)))
      obtain ⟨e2, e0, e1⟩ := HF.out _ HC1.out
      clear d2 d0 d1 b2
      go_quiet (fail)
      go_wp2_with fail
      go_meet
      exact ⟨by rw [HTT.out], (Chg.refl [] w1).drewN _⟩
    · have hg1 : (n : Int) + 1 ≤ most := by omega
      have hw1 : IntKind.i64.wrap ((n : Int) + 1) = (n : Int) + 1 := IntWalk.i64_in _ (by omega)
      have hw2 : IntKind.i64.wrap (bt + pl) = bt + pl := IntWalk.i64_in _ (by omega)
      have hd1 : decide (most < (n : Int) + 1) = false := decide_eq_false (by omega)
      have HTT := Lib.hid (HT.out.trans (show _ = decide (mb < bt + pl) from decide_eq_decide.2 (by omega)))
      have hS0 : w1.drew.cell? ⟨r, 2, none⟩ = some (.slice A n c) ∧ w1.drew.cell? ⟨r, 0, none⟩ = some (.int .i64 most) ∧ w1.drew.cell? ⟨r, 1, none⟩ = some (.int .i64 mb) ∧ w1.drew.cell? ⟨w.heap.size, 2, none⟩ = some (.int .i64 pl) := ⟨d2, d0, d1, b2⟩
      clear d2 d0 d1 b2
      go_region_held3 (fun w' => w'.cell? ⟨r, 2, none⟩ = some (.slice A n c) ∧ w'.cell? ⟨r, 0, none⟩ = some (.int .i64 most) ∧ w'.cell? ⟨r, 1, none⟩ = some (.int .i64 mb) ∧ w'.cell? ⟨w.heap.size, 2, none⟩ = some (.int .i64 pl)) (first | exact hS1 | exact hS0 | go_keep)
        ((go_at_call 24; refine (HBy.out _ HC1.out.drew).mono ?_; rintro e w2 ⟨rfl, hc2⟩; have C2 := Lib.hid (((Chg.refl [] w1).drew).trans hc2 (by simp)); have hS1 : w2.cell? ⟨r, 2, none⟩ = some (.slice A n c) ∧ w2.cell? ⟨r, 0, none⟩ = some (.int .i64 most) ∧ w2.cell? ⟨r, 1, none⟩ = some (.int .i64 mb) ∧ w2.cell? ⟨w.heap.size, 2, none⟩ = some (.int .i64 pl) := (by obtain ⟨q2, q0, q1⟩ := HF.out _ (HC1.out.trans C2.out (by simp)); exact ⟨q2, q0, q1, ((HB1.out.chg C2.out (by simp)).cell 2).trans rfl⟩); clear hc2))
      all_goals
        go_wp2_with fail
        go_meet
        exact ⟨by rw [HTT.out], C2.out⟩
  case rest =>
    obtain ⟨rfl, hc2⟩ := hcut
    have HC2 := Lib.hid (HC1.out.trans hc2 (by simp))
    have HB2 := Lib.hid (HB1.out.chg hc2 (by simp))
    have HTf := Lib.hid HT.out
    clear hc2 HT
    cases t with
    | true =>
      go_wp2_with fail
      go_ret
      exact ⟨rfl, HC2.out⟩
    | false =>
      have hz2 := HC2.out.size
      obtain ⟨e2, e0, e1⟩ := HF.out _ HC2.out
      have f2 := HF2.out _ HC2.out
      have hrl2 : r < wc.heap.size := by omega
      have b0 := (HB2.out.cell 0).trans rfl
      have b1 := (HB2.out.cell 1).trans rfl
      have b2 := (HB2.out.cell 2).trans rfl
      have b3 := (HB2.out.cell 3).trans rfl
      have b4 := (HB2.out.cell 4).trans rfl
      have hbl := HB2.out.lt
      have hRd := HRd.out.chg HC2.out (by simp)
      have hr1 := hRd.reads
      rw [HN.out] at hr1
      have hone := flat_one ps
      have hone1 : ∀ u ∈ ([.int .i64 pi, .int .i64 pf, .int .i64 pl, .int .i64 pa, .int .i64 pd] : List Value), u.oneCell' = true := by intro u hu; simp at hu; rcases hu with rfl | rfl | rfl | rfl | rfl <;> rfl
      have hn64 : n ≤ 64 := by omega
      have HR := Lib.hid (fun (W : World) (hW : Chg [] wc W) => reads_chg hr1 hW (Nat.le_refl _))
      have HF3 := Lib.hid (fun (W : World) (hW : Chg [] wc W) => And.intro (HF.out W (HC2.out.trans hW (by simp))).1 (HF2.out W (HC2.out.trans hW (by simp))))
      have hrl3 : r < wc.heap.size + 1 := by omega
      have hnm : n < most := by
        have := of_decide_eq_false HTf.out.symm
        omega
      clear e0 e1 hRd hr1 HBy HV
      go_wp2_with fail
      go_region_law (first
        | (have hZ := hown1; clear hZ; go_must (refine step_app2 (P := Try.prog) (t := 42) Try.underlying42 pk_info rfl (by omega) (.tmp 37) (.tmp 39) wc.heap.size (n := n) (m := 1) (N := n + 1) rfl (by omega) hone1 (by omega) (by rfl) (by rfl) (by rfl) (by rfl) (own_chg (S := []) hown1 (by repeat (first | exact Chg.refl _ _ | apply Chg.drew | apply Chg.drewN | apply Chg.alloc)) (by simp)) (by first | exact reads_lit _ _ #[.int .i64 pi, .int .i64 pf, .int .i64 pl, .int .i64 pa, .int .i64 pd] 5 rfl | exact reads_blk (hB1 _ #[.int .i64 pi, .int .i64 pf, .int .i64 pl, .int .i64 pa, .int .i64 pd] (by repeat (first | (refine Blk.new2 (by first | rfl | simp)) | apply Blk.drew | apply Blk.drewN | apply Blk.alloc)) (by simp [ownL, Value.ownBlock])) rfl) (by have := q1.size; simp; omega) ?_); intro A2 d2 W2 hown2 hgrow2 hat2; have q2 : Chg [] wc W2 := Chg.grown (by repeat (first | exact q1 | apply Chg.drew | apply Chg.drewN | apply Chg.alloc)) hgrow2 (fun j hj => .inr (hown1.lt j hj).1); have g1 := (HF3.out _ q2).1; have g2 := (HF3.out _ q2).2; have g5 := Nat.lt_of_lt_of_le hrl2 q2.size)
        | (refine step_app2 (P := Try.prog) (t := 42) Try.underlying42 pk_info rfl (by omega) (.tmp 32) (.tmp 36) wc.heap.size (v := .slice (some ⟨_, 0, none⟩) 0 0) (n := 0) (xs := []) (m := n) (N := n) (Nat.zero_add _) (by omega) hone (by omega) (by rfl) (by rfl) (by rfl) (by rfl) (own_mt (by repeat (first | (refine Blk.new2 (by first | rfl | simp)) | apply Blk.drew | apply Blk.drewN | apply Blk.alloc)) (by omega)) (HR.out _ (by repeat (first | exact Chg.refl _ _ | apply Chg.drew | apply Chg.drewN | apply Chg.alloc))) (by simp; try omega) ?_; intro A1 d1 W1 hown1 hgrow1 hat1; have q1 : Chg [] wc W1 := Chg.grown (by repeat (first | exact Chg.refl _ _ | apply Chg.drew | apply Chg.drewN | apply Chg.alloc)) hgrow1 (by intro k hk; simp [Value.ownBlock] at hk; omega); have hB1 := (fun (g : Nat) (cs : Array Value) (hb : Blk _ g 24 cs) (hne : g ∉ ownL _) => hb.chg ((Chg.refl (ownL _) _).grown hgrow1 (fun j hj => .inl (mem_ownL.2 hj))) hne); have hbq := HB2.out.chg q1 (by simp); have y0 := (hbq.cell 0).trans rfl; have y1 := (hbq.cell 1).trans rfl; have y2 := (hbq.cell 2).trans rfl; have y3 := (hbq.cell 3).trans rfl; have y4 := (hbq.cell 4).trans rfl; have ybl := hbq.lt))
      all_goals
        go_wp2_with fail
        go_ret
        have hx : ([] ++ ps.flatMap pkC) ++ [.int .i64 pi, .int .i64 pf, .int .i64 pl, .int .i64 pa, .int .i64 pd] = (ps ++ [p]).flatMap pkC := by rw [List.flatMap_append]; simp [HP.out]
        rw [hx] at hown2
        obtain ⟨r1, r2, r3⟩ := (HH.out.chg HC2.out (by simp) (by simp)).put (by omega) q2 hown2 (by have := HN.out; simp; omega) (fun x hx => by
          rcases List.mem_append.1 hx with hx | hx
          · exact HH.out.ok x hx
          · simp at hx; subst hx; exact HVd.out)
        exact ⟨rfl, _, r1, fun j hj => by have := r2 j hj; omega, (HC2.out.mono (S' := [r]) (by simp)).trans r3 (by simp)⟩
end

end Go.Proofs.Ytdlehpohpdepkaa
