/- The receiver: moves, Inside, Receive, Expected. -/
import Derived.Test.YtgkdlplocahnnaaRw
import Derived.OwnWalk
namespace Go.Proofs.Ytgkdlplocahnnaa
open Go.RowKit Go.Maps
set_option linter.unusedVariables false
set_option linter.unusedSimpArgs false

def seqP (a : Int) : Prop := 0 ≤ a ∧ a < 65536
instance (a : Int) : Decidable (seqP a) := inferInstanceAs (Decidable (_ ∧ _))
/-- The error of a base of the sender. -/
def mvE (x wd b : Int) : Int := if seqP b then (if 32768 ≤ dst x b ∧ wd < 65536 - dst x b then 2 else 0) else 1
def insB (b wd s : Int) : Bool := decide (seqP b ∧ seqP s ∧ dst b s < wd)

set_option maxHeartbeats 1000000 in
theorem moves_c {w : World} {B r m n : Nat} {wd x : Int} {H : Int → Option Int} (h : RV w B r m n wd x H) (b : Int) :
    Calls Try.prog 25 #[.pointer (some ⟨r, 0, none⟩), .int .i64 b] w fun e w' => e = .returned (.int .i64 (mvE x wd b)) ∧ Chg [] w w' := by
  have e0 := (h.hr.cell 0).trans rfl
  have e1 := (h.hr.cell 1).trans rfl
  obtain ⟨hx0, hx1⟩ := h.hx
  obtain ⟨hw0, hw1⟩ := h.hw
  clear h
  by_cases hb : seqP b
  · have HD := Lib.hid (fun W : World => dist_ok x b W hx0 hx1 hb.1 hb.2)
    have hd := dst_bd x b
    have HE := Lib.hid (show mvE x wd b = if 32768 ≤ dst x b ∧ wd < 65536 - dst x b then 2 else 0 from if_pos hb)
    generalize dst x b = d at HD hd HE
    obtain ⟨hd0, hd1⟩ := hd
    clear hb
    by_cases h1 : 32768 ≤ d
    · by_cases h2 : wd < 65536 - d
      · have HF := Lib.hid (HE.out.trans (if_pos ⟨h1, h2⟩))
        clear HE
        go_enter Try.func25, Try.ntmps25
        go_wp2_with fail
        refine (HD.out _).mono ?_
        rintro e w' ⟨rfl, rfl⟩
        go_wp2_with fail
        go_ret
        exact ⟨by rw [HF.out]; rfl, Chg.refl _ _⟩
      · have HF := Lib.hid (HE.out.trans (if_neg (fun h => h2 h.2)))
        have h2' : 65536 - d ≤ wd := by omega
        clear HE h2
        go_enter Try.func25, Try.ntmps25
        go_wp2_with fail
        refine (HD.out _).mono ?_
        rintro e w' ⟨rfl, rfl⟩
        go_wp2_with fail
        go_ret
        exact ⟨by rw [HF.out]; rfl, Chg.refl _ _⟩
    · have HF := Lib.hid (HE.out.trans (if_neg (fun h => h1 h.1)))
      have h1' : d < 32768 := by omega
      clear HE h1
      go_enter Try.func25, Try.ntmps25
      go_wp2_with fail
      refine (HD.out _).mono ?_
      rintro e w' ⟨rfl, rfl⟩
      go_wp2_with fail
      go_ret
      exact ⟨by rw [HF.out]; rfl, Chg.refl _ _⟩
  · have HD := Lib.hid (fun W : World => dist_bad x b W (fun h => hb ⟨h.2.2.1, h.2.2.2⟩))
    have HF := Lib.hid (show mvE x wd b = 1 from if_neg hb)
    clear hb
    go_enter Try.func25, Try.ntmps25
    go_wp2_with fail
    refine (HD.out _).mono ?_
    rintro e w' ⟨rfl, rfl⟩
    go_wp2_with fail
    go_ret
    exact ⟨by rw [HF.out]; rfl, Chg.refl _ _⟩

set_option maxHeartbeats 1000000 in
theorem inside_c (w : World) (b wd s : Int) (hw : 1 ≤ wd ∧ wd ≤ 64) :
    Calls Try.prog 26 #[.int .i64 b, .int .i64 wd, .int .i64 s] w fun e w' => e = .returned (.bool (insB b wd s)) ∧ w = w' := by
  obtain ⟨hw0, hw1⟩ := hw
  by_cases hb : seqP b ∧ seqP s
  · have HD := Lib.hid (fun W : World => dist_ok b s W hb.1.1 hb.1.2 hb.2.1 hb.2.2)
    have HE := Lib.hid (show insB b wd s = decide (dst b s < wd) from by unfold insB; exact decide_eq_decide.2 ⟨fun h => h.2.2, fun h => ⟨hb.1, hb.2, h⟩⟩)
    generalize dst b s = d at HD HE
    clear hb
    go_enter Try.func26, Try.ntmps26
    go_wp2_with fail
    refine (HD.out _).mono ?_
    rintro e w' ⟨rfl, rfl⟩
    go_wp2_with fail
    go_ret
    exact ⟨by rw [HE.out]; rfl, rfl⟩
  · have HD := Lib.hid (fun W : World => dist_bad b s W (fun h => hb ⟨⟨h.1, h.2.1⟩, h.2.2.1, h.2.2.2⟩))
    have HE := Lib.hid (show insB b wd s = false from by unfold insB; exact decide_eq_false (fun h => hb ⟨h.1, h.2.1⟩))
    clear hb
    go_enter Try.func26, Try.ntmps26
    go_wp2_with fail
    refine (HD.out _).mono ?_
    rintro e w' ⟨rfl, rfl⟩
    go_wp2_with fail
    go_ret
    exact ⟨by rw [HE.out]; rfl, rfl⟩

set_option maxHeartbeats 400000 in
theorem expected_c {w : World} {B r m n : Nat} {wd x : Int} {H : Int → Option Int} (h : RV w B r m n wd x H) :
    Calls Try.prog 11 #[.pointer (some ⟨r, 0, none⟩)] w fun e w' => e = .returned (.int .i64 x) ∧ Chg [] w w' := by
  have e1 := (h.hr.cell 1).trans rfl
  clear h
  go_enter Try.func11, Try.ntmps11
  go_wp2
  go_ret
  exact ⟨rfl, Chg.refl _ _⟩

/-- At a plain region's list: a store into the map. -/
theorem list_store {ops : Array Oper} {rest : List Oper} {o : Oper} {a : Act} {w : World} {Q : Exit → Act → World → Prop} {m n : Nat} {H : Int → Option Int} {k v : Int} (mo xo vo : Operand)
    (h : MF w m n H) (hk : wfI k) (hv : wfI v) (hn : n ≤ 1000000) (hgd : o.guard = none) (ho : o.op = .mapUpdate 56 mo xo vo)
    (hm : a.eval mo = .map (some m)) (hx : a.eval xo = .int .i64 k) (hvo : a.eval vo = .int .i64 v)
    (hK : ∀ w', MF w' m (n + 1) (mPut H k v) → Chg [m] w w' → wpList Try.prog ops Q rest (a.put o.dst undef) w') : wpList Try.prog ops Q (o :: rest) a w := by
  refine wpList_plain hgd fun K' hK' => ?_
  obtain ⟨w', hrun, r1, r2⟩ := h.store hk hv hn
  unfold Oper.wp
  simp [execOp, ho, hm, hx, hvo, hrun, Result.andThen]
  exact hK' _ _ (hK w' r1 r2)

/-- The error of Receive. -/
def rcE (x wd b s id : Int) : Int := if seqP b ∧ seqP s ∧ 1 ≤ id then (if mvE x wd b = 0 ∧ insB b wd s = true then 0 else 2) else 1

set_option maxHeartbeats 2000000 in
theorem receive_bad {w : World} {B r m n : Nat} {wd x b s id : Int} {H : Int → Option Int} (h : RV w B r m n wd x H) (hb : ¬ (seqP b ∧ seqP s ∧ 1 ≤ id)) :
    Calls Try.prog 10 #[.pointer (some ⟨r, 0, none⟩), .int .i64 b, .int .i64 s, .int .i64 id] w fun e w' => e = .returned (.tuple #[.slice none 0 0, .int .i64 1]) ∧ Chg [] w w' := by
  have HM := Lib.hid (moves_c h b)
  by_cases h1 : seqP b ∧ seqP s
  · have hid : id < 1 := by
      refine Int.not_le.1 fun h2 => hb ⟨h1.1, h1.2, h2⟩
    have HD := Lib.hid (fun W : World => dist_ok b s W h1.1.1 h1.1.2 h1.2.1 h1.2.2)
    generalize mvE x wd b = me at HM
    clear h hb h1
    by_cases hm : me = 1
    · subst hm
      go_enter Try.func10, Try.ntmps10
      go_wp2_with fail
      refine (HD.out _).mono ?_
      rintro e w' ⟨rfl, rfl⟩
      go_wp2_with fail
      refine HM.out.mono ?_
      rintro e w' ⟨rfl, hc⟩
      go_wp2_with fail
      go_ret2
      exact ⟨rfl, hc⟩
    · have hm' : (me == 1) = false := by rw [beq_eq_false_iff_ne]; exact hm
      clear hm
      go_enter Try.func10, Try.ntmps10
      go_wp2_with fail
      refine (HD.out _).mono ?_
      rintro e w' ⟨rfl, rfl⟩
      go_wp2_with fail
      refine HM.out.mono ?_
      rintro e w' ⟨rfl, hc⟩
      go_wp2_with fail
      go_ret2
      exact ⟨rfl, hc⟩
  · have HD := Lib.hid (fun W : World => dist_bad b s W (fun h => h1 ⟨⟨h.1, h.2.1⟩, h.2.2.1, h.2.2.2⟩))
    clear h hb h1
    go_enter Try.func10, Try.ntmps10
    go_wp2_with fail
    refine (HD.out _).mono ?_
    rintro e w' ⟨rfl, rfl⟩
    go_wp2_with fail
    refine HM.out.mono ?_
    rintro e w' ⟨rfl, hc⟩
    go_wp2_with fail
    go_ret2
    exact ⟨rfl, hc⟩

set_option maxHeartbeats 2000000 in
theorem receive_out {w : World} {B r m n : Nat} {wd x b s id : Int} {H : Int → Option Int} (h : RV w B r m n wd x H) (hb : seqP b ∧ seqP s ∧ 1 ≤ id) (ho : ¬ (mvE x wd b = 0 ∧ insB b wd s = true)) :
    Calls Try.prog 10 #[.pointer (some ⟨r, 0, none⟩), .int .i64 b, .int .i64 s, .int .i64 id] w fun e w' => e = .returned (.tuple #[.slice none 0 0, .int .i64 2]) ∧ Chg [] w w' := by
  have HM := Lib.hid (moves_c h b)
  have HD := Lib.hid (fun W : World => dist_ok b s W hb.1.1 hb.1.2 hb.2.1.1 hb.2.1.2)
  have HI := Lib.hid (fun W : World => inside_c W b wd s h.hw)
  have h0 := (h.hr.cell 0).trans rfl
  have hid := hb.2.2
  have hme : mvE x wd b = 0 ∨ mvE x wd b = 2 := by
    unfold mvE
    rw [if_pos hb.1]
    split <;> simp
  have HH := Lib.hid h
  generalize mvE x wd b = me at HM ho hme
  generalize insB b wd s = ib at HI ho
  clear h hb
  rcases hme with rfl | rfl
  · have hib : ib = false := by
      cases ib
      · rfl
      · exact absurd ⟨rfl, rfl⟩ ho
    subst hib
    clear ho
    go_enter Try.func10, Try.ntmps10
    go_wp2_with fail
    refine (HD.out _).mono ?_
    rintro e w' ⟨rfl, rfl⟩
    go_wp2_with fail
    refine HM.out.mono ?_
    rintro e w1 ⟨rfl, hc⟩
    have h0 := ((HH.out.hr.chg hc (by simp)).cell 0).trans rfl
    go_wp2_with fail
    refine (HI.out _).mono ?_
    rintro e w' ⟨rfl, rfl⟩
    go_wp2_with fail
    go_ret2
    exact ⟨rfl, hc⟩
  · clear ho
    go_enter Try.func10, Try.ntmps10
    go_wp2_with fail
    refine (HD.out _).mono ?_
    rintro e w' ⟨rfl, rfl⟩
    go_wp2_with fail
    refine HM.out.mono ?_
    rintro e w1 ⟨rfl, hc⟩
    go_wp2_with fail
    go_ret2
    exact ⟨rfl, hc⟩

end Go.Proofs.Ytgkdlplocahnnaa
