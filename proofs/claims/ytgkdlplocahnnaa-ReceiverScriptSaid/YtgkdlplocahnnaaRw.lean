/- The receiver: release, skip. -/
import Derived.Test.YtgkdlplocahnnaaRv
import Derived.Deep.LoopGhost
namespace Go.Proofs.Ytgkdlplocahnnaa
open Go.RowKit Go.Maps
set_option linter.unusedVariables false
set_option linter.unusedSimpArgs false

def dst (a b : Int) : Int := (b - a + 65536) % 65536
theorem dst_bd (a b : Int) : 0 ≤ dst a b ∧ dst a b < 65536 := by unfold dst; omega
def befB (a b : Int) : Bool := decide (0 ≤ a ∧ a < 65536 ∧ 0 ≤ b ∧ b < 65536 ∧ 1 ≤ dst a b ∧ dst a b < 32768)

set_option maxHeartbeats 400000 in
theorem dist_ok (a b : Int) (w : World) (h1 : 0 ≤ a) (h2 : a < 65536) (h3 : 0 ≤ b) (h4 : b < 65536) :
    Calls Try.prog 24 #[.int .i64 a, .int .i64 b] w fun e w' => e = .returned (.tuple #[.int .i64 (dst a b), .int .i64 0]) ∧ w = w' := by
  go_enter Try.func24, Try.ntmps24
  go_wp2
  go_ret2
  exact ⟨rfl, rfl⟩

set_option maxHeartbeats 400000 in
theorem dist_bad (a b : Int) (w : World) (h : ¬ (0 ≤ a ∧ a < 65536 ∧ 0 ≤ b ∧ b < 65536)) :
    Calls Try.prog 24 #[.int .i64 a, .int .i64 b] w fun e w' => e = .returned (.tuple #[.int .i64 0, .int .i64 1]) ∧ w = w' := by
  go_enter Try.func24, Try.ntmps24
  go_wp2
  all_goals
    first
      | (go_ret2; exact ⟨rfl, rfl⟩)
      | (exfalso; simp only [Bool.not_eq_false', decide_eq_true_eq] at *; omega)

set_option maxHeartbeats 400000 in
theorem bef_raw (a b : Int) (w : World) :
    Calls Try.prog 28 #[.int .i64 a, .int .i64 b] w fun e w' => e = .returned (.bool (befB a b)) ∧ w = w' := by
  by_cases h : 0 ≤ a ∧ a < 65536 ∧ 0 ≤ b ∧ b < 65536
  · obtain ⟨h1, h2, h3, h4⟩ := h
    have hd := dst_bd a b
    go_enter Try.func28, Try.ntmps28
    go_wp2_with fail
    refine (dist_ok a b _ h1 h2 h3 h4).mono ?_
    rintro e w' ⟨rfl, rfl⟩
    have HB := Lib.hid (show befB a b = decide (1 ≤ dst a b ∧ dst a b < 32768) from by unfold befB; exact decide_eq_decide.2 (by omega))
    generalize dst a b = d at hd HB ⊢
    go_wp2_with fail
    all_goals
      go_ret
      refine ⟨ret_bool ?_, rfl⟩
      rw [HB.out]
      first
        | exact (decide_eq_true (by omega)).symm
        | exact (decide_eq_false (by omega)).symm
        | exact decide_eq_decide.2 (by omega)
  · have HB := Lib.hid (show befB a b = false from by unfold befB; exact decide_eq_false (by omega))
    rw [HB.out]
    go_enter Try.func28, Try.ntmps28
    go_wp2_with fail
    refine (dist_bad a b _ h).mono ?_
    rintro e w' ⟨rfl, rfl⟩
    go_wp2_with fail
    go_ret
    exact ⟨rfl, rfl⟩

inductive Rls : Int → (Int → Option Int) → List Int → Int → (Int → Option Int) → List Int → Prop
  | stop {x : Int} {H : Int → Option Int} {o : List Int} : H x = none → Rls x H o x H o
  | go {x v x' : Int} {H H' : Int → Option Int} {o o' : List Int} : H x = some v → Rls ((x + 1) % 65536) (mDel H x) (o ++ [v]) x' H' o' → Rls x H o x' H' o'
inductive Skp (b : Int) : Int → (Int → Option Int) → List Int → Int → (Int → Option Int) → List Int → Prop
  | stop {x : Int} {H : Int → Option Int} {o : List Int} : befB x b = false → Skp b x H o x H o
  | go {x x' : Int} {H H' : Int → Option Int} {o o' : List Int} : befB x b = true → Skp b ((x + 1) % 65536) (mDel H x) (o ++ (H x).toList) x' H' o' → Skp b x H o x' H' o'

/-- How many numbers are held. -/
def cntN (n : Nat) (H : Int → Option Int) : Nat := (List.range n).countP fun k : Nat => (H (k : Int)).isSome
theorem countP_lt {α : Type} {p q : α → Bool} : ∀ {l : List α} {a : α}, (∀ x ∈ l, q x = true → p x = true) → a ∈ l → p a = true → q a = false → l.countP q < l.countP p
  | b :: l, a, hi, hm, hp, hq => by
    rw [List.countP_cons, List.countP_cons]
    rcases List.mem_cons.1 hm with rfl | hm
    · have := List.countP_mono_left (l := l) (fun x hx hqx => hi x (by simp [hx]) hqx)
      rw [if_neg (by rw [hq]; simp), if_pos hp]
      omega
    · have := countP_lt (fun x hx hqx => hi x (by simp [hx]) hqx) hm hp hq
      by_cases hb : q b = true
      · rw [if_pos hb, if_pos (hi b (by simp) hb)]
        omega
      · rw [if_neg hb]
        split <;> omega
theorem cntN_del {n : Nat} {H : Int → Option Int} {x v : Int} (hx : 0 ≤ x ∧ x < n) (h : H x = some v) : cntN n (mDel H x) < cntN n H := by
  obtain ⟨k, rfl⟩ : ∃ k : Nat, x = k := ⟨x.toNat, by omega⟩
  refine countP_lt (a := k) (fun j _ hj => ?_) (List.mem_range.2 (by omega)) (by rw [h]; rfl) (by rw [mDel_same]; rfl)
  by_cases e : (j : Int) = (k : Int)
  · rw [e, mDel_same] at hj; cases hj
  · rw [mDel_other H e] at hj; exact hj
theorem cntN_le (n : Nat) (H : Int → Option Int) : cntN n H ≤ n := by
  have := List.countP_le_length (l := List.range n) (p := fun k : Nat => (H (k : Int)).isSome)
  rw [List.length_range] at this
  exact this
def cnt (H : Int → Option Int) : Nat := cntN 65536 H
theorem cnt_del {H : Int → Option Int} {x v : Int} (hx : 0 ≤ x ∧ x < 65536) (h : H x = some v) : cnt (mDel H x) < cnt H := cntN_del ⟨hx.1, hx.2⟩ h
theorem cnt_le (H : Int → Option Int) : cnt H ≤ 65536 := cntN_le 65536 H

def Frm (w wr : World) (r m base : Nat) : Prop := ∃ S, Chg S w wr ∧ ∀ j ∈ S, j = r ∨ j = m ∨ base ≤ j
theorem Frm.refl (w : World) (r m base : Nat) : Frm w w r m base := ⟨[], Chg.refl _ _, by simp⟩
theorem Frm.trans {a b w : World} {r m base : Nat} (h : Frm a b r m base) (k : Frm b w r m base) : Frm a w r m base := by
  obtain ⟨S, h1, h2⟩ := h
  obtain ⟨T, k1, k2⟩ := k
  exact ⟨S ++ T, (h1.mono (S' := S ++ T) (by intro x hx; exact .inl (by simp [hx]))).trans k1 (fun x hx => .inl (by simp [hx])), fun j hj => by
    rcases List.mem_append.1 hj with hj | hj
    · exact h2 j hj
    · exact k2 j hj⟩
theorem Frm.size {a b : World} {r m base : Nat} (h : Frm a b r m base) : a.heap.size ≤ b.heap.size := by
  obtain ⟨S, h1, _⟩ := h
  exact h1.size
theorem Frm.quiet {a b : World} {r m base : Nat} (h : Chg [] a b) : Frm a b r m base := ⟨[], h, by simp⟩

def OutPost (R : Int → (Int → Option Int) → List Int → Prop) (w : World) (B r m n base M : Nat) (wd : Int) (e : Ending) (w' : World) : Prop :=
  ∃ A c N x' H' o', e = .returned (.slice A N c) ∧ w'.ownsRow base 3 1 (.slice A N c) N (o'.map (Value.int .i64)) ∧ N ≤ M ∧ RV w' B r m n wd x' H' ∧ R x' H' o' ∧ Frm w w' r m base

/-- What stands at the head of release's loop. -/
def RlRel (C : (Int → Option Int) → Nat) (w wr : World) (B r m n base M : Nat) (wd x : Int) (H : Int → Option Int) (o : List Int) (gk : Nat) (v : Value) : Prop :=
  ∃ A c N x1 H1 o1, v = .slice A N c ∧ wr.ownsRow base 3 1 (.slice A N c) N (o1.map (Value.int .i64)) ∧ RV wr B r m n wd x1 H1 ∧ (∀ x' H' o', Rls x1 H1 o1 x' H' o' → Rls x H o x' H' o') ∧ gk = C H1 ∧ N + C H1 ≤ M ∧ Frm w wr r m base

set_option maxHeartbeats 4000000 in
theorem release_c {w : World} {B r m n base N c M : Nat} {wd x : Int} {H : Int → Option Int} {o : List Int} {A : Option Addr} (h : RV w B r m n wd x H) (hout : w.ownsRow base 3 1 (.slice A N c) N (o.map (Value.int .i64))) (hM : N + 65536 ≤ M) (hM2 : M ≤ 100000) (hbase : base ≤ w.heap.size) (hr : r < base) (hm : m < base) :
    Calls Try.prog 29 #[.pointer (some ⟨r, 0, none⟩), .slice A N c] w (OutPost (Rls x H o) w B r m n base M wd) := by
  obtain ⟨C, hC1, hC2⟩ : ∃ C : (Int → Option Int) → Nat, (∀ (H : Int → Option Int) (x v : Int), 0 ≤ x ∧ x < 65536 → H x = some v → C (mDel H x) < C H) ∧ ∀ H, C H ≤ 65536 := ⟨cnt, fun H x v => cnt_del, cnt_le⟩
  have HCC := Lib.hid (And.intro hC1 hC2)
  clear hC1 hC2
  have HI := Lib.hid (show RlRel C w w B r m n base M wd x H o (C H) (.slice A N c) from ⟨A, c, N, x, H, o, rfl, hout, h, fun _ _ _ h => h, rfl, by have := HCC.out.2 H; omega, Frm.refl _ _ _ _⟩)
  clear h hout hM
  go_enter Try.func29, Try.ntmps29
  go_wp2_with fail
  go_loopg [1] (C H) (fun gk v wr => RlRel C w wr B r m n base M wd x H o gk v)
  case atStart => exact HI.out
  case round =>
    clear HI
    obtain ⟨A1, c1, N1, x1, H1, o1, rfl, hown, hV, hR, rfl, hN, hF⟩ := hrel
    have hroA : r ∉ ownL (.slice A1 N1 c1) := fun hj => by have := (ownL_lt hown r hj).1; omega
    have hmoA : m ∉ ownL (.slice A1 N1 c1) := fun hj => by have := (ownL_lt hown m hj).1; omega
    have e1 := (hV.hr.cell 1).trans rfl
    have e2 := (hV.hr.cell 2).trans rfl
    have hlk' : ∀ j : Nat, (Instr.lookup 56 (.map (some m)) (.int .i64 x1) true).run Try.prog (wr.drewN j) = .ok (.tuple #[.int .i64 ((H1 x1).getD 0), .bool (H1 x1).isSome]) (wr.drewN j) := fun j => (hV.hm.chg ((Chg.refl [] wr).drewN j) (by simp)).look (wf_seq hV.hx)
    have hlk := hlk' 0
    have HV := Lib.hid hV
    have HO := Lib.hid hown
    have HR := Lib.hid hR
    have HF := Lib.hid hF
    have HAO := Lib.hid hroA
    have HMO := Lib.hid hmoA
    cases hH : H1 x1 with
    | none =>
      rw [hH] at hlk hlk'
      have HH := Lib.hid hH
      clear hV hown hR hF hroA hmoA hH
      go_wp2_with fail
      go_quiet (fail)
      go_wp2_with fail
      go_ret
      exact ⟨A1, c1, N1, x1, H1, o1, rfl, own_drewN HO.out _, by omega, HV.out.chg ((Chg.refl [] _).drewN _) (by simp) (by simp), HR.out _ _ _ (.stop HH.out), HF.out.trans (Frm.quiet ((Chg.refl [] _).drewN _))⟩
    | some v =>
      rw [hH] at hlk hlk'
      have HH := Lib.hid hH
      have HCt := Lib.hid (HCC.out.1 H1 x1 v hV.hx hH)
      have HFs := Lib.hid hF.size
      clear hV hown hR hF hroA hmoA hH
      go_wp2_with fail
      go_quiet (fail)
      go_wp2_with fail
      refine (rnext_some (HV.out.chg ((Chg.refl [] _).drewN _) (by simp) (by simp)) HH.out (own_drewN HO.out _) (by omega) (by have := HFs.out; simpa using (by omega : base ≤ wr.heap.size)) HAO.out HMO.out).mono ?_
      rintro e w2 ⟨A2, c2, N2, rfl, hown2, hV2, hF2⟩
      have hl2 : N2 = N1 + 1 := by
        have a := hown2.1
        have b := HO.out.1
        rw [HH.out] at a
        simp at a b
        omega
      subst hl2
      rw [HH.out] at hown2
      have HREL := Lib.hid (show RlRel C w w2 B r m n base M wd x H o (C (mDel H1 x1)) (.slice A2 (N1 + 1) c2) from ⟨A2, c2, N1 + 1, _, _, o1 ++ [v], rfl, hown2, hV2, fun x' H' o' h => HR.out x' H' o' (.go HH.out h), rfl, by have := HCt.out; omega, (HF.out.trans (Frm.quiet ((Chg.refl [] _).drewN _))).trans hF2⟩)
      clear hown2 hV2 hF2
      go_wp2_with fail
      go_roundg (C (mDel H1 x1))
      case measure => exact HCt.out
      case rel => exact HREL.out

/-- What stands at the head of skip's loop. -/
def SkRel (w wr : World) (B r m n base : Nat) (wd b x : Int) (H : Int → Option Int) (gk : Nat) (v : Value) : Prop :=
  ∃ A c N x1 H1 o1, v = .slice A N c ∧ wr.ownsRow base 3 1 (.slice A N c) N (o1.map (Value.int .i64)) ∧ RV wr B r m n wd x1 H1 ∧ (∀ x' H' o', Skp b x1 H1 o1 x' H' o' → Skp b x H [] x' H' o') ∧ gk = (if befB x1 b = true then (dst x1 b).toNat else 0) ∧ N + gk ≤ 32768 ∧ Frm w wr r m base

theorem bef_step {x b : Int} (hx : 0 ≤ x ∧ x < 65536) (h : befB x b = true) : (if befB ((x + 1) % 65536) b = true then (dst ((x + 1) % 65536) b).toNat else 0) < (dst x b).toNat ∧ (dst x b).toNat ≤ 32768 := by
  unfold befB at h
  have h := of_decide_eq_true h
  have e : dst ((x + 1) % 65536) b = dst x b - 1 := by unfold dst at *; omega
  rw [e]
  split <;> omega

set_option maxHeartbeats 4000000 in
theorem skip_c {w : World} {B r m n base : Nat} {wd x b : Int} {H : Int → Option Int} (h : RV w B r m n wd x H) (hbase : base ≤ w.heap.size) (hr : r < base) (hm : m < base) :
    Calls Try.prog 27 #[.pointer (some ⟨r, 0, none⟩), .int .i64 b] w (OutPost (Skp b x H []) w B r m n base 32768 wd) := by
  have HI := Lib.hid (show SkRel w w B r m n base wd b x H (if befB x b = true then (dst x b).toNat else 0) (.slice none 0 0) from ⟨none, 0, 0, x, H, [], rfl, World.ownsRow_nil _ _ _ _, h, fun _ _ _ h => h, rfl, by
    split
    · rename_i hb; have := (bef_step h.hx hb).2; omega
    · omega, Frm.refl _ _ _ _⟩)
  clear h
  go_enter Try.func27, Try.ntmps27
  go_wp2_with fail
  go_loopg [5] (if befB x b = true then (dst x b).toNat else 0) (fun gk v wr => SkRel w wr B r m n base wd b x H gk v)
  case atStart => exact HI.out
  case round =>
    clear HI
    obtain ⟨A1, c1, N1, x1, H1, o1, rfl, hown, hV, hR, hg, hN, hF⟩ := hrel
    have hroA : r ∉ ownL (.slice A1 N1 c1) := fun hj => by have := (ownL_lt hown r hj).1; omega
    have hmoA : m ∉ ownL (.slice A1 N1 c1) := fun hj => by have := (ownL_lt hown m hj).1; omega
    have e1 := (hV.hr.cell 1).trans rfl
    have HV := Lib.hid hV
    have HO := Lib.hid hown
    have HR := Lib.hid hR
    have HF := Lib.hid hF
    have HFs := Lib.hid hF.size
    have HAO := Lib.hid hroA
    have HMO := Lib.hid hmoA
    have HBf := Lib.hid (fun W : World => bef_raw x1 b W)
    have HX := Lib.hid hV.hx
    cases hb : befB x1 b with
    | false =>
      rw [hb] at HBf
      have HB := Lib.hid hb
      clear hV hown hR hF hroA hmoA hb hg
      go_wp2_with fail
      refine (HBf.out _).mono ?_
      rintro e w' ⟨rfl, rfl⟩
      go_wp2_with fail
      go_ret
      exact ⟨A1, c1, N1, x1, H1, o1, rfl, HO.out, by omega, HV.out, HR.out _ _ _ (.stop HB.out), HF.out⟩
    | true =>
      rw [hb] at HBf
      rw [hb, if_pos rfl] at hg
      have HB := Lib.hid hb
      have HG := Lib.hid hg
      have HSt := Lib.hid (bef_step hV.hx hb)
      clear hV hown hR hF hroA hmoA hb hg
      have hN0 : N1 ≤ 100000 := by omega
      go_wp2_with fail
      refine (HBf.out _).mono ?_
      rintro e w' ⟨rfl, rfl⟩
      go_wp2_with fail
      cases hH : H1 x1 with
      | none =>
        refine (rnext_none HV.out hH HO.out HAO.out).mono ?_
        rintro e w2 ⟨A2, c2, N2, rfl, hown2, hV2, hF2⟩
        have hl2 : N2 ≤ N1 + 1 := by
          have a := hown2.1
          have b := HO.out.1
          rw [hH] at a
          simp at a b
          omega
        have HREL := Lib.hid (show SkRel w w2 B r m n base wd b x H (if befB ((x1 + 1) % 65536) b = true then (dst ((x1 + 1) % 65536) b).toNat else 0) (.slice A2 N2 c2) from ⟨A2, c2, N2, _, _, _, rfl, hown2, hV2, fun x' H' o' h => HR.out x' H' o' (.go HB.out h), rfl, by have := HSt.out.1; have := HG.out; omega, HF.out.trans hF2⟩)
        clear hown2 hV2 hF2 hH
        go_wp2_with fail
        go_roundg (if befB ((x1 + 1) % 65536) b = true then (dst ((x1 + 1) % 65536) b).toNat else 0)
        case measure => rw [HG.out]; exact HSt.out.1
        case rel => exact HREL.out
      | some v =>
        refine (rnext_some HV.out hH HO.out hN0 (by have := HFs.out; omega) HAO.out HMO.out).mono ?_
        rintro e w2 ⟨A2, c2, N2, rfl, hown2, hV2, hF2⟩
        have hl2 : N2 ≤ N1 + 1 := by
          have a := hown2.1
          have b := HO.out.1
          rw [hH] at a
          simp at a b
          omega
        have HREL := Lib.hid (show SkRel w w2 B r m n base wd b x H (if befB ((x1 + 1) % 65536) b = true then (dst ((x1 + 1) % 65536) b).toNat else 0) (.slice A2 N2 c2) from ⟨A2, c2, N2, _, _, _, rfl, hown2, hV2, fun x' H' o' h => HR.out x' H' o' (.go HB.out h), rfl, by have := HSt.out.1; have := HG.out; omega, HF.out.trans hF2⟩)
        clear hown2 hV2 hF2 hH
        go_wp2_with fail
        go_roundg (if befB ((x1 + 1) % 65536) b = true then (dst ((x1 + 1) % 65536) b).toNat else 0)
        case measure => rw [HG.out]; exact HSt.out.1
        case rel => exact HREL.out

end Go.Proofs.Ytgkdlplocahnnaa
