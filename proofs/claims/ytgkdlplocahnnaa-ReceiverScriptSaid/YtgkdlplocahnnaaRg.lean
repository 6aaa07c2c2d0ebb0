/- Receive and Skip, of the receiver and of its reference, each in one contract for arbitrary numbers. -/
import Derived.Test.YtgkdlplocahnnaaRc
namespace Go.Proofs.Ytgkdlplocahnnaa
open Go.RowKit Go.Maps
set_option linter.unusedVariables false
set_option linter.unusedSimpArgs false

/-- What Receive does to the state: its error, what it releases, the state behind it. -/
inductive RcvO (x wd b q id : Int) (H : Int → Option Int) : Int → List Int → Int → (Int → Option Int) → Prop
  | bad {E : Int} : rcE x wd b q id = E → E ≠ 0 → RcvO x wd b q id H E [] x H
  | ok {x1 x2 : Int} {H1 H2 : Int → Option Int} {o1 o2 : List Int} : rcE x wd b q id = 0 → Skp b x H [] x1 H1 o1 → Rls x1 (stH H1 x1 q id) o1 x2 H2 o2 → RcvO x wd b q id H 0 o2 x2 H2
inductive SkO (x wd b : Int) (H : Int → Option Int) : Int → List Int → Int → (Int → Option Int) → Prop
  | bad {E : Int} : mvE x wd b = E → E ≠ 0 → SkO x wd b H E [] x H
  | ok {x1 x2 : Int} {H1 H2 : Int → Option Int} {o1 o2 : List Int} : mvE x wd b = 0 → Skp b x H [] x1 H1 o1 → Rls x1 H1 o1 x2 H2 o2 → SkO x wd b H 0 o2 x2 H2

theorem RcvO.det {x wd b q id : Int} {H : Int → Option Int} {E E' x2 x2' : Int} {o o' : List Int} {H2 H2' : Int → Option Int} (h : RcvO x wd b q id H E o x2 H2) (h' : RcvO x wd b q id H E' o' x2' H2') : E = E' ∧ o = o' ∧ x2 = x2' ∧ H2 = H2' := by
  cases h with
  | bad h1 h2 =>
    cases h' with
    | bad h3 h4 => exact ⟨h1.symm.trans h3, rfl, rfl, rfl⟩
    | ok h3 _ _ => exact absurd (h1.symm.trans h3) h2
  | ok h1 hS hR =>
    cases h' with
    | bad h3 h4 => exact absurd (h3.symm.trans h1) h4
    | ok h3 hS' hR' =>
      obtain ⟨rfl, rfl, rfl⟩ := hS.det hS'
      obtain ⟨rfl, rfl, rfl⟩ := hR.det hR'
      exact ⟨rfl, rfl, rfl, rfl⟩
theorem SkO.det {x wd b : Int} {H : Int → Option Int} {E E' x2 x2' : Int} {o o' : List Int} {H2 H2' : Int → Option Int} (h : SkO x wd b H E o x2 H2) (h' : SkO x wd b H E' o' x2' H2') : E = E' ∧ o = o' ∧ x2 = x2' ∧ H2 = H2' := by
  cases h with
  | bad h1 h2 =>
    cases h' with
    | bad h3 h4 => exact ⟨h1.symm.trans h3, rfl, rfl, rfl⟩
    | ok h3 _ _ => exact absurd (h1.symm.trans h3) h2
  | ok h1 hS hR =>
    cases h' with
    | bad h3 h4 => exact absurd (h3.symm.trans h1) h4
    | ok h3 hS' hR' =>
      obtain ⟨rfl, rfl, rfl⟩ := hS.det hS'
      obtain ⟨rfl, rfl, rfl⟩ := hR.det hR'
      exact ⟨rfl, rfl, rfl, rfl⟩

theorem rcE_ok {x wd b q id : Int} (h : rcE x wd b q id = 0) : (seqP b ∧ seqP q ∧ 1 ≤ id) ∧ mvE x wd b = 0 ∧ insB b wd q = true := by
  unfold rcE at h
  by_cases h1 : seqP b ∧ seqP q ∧ 1 ≤ id
  · rw [if_pos h1] at h
    by_cases h2 : mvE x wd b = 0 ∧ insB b wd q = true
    · exact ⟨h1, h2⟩
    · rw [if_neg h2] at h; cases h
  · rw [if_neg h1] at h; cases h
theorem RcvO.bd {x wd b q id : Int} {H : Int → Option Int} {E x2 : Int} {o : List Int} {H2 : Int → Option Int} (h : RcvO x wd b q id H E o x2 H2) (hB : Bd x wd H) (hx : 0 ≤ x ∧ x < 65536) (hw : 1 ≤ wd ∧ wd ≤ 64) : Bd x2 wd H2 := by
  cases h with
  | bad _ _ => exact hB
  | @ok x1 x2 H1 H2 o1 o2 h1 hS hR =>
    obtain ⟨⟨hb, hq, hid⟩, hm, hi⟩ := rcE_ok h1
    obtain ⟨hB1, hx1⟩ := skp_bd hS hx hB
    refine (rls_bd hR hx1 ?_).1
    unfold stH
    split
    · exact hB1
    · rename_i hn
      simp only [not_or] at hn
      have he := skp_end hS hx hb
      refine hB1.put hq ?_ hid
      have h2 : befB q x1 = false := by cases hh : befB q x1 with | false => rfl | true => exact absurd hh hn.2
      subst he
      exact ins_dst hx hw hm hi h2
theorem SkO.bd {x wd b : Int} {H : Int → Option Int} {E x2 : Int} {o : List Int} {H2 : Int → Option Int} (h : SkO x wd b H E o x2 H2) (hB : Bd x wd H) (hx : 0 ≤ x ∧ x < 65536) : Bd x2 wd H2 := by
  cases h with
  | bad _ _ => exact hB
  | ok h1 hS hR =>
    obtain ⟨hB1, hx1⟩ := skp_bd hS hx hB
    exact (rls_bd hR hx1 hB1).1
/-- An error changes nothing. -/
theorem RcvO.same {x wd b q id : Int} {H : Int → Option Int} {E x2 : Int} {o : List Int} {H2 : Int → Option Int} (h : RcvO x wd b q id H E o x2 H2) (hE : E ≠ 0) : x2 = x ∧ H2 = H := by
  cases h with
  | bad _ _ => exact ⟨rfl, rfl⟩
  | ok _ _ _ => exact absurd rfl hE

/-- What a call of the program's leaves. -/
def RvPost (R : Int → List Int → Int → (Int → Option Int) → Prop) (w : World) (B r m n : Nat) (wd : Int) (e : Ending) (w' : World) : Prop :=
  ∃ A c g E o x2 H2, e = .returned (.tuple #[.slice A o.length c, .int .i64 E]) ∧ R E o x2 H2 ∧ Rd w' g A o ∧ w.heap.size ≤ g ∧ RV w' B r m n wd x2 H2 ∧ Frm w w' r m w.heap.size
/-- What a call of the reference's leaves. -/
def RqPost (R : Int → List Int → Int → (Int → Option Int) → Prop) (w : World) (B s : Nat) (O : List Nat) (wd : Int) (e : Ending) (w' : World) : Prop :=
  ∃ A c g E o x2 H2 O', e = .returned (.tuple #[.slice A o.length c, .int .i64 E]) ∧ R E o x2 H2 ∧ Rd w' g A o ∧ w.heap.size ≤ g ∧ RF w' B s O' wd x2 (lst x2 H2) ∧ (∀ j ∈ O', j ∈ O ∨ w.heap.size ≤ j) ∧ Chg [s] w w'

theorem rv_rcv {w : World} {B r m n : Nat} {wd x : Int} {H : Int → Option Int} (h : RV w B r m n wd x H) (hn : n ≤ 100000) (b q id : Int) (hid : id ≤ 9223372036854775807) :
    Calls Try.prog 10 #[.pointer (some ⟨r, 0, none⟩), .int .i64 b, .int .i64 q, .int .i64 id] w (RvPost (RcvO x wd b q id H) w B r m (n + 1) wd) := by
  by_cases h1 : seqP b ∧ seqP q ∧ 1 ≤ id
  · by_cases h2 : mvE x wd b = 0 ∧ insB b wd q = true
    · refine (receive_ok h hn h1 hid h2.1 h2.2).mono ?_
      rintro e w' ⟨A, c, N, x1, H1, o1, x2, H2, o2, rfl, hown, hN, hS, hR, hV, hF⟩
      obtain ⟨hl, g, hg, hRd, _⟩ := own_rdr hown (by have := hown.1; simp at this; omega)
      subst hl
      exact ⟨A, c, g, 0, o2, x2, H2, rfl, .ok (by unfold rcE; rw [if_pos h1, if_pos h2]) hS hR, hRd, hg, hV, hF⟩
    · refine (receive_out h h1 h2).mono ?_
      rintro e w' ⟨rfl, hc⟩
      exact ⟨none, 0, w.heap.size, 2, [], x, H, rfl, .bad (by unfold rcE; rw [if_pos h1, if_neg h2]) (by omega), Rd.nil _ _ _, Nat.le_refl _, (h.chg hc (by simp) (by simp)).mono (by omega), Frm.quiet hc⟩
  · refine (receive_bad h h1).mono ?_
    rintro e w' ⟨rfl, hc⟩
    exact ⟨none, 0, w.heap.size, 1, [], x, H, rfl, .bad (by unfold rcE; rw [if_neg h1]) (by omega), Rd.nil _ _ _, Nat.le_refl _, (h.chg hc (by simp) (by simp)).mono (by omega), Frm.quiet hc⟩

theorem rv_skip {w : World} {B r m n : Nat} {wd x : Int} {H : Int → Option Int} (h : RV w B r m n wd x H) (b : Int) :
    Calls Try.prog 19 #[.pointer (some ⟨r, 0, none⟩), .int .i64 b] w (RvPost (SkO x wd b H) w B r m n wd) := by
  by_cases h1 : mvE x wd b = 0
  · refine (rvskip_ok h h1).mono ?_
    rintro e w' ⟨A, N, c, rfl, x1, H1, o1, x2, H2, o2, hown, hN, hS, hR, hV, hF⟩
    obtain ⟨hl, g, hg, hRd, _⟩ := own_rdr hown (by have := hown.1; simp at this; omega)
    subst hl
    exact ⟨A, c, g, 0, o2, x2, H2, rfl, .ok h1 hS hR, hRd, hg, hV, hF⟩
  · refine (rvskip_bad h h1).mono ?_
    rintro e w' ⟨rfl, hc⟩
    exact ⟨none, 0, w.heap.size, _, [], x, H, rfl, .bad rfl h1, Rd.nil _ _ _, Nat.le_refl _, h.chg hc (by simp) (by simp), Frm.quiet hc⟩

theorem rf_rcv {w : World} {B s : Nat} {O : List Nat} {wd x : Int} {H : Int → Option Int} (h : RF w B s O wd x (lst x H)) (hBd : Bd x wd H) (hB : B ≤ w.heap.size) (b q id : Int) :
    Calls Try.prog 22 #[.pointer (some ⟨s, 0, none⟩), .int .i64 b, .int .i64 q, .int .i64 id] w (RqPost (RcvO x wd b q id H) w B s O wd) := by
  by_cases h1 : seqP b ∧ seqP q ∧ 1 ≤ id
  · by_cases h2 : mvE x wd b = 0 ∧ insB b wd q = true
    · refine (rrcv_ok h hBd hB h1 h2.1 h2.2).mono ?_
      rintro e w' ⟨A, N, c, rfl, x1, H1, o1, x2, H2, o2, O', hown, hN, hS, hR, hV, hO, hc⟩
      obtain ⟨hl, g, hg, hRd, _⟩ := own_rdr hown (by have := hown.1; simp at this; omega)
      subst hl
      exact ⟨A, c, g, 0, o2, x2, H2, O', rfl, .ok (by unfold rcE; rw [if_pos h1, if_pos h2]) hS hR, hRd, hg, hV, hO, hc⟩
    · refine (rrcv_out h h1 h2).mono ?_
      rintro e w' ⟨rfl, hc⟩
      exact ⟨none, 0, w.heap.size, 2, [], x, H, O, rfl, .bad (by unfold rcE; rw [if_pos h1, if_neg h2]) (by omega), Rd.nil _ _ _, Nat.le_refl _, h.chg hc (by simp) (by simp), fun j hj => .inl hj, hc.mono (by simp)⟩
  · refine (rrcv_bad h h1).mono ?_
    rintro e w' ⟨rfl, hc⟩
    exact ⟨none, 0, w.heap.size, 1, [], x, H, O, rfl, .bad (by unfold rcE; rw [if_neg h1]) (by omega), Rd.nil _ _ _, Nat.le_refl _, h.chg hc (by simp) (by simp), fun j hj => .inl hj, hc.mono (by simp)⟩

theorem rf_skip {w : World} {B s : Nat} {O : List Nat} {wd x : Int} {H : Int → Option Int} (h : RF w B s O wd x (lst x H)) (hBd : Bd x wd H) (hB : B ≤ w.heap.size) (b : Int) :
    Calls Try.prog 20 #[.pointer (some ⟨s, 0, none⟩), .int .i64 b] w (RqPost (SkO x wd b H) w B s O wd) := by
  by_cases h1 : mvE x wd b = 0
  · refine (rskip_ok h hBd hB h1).mono ?_
    rintro e w' ⟨A, N, c, rfl, x1, H1, o1, x2, H2, o2, O', hown, hN, hS, hR, hV, hO, hc⟩
    obtain ⟨hl, g, hg, hRd, _⟩ := own_rdr hown (by have := hown.1; simp at this; omega)
    subst hl
    exact ⟨A, c, g, 0, o2, x2, H2, O', rfl, .ok h1 hS hR, hRd, hg, hV, hO, hc⟩
  · refine (rskip_bad h h1).mono ?_
    rintro e w' ⟨rfl, hc⟩
    exact ⟨none, 0, w.heap.size, _, [], x, H, O, rfl, .bad rfl h1, Rd.nil _ _ _, Nat.le_refl _, h.chg hc (by simp) (by simp), fun j hj => .inl hj, hc.mono (by simp)⟩

/-- The receiver, its reference and the choices, side by side; all lie below block B0, but for the reference's row. -/
structure Pr (w0 w : World) (B0 r m s c : Nat) (zs : List Int) (k n : Nat) (wd x : Int) (H : Int → Option Int) : Prop where
  V : RV w w0.heap.size r m n wd x H
  F : ∃ O, RF w w0.heap.size s O wd x (lst x H) ∧ ∀ j ∈ O, B0 ≤ j
  Bd : Bd x wd H
  C : Cho w w0.heap.size c zs k
  K : Chg [] w0 w
  z0 : w0.heap.size ≤ B0
  z1 : B0 ≤ w.heap.size
  rB : r < B0
  mB : m < B0
  sB : s < B0
  cB : c < B0
  sr : s ≠ r
  sm : s ≠ m
  cr : c ≠ r
  cm : c ≠ m
  cs : c ≠ s
section
variable {w0 w w' : World} {B0 r m s c : Nat} {zs : List Int} {k n : Nat} {wd x : Int} {H : Int → Option Int}
theorem Pr.quiet (h : Pr w0 w B0 r m s c zs k n wd x H) (hc : Chg [] w w') : Pr w0 w' B0 r m s c zs k n wd x H := by
  obtain ⟨O, h1, h2⟩ := h.F
  exact ⟨h.V.chg hc (by simp) (by simp), ⟨O, h1.chg hc (by simp) (by simp), h2⟩, h.Bd, h.C.chg hc (by simp) (by simp), h.K.trans hc (by simp), h.z0, Nat.le_trans h.z1 hc.size, h.rB, h.mB, h.sB, h.cB, h.sr, h.sm, h.cr, h.cm, h.cs⟩
theorem Pr.drawn {k' : Nat} (h : Pr w0 w B0 r m s c zs k n wd x H) (hc : Chg [c] w w') (hC : Cho w' w0.heap.size c zs k') : Pr w0 w' B0 r m s c zs k' n wd x H := by
  obtain ⟨O, h1, h2⟩ := h.F
  exact ⟨h.V.chg hc (by simp; exact fun e => h.cr e.symm) (by simp; exact fun e => h.cm e.symm), ⟨O, h1.chg hc (by simp; exact fun e => h.cs e.symm) (fun j hj => by simp; have := h2 j hj; have := h.cB; omega), h2⟩, h.Bd, hC, h.K.trans hc (by simp; exact hC.le), h.z0, Nat.le_trans h.z1 hc.size, h.rB, h.mB, h.sB, h.cB, h.sr, h.sm, h.cr, h.cm, h.cs⟩
/-- A call of the program's, then the same of the reference's. -/
theorem Pr.both {w1 : World} {n' : Nat} {x2 : Int} {H2 : Int → Option Int} {O2 : List Nat} (h : Pr w0 w B0 r m s c zs k n wd x H) (hV : RV w1 w0.heap.size r m n' wd x2 H2) (hF : Frm w w1 r m w.heap.size)
    (hR : RF w' w0.heap.size s O2 wd x2 (lst x2 H2)) (hO : ∀ j ∈ O2, B0 ≤ j) (hc : Chg [s] w1 w') (hb : _root_.Go.Proofs.Ytgkdlplocahnnaa.Bd x2 wd H2) : Pr w0 w' B0 r m s c zs k n' wd x2 H2 := by
  have k1 := hF.chg h.K h.V.Br h.V.Bm h.K.size
  have c1 := hF.cho h.C h.cr h.cm h.C.lt h.V.Br h.V.Bm h.K.size
  refine ⟨hV.chg hc (by simp; exact fun e => h.sr e.symm) (by simp; exact fun e => h.sm e.symm), ⟨O2, hR, hO⟩, hb, c1.chg hc (by simp; exact h.cs) (by simp; exact hR.Bs), k1.trans hc (by simp; exact hR.Bs), h.z0, Nat.le_trans h.z1 (Nat.le_trans hF.size hc.size), h.rB, h.mB, h.sB, h.cB, h.sr, h.sm, h.cr, h.cm, h.cs⟩
/-- The reference's state is as it was behind a call of the program's. -/
theorem Pr.ref {w1 : World} (h : Pr w0 w B0 r m s c zs k n wd x H) (hF : Frm w w1 r m w.heap.size) : ∃ O, RF w1 w0.heap.size s O wd x (lst x H) ∧ ∀ j ∈ O, B0 ≤ j := by
  obtain ⟨O, h1, h2⟩ := h.F
  obtain ⟨S, k1, k2⟩ := hF
  refine ⟨O, h1.chg k1 (fun hj => ?_) (fun j hj hjS => ?_), h2⟩
  · rcases k2 s hj with e | e | e
    · exact h.sr e
    · exact h.sm e
    · have := h1.lt; omega
  · have a1 := h2 j hj
    have a2 := h1.Ol j hj
    have a3 := h.rB
    have a4 := h.mB
    rcases k2 j hjS with e | e | e <;> omega
end

end Go.Proofs.Ytgkdlplocahnnaa
