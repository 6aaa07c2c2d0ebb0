/- The queue and its reference side by side: each call as one contract. -/
import Derived.Test.YtdlehpohpdepkaaQh
namespace Go.Proofs.Ytdlehpohpdepkaa
open Go.RowKit
set_option linter.unusedVariables false
set_option linter.unusedSimpArgs false

/-- The queue, its reference and the choices, side by side; all lie below block B0, but for the two rows; the blocks G are no part of them. -/
structure Pz (w0 w : World) (B0 q r c : Nat) (G : List Nat) (zs : List Int) (k : Nat) (most mb : Int) (ps : List Pk) (most' mb' : Int) (ps' : List Pk) : Prop where
  SR : ∃ O O', QA w w0.heap.size q O most mb ps ∧ QF w w0.heap.size r O' most' mb' ps' ∧ (∀ j ∈ O, B0 ≤ j ∧ j ∉ O' ∧ j < w.heap.size ∧ j ∉ G) ∧ ∀ j ∈ O', B0 ≤ j
  C : Cho w w0.heap.size c zs k
  K : Chg [] w0 w
  z0 : w0.heap.size ≤ B0
  z1 : B0 ≤ w.heap.size
  gB : ∀ g ∈ G, B0 ≤ g ∧ g < w.heap.size
  qB : q < B0
  rB : r < B0
  cB : c < B0
  qr : q ≠ r
  cq : c ≠ q
  cr : c ≠ r
section
variable {w0 w w' : World} {B0 q r c : Nat} {G : List Nat} {zs : List Int} {k : Nat} {most mb most' mb' : Int} {ps ps' : List Pk}
theorem Pz.quiet (h : Pz w0 w B0 q r c G zs k most mb ps most' mb' ps') (hc : Chg [] w w') : Pz w0 w' B0 q r c G zs k most mb ps most' mb' ps' := by
  obtain ⟨O, O', h1, h2, h3, h4⟩ := h.SR
  have hs := hc.size
  exact ⟨⟨O, O', h1.chg hc (by simp) (by simp), h2.chg hc (by simp) (by simp), fun j hj => by have := h3 j hj; exact ⟨this.1, this.2.1, by omega, this.2.2.2⟩, h4⟩, h.C.chg hc (by simp) (by simp), h.K.trans hc (by simp), h.z0, Nat.le_trans h.z1 hc.size, fun g hg => by have := h.gB g hg; omega, h.qB, h.rB, h.cB, h.qr, h.cq, h.cr⟩
theorem Pz.drawn {k' : Nat} (h : Pz w0 w B0 q r c G zs k most mb ps most' mb' ps') (hc : Chg [c] w w') (hC : Cho w' w0.heap.size c zs k') : Pz w0 w' B0 q r c G zs k' most mb ps most' mb' ps' := by
  obtain ⟨O, O', h1, h2, h3, h4⟩ := h.SR
  have a := h.cB
  have hs := hc.size
  exact ⟨⟨O, O', h1.chg hc (by simp; exact fun e => h.cq e.symm) (fun j hj => by simp; have := (h3 j hj).1; omega), h2.chg hc (by simp; exact fun e => h.cr e.symm) (fun j hj => by simp; have := h4 j hj; omega), fun j hj => by have := h3 j hj; exact ⟨this.1, this.2.1, by omega, this.2.2.2⟩, h4⟩, hC, h.K.trans hc (by simp; exact hC.le), h.z0, Nat.le_trans h.z1 hc.size, fun g hg => by have := h.gB g hg; omega, h.qB, h.rB, h.cB, h.qr, h.cq, h.cr⟩
/-- A new block is no part of them. -/
theorem Pz.add (h : Pz w0 w B0 q r c G zs k most mb ps most' mb' ps') (o : Obj) : Pz w0 (w.alloc o) B0 q r c (w.heap.size :: G) zs k most mb ps most' mb' ps' := by
  have h' := h.quiet ((Chg.refl [] w).alloc o)
  obtain ⟨O, O', h1, h2, h3, h4⟩ := h.SR
  have hs : (w.alloc o).heap.size = w.heap.size + 1 := by simp
  have hc : Chg [] w (w.alloc o) := (Chg.refl [] w).alloc o
  exact ⟨⟨O, O', h1.chg hc (by simp) (by simp), h2.chg hc (by simp) (by simp), fun j hj => by have := h3 j hj; exact ⟨this.1, this.2.1, by omega, by simp; exact ⟨by omega, this.2.2.2⟩⟩, h4⟩, h'.C, h'.K, h.z0, h'.z1, fun g hg => by
    rcases List.mem_cons.1 hg with rfl | hg
    · exact ⟨h.z1, by omega⟩
    · have := h.gB g hg; omega, h.qB, h.rB, h.cB, h.qr, h.cq, h.cr⟩
theorem Pz.sub {G' : List Nat} (h : Pz w0 w B0 q r c G zs k most mb ps most' mb' ps') (hG : ∀ g ∈ G', g ∈ G) : Pz w0 w B0 q r c G' zs k most mb ps most' mb' ps' := by
  obtain ⟨O, O', h1, h2, h3, h4⟩ := h.SR
  exact ⟨⟨O, O', h1, h2, fun j hj => by have := h3 j hj; exact ⟨this.1, this.2.1, this.2.2.1, fun hm => this.2.2.2 (hG j hm)⟩, h4⟩, h.C, h.K, h.z0, h.z1, fun g hg => h.gB g (hG g hg), h.qB, h.rB, h.cB, h.qr, h.cq, h.cr⟩
/-- A call of the program's. -/
theorem Pz.prog {O O' O1 : List Nat} {most1 mb1 : Int} {ps1 : List Pk} (h : Pz w0 w B0 q r c G zs k most mb ps most' mb' ps') (h2 : QF w w0.heap.size r O' most' mb' ps') (h1 : QA w w0.heap.size q O most mb ps) (h3 : ∀ j ∈ O, B0 ≤ j ∧ j ∉ O' ∧ j < w.heap.size ∧ j ∉ G) (h4 : ∀ j ∈ O', B0 ≤ j)
    (hS : QA w' w0.heap.size q O1 most1 mb1 ps1) (hO : ∀ j ∈ O1, j ∈ O ∨ w.heap.size ≤ j) (hc : Chg (q :: O) w w') : Pz w0 w' B0 q r c G zs k most1 mb1 ps1 most' mb' ps' ∧ ∀ g ∈ G, ∀ t cs, Blk w g t cs → Blk w' g t cs := by
  have a := h.qB
  have b := h.z1
  have d := h.z0
  obtain ⟨s1, s2, s3, s4, s5, A, cc, s6, s7, s8⟩ := hS
  have hol := ownL_lt s7
  refine ⟨⟨⟨ownL (.slice A ps1.length cc), O', ⟨s1, s2, s3, s4, s5, A, cc, s6, s7, fun j hj => hj⟩, h2.chg hc ?_ ?_, fun j hj => ?_, h4⟩, h.C.chg hc ?_ ?_, h.K.trans hc ?_, h.z0, Nat.le_trans h.z1 hc.size, fun g hg => ?_, h.qB, h.rB, h.cB, h.qr, h.cq, h.cr⟩, fun g hg t cs hb => hb.chg hc (fun hm => ?_)⟩
  · intro hm
    rcases List.mem_cons.1 hm with e | hm
    · exact h.qr e.symm
    · have := (h3 _ hm).1; have := h.rB; omega
  · intro j hj hm
    rcases List.mem_cons.1 hm with e | hm
    · have := h4 j hj; omega
    · exact (h3 j hm).2.1 hj
  · have hlt := (hol j hj).2
    rcases hO j (s8 j hj) with hm | hm
    · have := h3 j hm
      exact ⟨this.1, this.2.1, hlt, this.2.2.2⟩
    · exact ⟨by omega, fun hm2 => by have := h2.Ol j hm2; omega, hlt, fun hm2 => by have := (h.gB j hm2).2; omega⟩
  · intro hm
    rcases List.mem_cons.1 hm with e | hm
    · exact h.cq e
    · have := (h3 _ hm).1; have := h.cB; omega
  · intro j hj
    rcases List.mem_cons.1 hj with rfl | hm
    · exact h1.1
    · have := (h3 _ hm).1; omega
  · intro j hj
    rcases List.mem_cons.1 hj with rfl | hm
    · exact .inr h1.1
    · have := (h3 _ hm).1; exact .inr (by omega)
  · have := h.gB g hg; have := hc.size; omega
  · rcases List.mem_cons.1 hm with e | hm
    · have := (h.gB g hg).1; omega
    · exact (h3 g hm).2.2.2 hg
/-- A call of the reference's. -/
theorem Pz.ref {O O' O1 : List Nat} {most1 mb1 : Int} {ps1 : List Pk} (h : Pz w0 w B0 q r c G zs k most mb ps most' mb' ps') (h1 : QA w w0.heap.size q O most mb ps) (h2 : QF w w0.heap.size r O' most' mb' ps') (h3 : ∀ j ∈ O, B0 ≤ j ∧ j ∉ O' ∧ j < w.heap.size ∧ j ∉ G) (h4 : ∀ j ∈ O', B0 ≤ j)
    (hR : QF w' w0.heap.size r O1 most1 mb1 ps1) (hO : ∀ j ∈ O1, j ∈ O' ∨ w.heap.size ≤ j) (hc : Chg [r] w w') : Pz w0 w' B0 q r c G zs k most mb ps most1 mb1 ps1 := by
  have a := h.rB
  have b := h.z1
  have d := h.z0
  have hs := hc.size
  refine ⟨⟨O, O1, h1.chg hc (by simp; exact h.qr) (fun j hj => by simp; have := (h3 j hj).1; omega), hR, fun j hj => ?_, fun j hj => ?_⟩, h.C.chg hc (by simp; exact h.cr) (by simp; exact hR.Br), h.K.trans hc (by simp; exact hR.Br), h.z0, Nat.le_trans h.z1 hc.size, fun g hg => by have := h.gB g hg; omega, h.qB, h.rB, h.cB, h.qr, h.cq, h.cr⟩
  · have := h3 j hj
    refine ⟨this.1, fun hm => ?_, by omega, this.2.2.2⟩
    rcases hO j hm with hm | hm
    · exact this.2.1 hm
    · omega
  · rcases hO j hj with hm | hm
    · exact h4 j hm
    · omega

def popP : List Pk → Pk
  | [] => ⟨0, 0, 0, 0, 0⟩
  | p :: _ => p
def popE : List Pk → Int
  | [] => 5
  | _ :: _ => 0

theorem pz_push (h : Pz w0 w B0 q r c G zs k most mb ps most' mb' ps') (i f l a d : Int) :
    Calls Try.prog 19 #[.pointer (some ⟨q, 0, none⟩), .agg #[.int .i64 i, .int .i64 f, .int .i64 l, .int .i64 a, .int .i64 d]] w fun e w' => e = .returned (.int .i64 (qpE most mb ps ⟨i, f, l, a, d⟩)) ∧ Pz w0 w' B0 q r c G zs k most mb (qpL most mb ps ⟨i, f, l, a, d⟩) most' mb' ps' ∧ ∀ g ∈ G, ∀ t cs, Blk w g t cs → Blk w' g t cs := by
  obtain ⟨O, O', h1, h2, h3, h4⟩ := h.SR
  refine (qpush_c h1 h.K.size i f l a d).mono ?_
  rintro e w' ⟨rfl, O1, a1, a2, a3⟩
  exact ⟨rfl, h.prog h2 h1 h3 h4 a1 a2 a3⟩
theorem pz_rpush (h : Pz w0 w B0 q r c G zs k most' mb' ps' most mb ps) (i f l a d : Int) :
    Calls Try.prog 35 #[.pointer (some ⟨r, 0, none⟩), .agg #[.int .i64 i, .int .i64 f, .int .i64 l, .int .i64 a, .int .i64 d]] w fun e w' => e = .returned (.int .i64 (qpE most mb ps ⟨i, f, l, a, d⟩)) ∧ Pz w0 w' B0 q r c G zs k most' mb' ps' most mb (qpL most mb ps ⟨i, f, l, a, d⟩) ∧ Chg [r] w w' := by
  obtain ⟨O, O', h1, h2, h3, h4⟩ := h.SR
  unfold qpE qpL
  cases hv : vld ⟨i, f, l, a, d⟩ with
  | false =>
    refine (qfpush_bad h2 ⟨i, f, l, a, d⟩ hv).mono ?_
    rintro e w' ⟨rfl, hc⟩
    exact ⟨rfl, h.quiet hc, hc.mono (by simp)⟩
  | true =>
    rw [if_pos rfl, if_pos rfl]
    refine (qfpush_ok h2 h.K.size ⟨i, f, l, a, d⟩ hv _ rfl).mono ?_
    intro e w' hh
    by_cases ht : most ≤ ps.length ∨ mb < tot ps + l
    · rw [if_pos (decide_eq_true ht)] at hh
      obtain ⟨rfl, hc⟩ := hh
      rw [if_pos ht, if_pos ht]
      exact ⟨rfl, h.quiet hc, hc.mono (by simp)⟩
    · rw [if_neg (by rw [decide_eq_false ht]; simp)] at hh
      obtain ⟨rfl, O1, a1, a2, a3⟩ := hh
      rw [if_neg ht, if_neg ht]
      exact ⟨rfl, h.ref h1 h2 h3 h4 a1 (fun j hj => .inr (a2 j hj)) a3, a3⟩

theorem pz_pop (h : Pz w0 w B0 q r c G zs k most mb ps most' mb' ps') :
    Calls Try.prog 15 #[.pointer (some ⟨q, 0, none⟩)] w fun e w' => e = .returned (.tuple #[.agg #[.int .i64 (popP ps).i, .int .i64 (popP ps).f, .int .i64 (popP ps).l, .int .i64 (popP ps).a, .int .i64 (popP ps).d], .int .i64 (popE ps)]) ∧ Pz w0 w' B0 q r c G zs k most mb ps.tail most' mb' ps' := by
  obtain ⟨O, O', h1, h2, h3, h4⟩ := h.SR
  cases ps with
  | nil =>
    refine (qpop_nil h1).mono ?_
    rintro e w' ⟨rfl, a1, a2⟩
    exact ⟨rfl, (h.prog h2 h1 h3 h4 a1 (fun j hj => .inl hj) a2).1⟩
  | cons p t =>
    refine (qpop_cons h1).mono ?_
    rintro e w' ⟨rfl, a1, a2⟩
    exact ⟨rfl, (h.prog h2 h1 h3 h4 a1 (fun j hj => .inl hj) a2).1⟩
theorem pz_rpop (h : Pz w0 w B0 q r c G zs k most' mb' ps' most mb ps) :
    Calls Try.prog 39 #[.pointer (some ⟨r, 0, none⟩)] w fun e w' => e = .returned (.tuple #[.agg #[.int .i64 (popP ps).i, .int .i64 (popP ps).f, .int .i64 (popP ps).l, .int .i64 (popP ps).a, .int .i64 (popP ps).d], .int .i64 (popE ps)]) ∧ Pz w0 w' B0 q r c G zs k most' mb' ps' most mb ps.tail ∧ Chg [r] w w' := by
  obtain ⟨O, O', h1, h2, h3, h4⟩ := h.SR
  cases ps with
  | nil =>
    refine (qfpop_nil h2).mono ?_
    rintro e w' ⟨rfl, a2⟩
    exact ⟨rfl, h.quiet a2, a2.mono (by simp)⟩
  | cons p t =>
    refine (qfpop_cons h2).mono ?_
    rintro e w' ⟨rfl, a1, a2⟩
    exact ⟨rfl, h.ref h1 h2 h3 h4 a1 (fun j hj => .inl hj) a2, a2⟩

theorem pz_expire (h : Pz w0 w B0 q r c G zs k most mb ps most' mb' ps') (s : Int) :
    Calls Try.prog 20 #[.pointer (some ⟨q, 0, none⟩), .int .i64 s] w fun e w' => ∃ A c' O2, e = .returned (.slice A (lates s ps).length c') ∧ RdP w' O2 A (lates s ps) ∧ (∀ j ∈ O2, w.heap.size ≤ j) ∧ Pz w0 w' B0 q r c G zs k most mb (stays s ps) most' mb' ps' := by
  obtain ⟨O, O', h1, h2, h3, h4⟩ := h.SR
  refine (qexpire_c h1 s h.K.size).mono ?_
  rintro e w' ⟨A, c', rfl, a0, a1, a2⟩
  exact ⟨A, c', _, rfl, (RdP.of_own a0).1, fun j hj => (ownL_lt a0 j hj).1, (h.prog h2 h1 h3 h4 a1 (fun j hj => .inl hj) a2).1⟩
theorem pz_rexpire (h : Pz w0 w B0 q r c G zs k most' mb' ps' most mb ps) (s : Int) :
    Calls Try.prog 36 #[.pointer (some ⟨r, 0, none⟩), .int .i64 s] w fun e w' => ∃ A c' O2, e = .returned (.slice A (lates s ps).length c') ∧ RdP w' O2 A (lates s ps) ∧ Pz w0 w' B0 q r c G zs k most' mb' ps' most mb (stays s ps) ∧ Chg [r] w w' := by
  obtain ⟨O, O', h1, h2, h3, h4⟩ := h.SR
  refine (qfexpire_c h2 h.K.size s).mono ?_
  rintro e w' ⟨A, c', rfl, a0, O1, a1, a2, a3⟩
  exact ⟨A, c', _, rfl, a0, h.ref h1 h2 h3 h4 a1 (fun j hj => .inr (a2 j hj)) a3, a3⟩

def capE (n k : Int) : Int := if capB n k = true then 0 else 1
def capN (n k most : Int) : Int := if capB n k = true then n else most
def capK (n k mb : Int) : Int := if capB n k = true then k else mb
theorem pz_caps (h : Pz w0 w B0 q r c G zs k most mb ps most' mb' ps') (n m : Int) :
    Calls Try.prog 14 #[.pointer (some ⟨q, 0, none⟩), .int .i64 n, .int .i64 m] w fun e w' => e = .returned (.int .i64 (capE n m)) ∧ Pz w0 w' B0 q r c G zs k (capN n m most) (capK n m mb) ps most' mb' ps' := by
  obtain ⟨O, O', h1, h2, h3, h4⟩ := h.SR
  unfold capE capN capK
  cases hb : capB n m with
  | false =>
    refine (qcaps_bad q n m hb w).mono ?_
    rintro e w' ⟨rfl, hc⟩
    exact ⟨rfl, h.quiet hc⟩
  | true =>
    have hq : q ∉ O := fun hm => by have := (h3 q hm).1; have := h.qB; omega
    refine (qcaps_c h1 n m (of_decide_eq_true (show decide _ = true from hb)) hq).mono ?_
    rintro e w' ⟨rfl, a1, a2⟩
    exact ⟨rfl, (h.prog h2 h1 h3 h4 a1 (fun j hj => .inl hj) (a2.mono (by simp))).1⟩
theorem pz_rcaps (h : Pz w0 w B0 q r c G zs k most' mb' ps' most mb ps) (n m : Int) :
    Calls Try.prog 26 #[.pointer (some ⟨r, 0, none⟩), .int .i64 n, .int .i64 m] w fun e w' => e = .returned (.int .i64 (capE n m)) ∧ Pz w0 w' B0 q r c G zs k most' mb' ps' (capN n m most) (capK n m mb) ps := by
  obtain ⟨O, O', h1, h2, h3, h4⟩ := h.SR
  unfold capE capN capK
  cases hb : capB n m with
  | false =>
    refine (qfcaps_bad r n m hb w).mono ?_
    rintro e w' ⟨rfl, hc⟩
    exact ⟨rfl, h.quiet hc⟩
  | true =>
    refine (qfcaps_c h2 n m hb).mono ?_
    rintro e w' ⟨rfl, a1, a2⟩
    exact ⟨rfl, h.ref h1 h2 h3 h4 a1 (fun j hj => .inl hj) a2⟩

theorem pz_clear (h : Pz w0 w B0 q r c G zs k most mb ps most' mb' ps') :
    Calls Try.prog 37 #[.pointer (some ⟨q, 0, none⟩)] w fun e w' => ∃ A c' O2, e = .returned (.slice A ps.length c') ∧ RdP w' O2 A ps ∧ (∀ j ∈ O2, B0 ≤ j) ∧ Pz w0 w' B0 q r c G zs k most mb [] most' mb' ps' := by
  obtain ⟨O, O', h1, h2, h3, h4⟩ := h.SR
  refine (qclear_c h1).mono ?_
  rintro e w' ⟨A, c', rfl, a0, a00, a1, a2⟩
  exact ⟨A, c', _, rfl, a0, fun j hj => (h3 j (a00 j hj).1).1, (h.prog h2 h1 h3 h4 a1 (by simp) (a2.mono (by simp))).1⟩
theorem pz_rclear (h : Pz w0 w B0 q r c G zs k most' mb' ps' most mb ps) :
    Calls Try.prog 38 #[.pointer (some ⟨r, 0, none⟩)] w fun e w' => ∃ A c' O2, e = .returned (.slice A ps.length c') ∧ RdP w' O2 A ps ∧ Pz w0 w' B0 q r c G zs k most' mb' ps' most mb [] ∧ Chg [r] w w' := by
  obtain ⟨O, O', h1, h2, h3, h4⟩ := h.SR
  refine (qfclear_c h2).mono ?_
  rintro e w' ⟨A, c', rfl, a0, a1, a2⟩
  exact ⟨A, c', _, rfl, a0, h.ref h1 h2 h3 h4 a1 (by simp) a2, a2⟩
end

end Go.Proofs.Ytdlehpohpdepkaa
