/- The sender and its reference side by side: each call as one contract; Ack of the reference where it is not taken. -/
import Derived.Test.YtgkhendbpehagaaSk
namespace Go.Proofs.Ytgkhendbpehagaa
open Go.RowKit
set_option linter.unusedVariables false
set_option linter.unusedSimpArgs false

set_option maxRecDepth 100000 in
set_option maxHeartbeats 4000000 in
theorem rack_bad {w : World} {B s : Nat} {O : List Nat} {wd tr nx : Int} {ps : List Sn} (h : RA w B s O wd tr nx ps) (base bits : Int) (hb : ¬ ackOk nx base ps) :
    Calls Try.prog 36 #[.pointer (some ⟨s, 0, none⟩), .agg #[.int .i64 base, .int .u64 bits]] w fun e w' => e = .returned (.slice none 0 0) ∧ Chg [] w w' := by
  have hn := h.hn
  have hbs := h.bs
  have HBQ := Lib.hid (fun m => rbase_c ((h.chg ((Chg.refl [] w).alloc (.cells #[.int .i64 base, .int .u64 bits] 37)) (by simp) (by simp)).drewN m))
  have HBR := Lib.hid (fun m m' => rbase_c (((h.chg ((Chg.refl [] w).alloc (.cells #[.int .i64 base, .int .u64 bits] 37)) (by simp) (by simp)).drewN m).drewN m'))
  have HBS := Lib.hid (fun m m' => rbase_c (((h.drewN m).chg ((Chg.refl [] _).alloc (.cells #[.int .i64 base, .int .u64 bits] 37)) (by simp) (by simp)).drewN m'))
  have HD1 := Lib.hid (rdist (bs nx ps) base)
  have HD2 := Lib.hid (rdist (bs nx ps) nx)
  rw [show distV (bs nx ps) nx = dst (bs nx ps) nx from if_pos ⟨hbs.1, hbs.2, hn.1, hn.2⟩, show distE (bs nx ps) nx = 0 from if_pos ⟨hbs.1, hbs.2, hn.1, hn.2⟩] at HD2
  have hcs : distE (bs nx ps) base = 1 ∨ (distE (bs nx ps) base = 0 ∧ 32768 ≤ distV (bs nx ps) base) ∨ (distE (bs nx ps) base = 0 ∧ distV (bs nx ps) base < 32768 ∧ dst (bs nx ps) nx < distV (bs nx ps) base) := by
    by_cases hv : 0 ≤ base ∧ base < 65536
    · have e1 : distE (bs nx ps) base = 0 := if_pos ⟨hbs.1, hbs.2, hv.1, hv.2⟩
      have e2 : distV (bs nx ps) base = dst (bs nx ps) base := if_pos ⟨hbs.1, hbs.2, hv.1, hv.2⟩
      rw [e1, e2]
      have : ¬ (dst (bs nx ps) base < 32768 ∧ dst (bs nx ps) base ≤ dst (bs nx ps) nx) := fun h => hb ⟨hv, h.1, h.2⟩
      omega
    · exact .inl (if_neg fun h => hv ⟨h.2.2.1, h.2.2.2⟩)
  obtain ⟨A0, c0, h9, _⟩ := h.split
  have hsl := h.lt
  have HH := Lib.hid h
  have e2 := (h9.cell 2).trans rfl
  clear h h9 hb hbs
  generalize distV (bs nx ps) base = d1 at HD1 hcs
  generalize distE (bs nx ps) base = y1 at HD1 hcs
  generalize dst (bs nx ps) nx = d2 at HD2 hcs
  rcases hcs with rfl | ⟨rfl, hd⟩ | ⟨rfl, hd, hd2⟩
  all_goals
    go_enter Try.func36, Try.ntmps36
    go_wp2_with fail
    go_quiet (first | (go_at_call 20; first | exact Calls.quiet_of (HBQ.out _) | exact Calls.quiet_of (HBR.out _ _) | exact Calls.quiet_of (HBS.out _ _)) | (go_at_call 46; exact Calls.quiet_of ((HD1.out _).mono (by rintro e w' ⟨rfl, rfl⟩; exact ⟨rfl, 0, rfl⟩))))
    go_wp2_with fail
    have k1 : Chg [] w ((w.alloc (.cells #[.int .i64 base, .int .u64 bits] 37)).drewN nq) := ((Chg.refl [] w).alloc _).drewN _
    generalize (w.alloc (.cells #[.int .i64 base, .int .u64 bits] 37)).drewN nq = W1 at k1 ⊢
    have HB1 := Lib.hid (fun m => rbase_c ((HH.out.chg k1 (by simp) (by simp)).drewN m))
    have e2' := (k1.cell (p := ⟨s, 2, none⟩) hsl (by simp)).trans e2
    go_quiet (first | (go_at_call 20; exact Calls.quiet_of (HB1.out _)) | (go_at_call 46; exact Calls.quiet_of ((HD2.out _).mono (by rintro e w' ⟨rfl, rfl⟩; exact ⟨rfl, 0, rfl⟩))))
    go_wp2_with fail
    go_ret
    exact ⟨rfl, by repeat (first | exact k1 | (refine Chg.drewN ?_ _) | (refine Chg.drew ?_))⟩

/-- The sender, its reference and the choices, side by side; all lie below block B0, but for the two rows. -/
structure Pq (w0 w : World) (B0 s r c : Nat) (zs : List Int) (k : Nat) (wd tr nx : Int) (ps : List Sn) (nx' : Int) (ps' : List Sn) : Prop where
  SR : ∃ O O', SA w w0.heap.size s O wd tr nx ps ∧ RA w w0.heap.size r O' wd tr nx' ps' ∧ (∀ j ∈ O, B0 ≤ j ∧ j ∉ O') ∧ ∀ j ∈ O', B0 ≤ j
  C : Cho w w0.heap.size c zs k
  K : Chg [] w0 w
  z0 : w0.heap.size ≤ B0
  z1 : B0 ≤ w.heap.size
  sB : s < B0
  rB : r < B0
  cB : c < B0
  sr : s ≠ r
  cs : c ≠ s
  cr : c ≠ r
section
variable {w0 w w' : World} {B0 s r c : Nat} {zs : List Int} {k : Nat} {wd tr nx nx' : Int} {ps ps' : List Sn}
theorem Pq.quiet (h : Pq w0 w B0 s r c zs k wd tr nx ps nx' ps') (hc : Chg [] w w') : Pq w0 w' B0 s r c zs k wd tr nx ps nx' ps' := by
  obtain ⟨O, O', h1, h2, h3, h4⟩ := h.SR
  exact ⟨⟨O, O', h1.chg hc (by simp) (by simp), h2.chg hc (by simp) (by simp), h3, h4⟩, h.C.chg hc (by simp) (by simp), h.K.trans hc (by simp), h.z0, Nat.le_trans h.z1 hc.size, h.sB, h.rB, h.cB, h.sr, h.cs, h.cr⟩
theorem Pq.drawn {k' : Nat} (h : Pq w0 w B0 s r c zs k wd tr nx ps nx' ps') (hc : Chg [c] w w') (hC : Cho w' w0.heap.size c zs k') : Pq w0 w' B0 s r c zs k' wd tr nx ps nx' ps' := by
  obtain ⟨O, O', h1, h2, h3, h4⟩ := h.SR
  have a := h.cB
  exact ⟨⟨O, O', h1.chg hc (by simp; exact fun e => h.cs e.symm) (fun j hj => by simp; have := (h3 j hj).1; omega), h2.chg hc (by simp; exact fun e => h.cr e.symm) (fun j hj => by simp; have := h4 j hj; omega), h3, h4⟩, hC, h.K.trans hc (by simp; exact hC.le), h.z0, Nat.le_trans h.z1 hc.size, h.sB, h.rB, h.cB, h.sr, h.cs, h.cr⟩
/-- A call of the program's. -/
theorem Pq.prog {O O' O1 : List Nat} {nx1 : Int} {ps1 : List Sn} (h : Pq w0 w B0 s r c zs k wd tr nx ps nx' ps') (h2 : RA w w0.heap.size r O' wd tr nx' ps') (h1 : SA w w0.heap.size s O wd tr nx ps) (h3 : ∀ j ∈ O, B0 ≤ j ∧ j ∉ O') (h4 : ∀ j ∈ O', B0 ≤ j)
    (hS : SA w' w0.heap.size s O1 wd tr nx1 ps1) (hO : ∀ j ∈ O1, j ∈ O ∨ w.heap.size ≤ j) (hc : Chg (s :: O) w w') : Pq w0 w' B0 s r c zs k wd tr nx1 ps1 nx' ps' := by
  have a := h.sB
  have b := h.z1
  have d := h.z0
  refine ⟨⟨O1, O', hS, h2.chg hc ?_ ?_, fun j hj => ?_, h4⟩, h.C.chg hc ?_ ?_, h.K.trans hc ?_, h.z0, Nat.le_trans h.z1 hc.size, h.sB, h.rB, h.cB, h.sr, h.cs, h.cr⟩
  · intro hm
    rcases List.mem_cons.1 hm with e | hm
    · exact h.sr e.symm
    · have := (h3 _ hm).1; have := h.rB; omega
  · intro j hj hm
    rcases List.mem_cons.1 hm with e | hm
    · have := h4 j hj; omega
    · exact (h3 j hm).2 hj
  · rcases hO j hj with hm | hm
    · exact h3 j hm
    · exact ⟨by omega, fun hm2 => by have := h2.Ol j hm2; omega⟩
  · intro hm
    rcases List.mem_cons.1 hm with e | hm
    · exact h.cs e
    · have := (h3 _ hm).1; have := h.cB; omega
  · intro j hj
    rcases List.mem_cons.1 hj with rfl | hm
    · exact h1.Bs
    · have := (h3 _ hm).1; omega
  · intro j hj
    rcases List.mem_cons.1 hj with rfl | hm
    · exact .inr h1.Bs
    · have := (h3 _ hm).1; exact .inr (by omega)
/-- A call of the reference's. -/
theorem Pq.ref {O O' O1 : List Nat} {nx1 : Int} {ps1 : List Sn} (h : Pq w0 w B0 s r c zs k wd tr nx ps nx' ps') (h1 : SA w w0.heap.size s O wd tr nx ps) (h3 : ∀ j ∈ O, B0 ≤ j ∧ j ∉ O')
    (hR : RA w' w0.heap.size r O1 wd tr nx1 ps1) (hO : ∀ j ∈ O1, w.heap.size ≤ j) (hc : Chg [r] w w') : Pq w0 w' B0 s r c zs k wd tr nx ps nx1 ps1 := by
  have a := h.rB
  have b := h.z1
  have d := h.z0
  refine ⟨⟨O, O1, h1.chg hc (by simp; exact h.sr) (fun j hj => by simp; have := (h3 j hj).1; omega), hR, fun j hj => ⟨(h3 j hj).1, fun hm => by have := hO j hm; have := h1.Ol j hj; omega⟩, fun j hj => by have := hO j hj; omega⟩, h.C.chg hc (by simp; exact h.cr) (by simp; exact hR.Bs), h.K.trans hc (by simp; exact hR.Bs), h.z0, Nat.le_trans h.z1 hc.size, h.sB, h.rB, h.cB, h.sr, h.cs, h.cr⟩
end

def room (wd nx : Int) (ps : List Sn) (id : Int) : Bool := decide (1 ≤ id ∧ dst (bs nx ps) nx < wd)
def asgV (wd nx : Int) (ps : List Sn) (id : Int) : Int := if room wd nx ps id = true then nx else 0
def asgE (wd nx : Int) (ps : List Sn) (id : Int) : Int := if id < 1 then 1 else if room wd nx ps id = true then 0 else 4
def asgN (wd nx : Int) (ps : List Sn) (id : Int) : Int := if room wd nx ps id = true then (nx + 1 + 65536) % 65536 else nx
def asgL (wd nx : Int) (ps : List Sn) (id : Int) : List Sn := if room wd nx ps id = true then ps ++ [⟨nx, id, 0⟩] else ps
def sndV (tr : Int) (ps : List Sn) (x : Int) : Int := match fnd x ps with
  | none => 0
  | some k => match ps[k]? with
    | none => 0
    | some p => if p.t < tr then p.t + 1 else 0
def sndE (tr : Int) (ps : List Sn) (x : Int) : Int := match fnd x ps with
  | none => 6
  | some k => match ps[k]? with
    | none => 6
    | some p => if p.t < tr then 0 else 14
def sndL (tr : Int) (ps : List Sn) (x : Int) : List Sn := match fnd x ps with
  | none => ps
  | some k => match ps[k]? with
    | none => ps
    | some p => if p.t < tr then bump ps k else ps
def drpV (ps : List Sn) (x : Int) : Int := match fnd x ps with
  | none => 0
  | some k => match ps[k]? with
    | none => 0
    | some p => p.i
def drpE (ps : List Sn) (x : Int) : Int := match fnd x ps with
  | none => 6
  | some k => 0
def drpL (ps : List Sn) (x : Int) : List Sn := match fnd x ps with
  | none => ps
  | some k => ps.eraseIdx k

section
variable {w0 w : World} {B0 s r c : Nat} {zs : List Int} {k : Nat} {wd tr nx nx' : Int} {ps ps' : List Sn}

theorem pq_assign (h : Pq w0 w B0 s r c zs k wd tr nx ps nx' ps') (hl : ps.length < 1000) (id : Int) :
    Calls Try.prog 10 #[.pointer (some ⟨s, 0, none⟩), .int .i64 id] w fun e w' => e = .returned (.tuple #[.int .i64 (asgV wd nx ps id), .int .i64 (asgE wd nx ps id)]) ∧ Pq w0 w' B0 s r c zs k wd tr (asgN wd nx ps id) (asgL wd nx ps id) nx' ps' := by
  obtain ⟨O, O', h1, h2, h3, h4⟩ := h.SR
  by_cases hid : id < 1
  · have hr : room wd nx ps id = false := decide_eq_false (by omega)
    refine (sassign_bad h1 id hid).mono ?_
    rintro e w' ⟨rfl, m, rfl⟩
    unfold asgV asgE asgN asgL
    rw [hr, if_pos hid]
    exact ⟨rfl, h.quiet ((Chg.refl [] _).drewN m)⟩
  · by_cases hf : dst (bs nx ps) nx < wd
    · have hr : room wd nx ps id = true := decide_eq_true ⟨by omega, hf⟩
      refine (sassign_room h1 h.K.size hl id (by omega) hf).mono ?_
      rintro e w' ⟨rfl, O1, a1, a2, a3⟩
      unfold asgV asgE asgN asgL
      rw [hr, if_neg hid]
      exact ⟨rfl, h.prog h2 h1 h3 h4 a1 a2 a3⟩
    · have hr : room wd nx ps id = false := decide_eq_false (fun h => hf h.2)
      refine (sassign_full h1 id (by omega) hf).mono ?_
      rintro e w' ⟨rfl, m, rfl⟩
      unfold asgV asgE asgN asgL
      rw [hr, if_neg hid]
      exact ⟨rfl, h.quiet ((Chg.refl [] _).drewN m)⟩
theorem pq_rassign (h : Pq w0 w B0 s r c zs k wd tr nx' ps' nx ps) (hl : ps.length < 1000) (id : Int) :
    Calls Try.prog 34 #[.pointer (some ⟨r, 0, none⟩), .int .i64 id] w fun e w' => e = .returned (.tuple #[.int .i64 (asgV wd nx ps id), .int .i64 (asgE wd nx ps id)]) ∧ Pq w0 w' B0 s r c zs k wd tr nx' ps' (asgN wd nx ps id) (asgL wd nx ps id) := by
  obtain ⟨O, O', h1, h2, h3, h4⟩ := h.SR
  by_cases hid : id < 1
  · have hr : room wd nx ps id = false := decide_eq_false (by omega)
    refine (rassign_bad h2 id hid).mono ?_
    rintro e w' ⟨rfl, m, rfl⟩
    unfold asgV asgE asgN asgL
    rw [hr, if_pos hid]
    exact ⟨rfl, h.quiet ((Chg.refl [] _).drewN m)⟩
  · by_cases hf : dst (bs nx ps) nx < wd
    · have hr : room wd nx ps id = true := decide_eq_true ⟨by omega, hf⟩
      refine (rassign_room h2 h.K.size hl id (by omega) hf).mono ?_
      rintro e w' ⟨rfl, O1, a1, a2, a3⟩
      unfold asgV asgE asgN asgL
      rw [hr, if_neg hid]
      exact ⟨rfl, h.ref h1 h3 a1 a2 a3⟩
    · have hr : room wd nx ps id = false := decide_eq_false (fun h => hf h.2)
      refine (rassign_full h2 id (by omega) hf).mono ?_
      rintro e w' ⟨rfl, m, rfl⟩
      unfold asgV asgE asgN asgL
      rw [hr, if_neg hid]
      exact ⟨rfl, h.quiet ((Chg.refl [] _).drewN m)⟩

theorem pq_send (h : Pq w0 w B0 s r c zs k wd tr nx ps nx' ps') (ht : ∀ p ∈ ps, p.t ≤ tr) (x : Int) :
    Calls Try.prog 24 #[.pointer (some ⟨s, 0, none⟩), .int .i64 x] w fun e w' => e = .returned (.tuple #[.int .i64 (sndV tr ps x), .int .i64 (sndE tr ps x)]) ∧ Pq w0 w' B0 s r c zs k wd tr nx (sndL tr ps x) nx' ps' := by
  obtain ⟨O, O', h1, h2, h3, h4⟩ := h.SR
  cases hf : fnd x ps with
  | none =>
    refine (ssend_none h1 x hf).mono ?_
    rintro e w' ⟨rfl, hc⟩
    unfold sndV sndE sndL
    rw [hf]
    exact ⟨rfl, h.quiet hc⟩
  | some i =>
    obtain ⟨hi, _⟩ := fnd_spec hf
    have hti := ht ps[i] (by simp)
    unfold sndV sndE sndL
    rw [hf]
    simp only [List.getElem?_eq_getElem hi]
    by_cases hlt : ps[i].t < tr
    · simp only [if_pos hlt]
      refine (ssend_c h1 x hf hi hlt).mono ?_
      rintro e w' ⟨rfl, a1, a2⟩
      exact ⟨rfl, h.prog h2 h1 h3 h4 a1 (fun j hj => .inl hj) a2⟩
    · simp only [if_neg hlt]
      refine (ssend_done h1 x hf hi (by omega)).mono ?_
      rintro e w' ⟨rfl, hc⟩
      exact ⟨rfl, h.quiet hc⟩
theorem pq_rsend (h : Pq w0 w B0 s r c zs k wd tr nx' ps' nx ps) (ht : ∀ p ∈ ps, p.t ≤ tr) (x : Int) :
    Calls Try.prog 35 #[.pointer (some ⟨r, 0, none⟩), .int .i64 x] w fun e w' => e = .returned (.tuple #[.int .i64 (sndV tr ps x), .int .i64 (sndE tr ps x)]) ∧ Pq w0 w' B0 s r c zs k wd tr nx' ps' nx (sndL tr ps x) := by
  obtain ⟨O, O', h1, h2, h3, h4⟩ := h.SR
  cases hf : fnd x ps with
  | none =>
    refine (rsend_none h2 x hf).mono ?_
    rintro e w' ⟨rfl, hc⟩
    unfold sndV sndE sndL
    rw [hf]
    exact ⟨rfl, h.quiet hc⟩
  | some i =>
    obtain ⟨hi, _⟩ := fnd_spec hf
    have hti := ht ps[i] (by simp)
    unfold sndV sndE sndL
    rw [hf]
    simp only [List.getElem?_eq_getElem hi]
    by_cases hlt : ps[i].t < tr
    · simp only [if_pos hlt]
      refine (rsend_c h2 h.K.size x hf hi hlt).mono ?_
      rintro e w' ⟨rfl, O1, a1, a2, a3⟩
      exact ⟨rfl, h.ref h1 h3 a1 a2 a3⟩
    · simp only [if_neg hlt]
      refine (rsend_done h2 x hf hi (by omega)).mono ?_
      rintro e w' ⟨rfl, hc⟩
      exact ⟨rfl, h.quiet hc⟩

theorem pq_drop (h : Pq w0 w B0 s r c zs k wd tr nx ps nx' ps') (x : Int) :
    Calls Try.prog 15 #[.pointer (some ⟨s, 0, none⟩), .int .i64 x] w fun e w' => e = .returned (.tuple #[.int .i64 (drpV ps x), .int .i64 (drpE ps x)]) ∧ Pq w0 w' B0 s r c zs k wd tr nx (drpL ps x) nx' ps' := by
  obtain ⟨O, O', h1, h2, h3, h4⟩ := h.SR
  cases hf : fnd x ps with
  | none =>
    refine (sdrop_none h1 x hf).mono ?_
    rintro e w' ⟨rfl, hc⟩
    unfold drpV drpE drpL
    rw [hf]
    exact ⟨rfl, h.quiet hc⟩
  | some i =>
    obtain ⟨hi, _⟩ := fnd_spec hf
    unfold drpV drpE drpL
    rw [hf]
    simp only [List.getElem?_eq_getElem hi]
    refine (sdrop_c h1 x hf hi).mono ?_
    rintro e w' ⟨rfl, a1, a2⟩
    exact ⟨rfl, h.prog h2 h1 h3 h4 a1 (fun j hj => .inl hj) a2⟩
theorem pq_rdrop (h : Pq w0 w B0 s r c zs k wd tr nx' ps' nx ps) (x : Int) :
    Calls Try.prog 37 #[.pointer (some ⟨r, 0, none⟩), .int .i64 x] w fun e w' => e = .returned (.tuple #[.int .i64 (drpV ps x), .int .i64 (drpE ps x)]) ∧ Pq w0 w' B0 s r c zs k wd tr nx' ps' nx (drpL ps x) := by
  obtain ⟨O, O', h1, h2, h3, h4⟩ := h.SR
  cases hf : fnd x ps with
  | none =>
    refine (rdrop_none h2 x hf).mono ?_
    rintro e w' ⟨rfl, hc⟩
    unfold drpV drpE drpL
    rw [hf]
    exact ⟨rfl, h.quiet hc⟩
  | some i =>
    obtain ⟨hi, _⟩ := fnd_spec hf
    unfold drpV drpE drpL
    rw [hf]
    simp only [List.getElem?_eq_getElem hi]
    refine (rdrop_c h2 h.K.size x hf hi).mono ?_
    rintro e w' ⟨rfl, O1, a1, a2, a3⟩
    exact ⟨rfl, h.ref h1 h3 a1 a2 a3⟩
end

end Go.Proofs.Ytgkhendbpehagaa
