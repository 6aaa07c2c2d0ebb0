/- The queue: New, Push, Bytes, Len. -/
import Derived.Test.YtdlehpohpdepkaaPk
import Derived.Test.YtdlehpohpdepkaaApp
namespace Go.Proofs.Ytdlehpohpdepkaa
open Go.RowKit
set_option linter.unusedVariables false
set_option linter.unusedSimpArgs false

theorem pk_info : (Try.prog.info? 24).map (fun i => (i.zero, i.size, i.bytes)) = some (some (.agg #[.int .i64 0, .int .i64 0, .int .i64 0, .int .i64 0, .int .i64 0]), 5, 40) := by kernel_rfl

structure Pk where
  i : Int
  f : Int
  l : Int
  a : Int
  d : Int
def pkC (p : Pk) : List Value := [.int .i64 p.i, .int .i64 p.f, .int .i64 p.l, .int .i64 p.a, .int .i64 p.d]
def tot : List Pk → Int
  | [] => 0
  | p :: r => p.l + tot r
theorem tot_append (x y : List Pk) : tot (x ++ y) = tot x + tot y := by
  induction x with
  | nil => simp [tot]
  | cons p r ih => simp [tot, ih]; omega
theorem flat_length (ps : List Pk) : (ps.flatMap pkC).length = ps.length * 5 := by
  induction ps with
  | nil => rfl
  | cons p r ih => rw [List.flatMap_cons, List.length_append, ih]; simp [pkC]; omega
theorem flat_one (ps : List Pk) : ∀ u ∈ ps.flatMap pkC, u.oneCell' = true := by
  intro u hu
  obtain ⟨p, _, hp⟩ := List.mem_flatMap.1 hu
  simp [pkC] at hp
  rcases hp with rfl | rfl | rfl | rfl | rfl <;> rfl

theorem push_facts {w : World} {q b : Nat} {t u : TypeId} {v0 v1 v2 v3 x0 x1 x2 x3 x4 : Value} (hq : Blk w q t #[v0, v1, v2, v3]) (hp : Blk w b u #[x0, x1, x2, x3, x4]) :
    w.cell? ⟨q, 2, none⟩ = some v2 ∧ w.cell? ⟨q, 3, none⟩ = some v3 ∧ w.cell? ⟨b, 2, none⟩ = some x2 ∧ w.frozen? ⟨q, 2, none⟩ = false ∧ w.frozen? ⟨q, 3, none⟩ = false :=
  ⟨(hq.cell 2).trans rfl, (hq.cell 3).trans rfl, (hp.cell 2).trans rfl, hq.frozen 2, hq.frozen 3⟩

set_option maxHeartbeats 400000 in
theorem qnew_ok (n k : Int) (h1 : 1 ≤ n) (h2 : n ≤ 64) (h3 : 1 ≤ k) (h4 : k ≤ 262144) (w : World) :
    Calls Try.prog 12 #[.int .i64 n, .int .i64 k] w fun e w' => e = .returned (.tuple #[.pointer (some ⟨w.heap.size, 0, none⟩), .int .i64 0]) ∧
      ∃ m, w' = (w.alloc (.cells #[.int .i64 n, .int .i64 k, .slice none 0 0, .int .i64 0] 57)).drewN m := by
  go_enter Try.func12, Try.ntmps12
  go_wp2
  go_ret2
  exact ⟨rfl, 0, rfl⟩

set_option maxHeartbeats 400000 in
theorem bytes_raw (q : Nat) (n : Int) (w : World) (h : w.cell? ⟨q, 3, none⟩ = some (.int .i64 n)) :
    Calls Try.prog 18 #[.pointer (some ⟨q, 0, none⟩)] w fun e w' => e = .returned (.int .i64 n) ∧ ∃ m, w' = w.drewN m := by
  go_enter Try.func18, Try.ntmps18
  go_wp2
  go_ret
  exact ⟨rfl, 0, rfl⟩

section
variable (q : Nat) (i f l a d most mb bts : Int) (A : Option Addr) (n c : Nat) (w : World)

set_option maxHeartbeats 1000000 in
theorem qpush_bad (hv : validB i f l a d = false) :
    Calls Try.prog 19 #[.pointer (some ⟨q, 0, none⟩), .agg #[.int .i64 i, .int .i64 f, .int .i64 l, .int .i64 a, .int .i64 d]] w fun e w' => e = .returned (.int .i64 1) ∧ Chg [] w w' := by
  go_enter Try.func19, Try.ntmps19
  go_wp2_with (go_at_call 9; refine (valid_raw i f l a d _).mono ?_; rintro e w1 ⟨rfl, hc1⟩; rw [hv])
  go_ret
  exact ⟨rfl, ((Chg.refl _ _).alloc _).trans hc1 (by simp)⟩

set_option maxHeartbeats 1000000 in
theorem qpush_full (hv : validB i f l a d = true) (h0 : w.cell? ⟨q, 0, none⟩ = some (.int .i64 most)) (h1 : w.cell? ⟨q, 1, none⟩ = some (.int .i64 mb)) (h2 : w.cell? ⟨q, 2, none⟩ = some (.slice A n c)) (h3 : w.cell? ⟨q, 3, none⟩ = some (.int .i64 bts))
    (hl1 : 0 ≤ l) (hl2 : l ≤ 4096) (hb1 : 0 ≤ bts) (hb2 : bts ≤ 1000000) (hfull : most ≤ (n : Int) ∨ mb < bts + l) :
    Calls Try.prog 19 #[.pointer (some ⟨q, 0, none⟩), .agg #[.int .i64 i, .int .i64 f, .int .i64 l, .int .i64 a, .int .i64 d]] w fun e w' => e = .returned (.int .i64 4) ∧ Chg [] w w' := by
  have hq := block_lt_of_cell h0
  simp at hq
  have fin : ∀ w1, Chg [] (w.alloc (.cells #[.int .i64 i, .int .i64 f, .int .i64 l, .int .i64 a, .int .i64 d] 24)) w1 →
      w1.cell? ⟨q, 0, none⟩ = some (.int .i64 most) ∧ w1.cell? ⟨q, 1, none⟩ = some (.int .i64 mb) ∧ w1.cell? ⟨q, 2, none⟩ = some (.slice A n c) ∧ w1.cell? ⟨q, 3, none⟩ = some (.int .i64 bts) ∧ w1.cell? ⟨w.heap.size, 2, none⟩ = some (.int .i64 l) := fun w1 hc => by
    have k := ((Chg.refl [] w).alloc (.cells #[.int .i64 i, .int .i64 f, .int .i64 l, .int .i64 a, .int .i64 d] 24)).trans hc (by simp)
    exact ⟨(k.cell (p := ⟨q, 0, none⟩) hq (by simp)).trans h0, (k.cell (p := ⟨q, 1, none⟩) hq (by simp)).trans h1, (k.cell (p := ⟨q, 2, none⟩) hq (by simp)).trans h2, (k.cell (p := ⟨q, 3, none⟩) hq (by simp)).trans h3,
      (((Blk.new w 24 #[.int .i64 i, .int .i64 f, .int .i64 l, .int .i64 a, .int .i64 d]).chg hc (by simp)).cell 2).trans rfl⟩
  have FIN := Lib.hid fin
  have HV := Lib.hid hv
  clear fin hv
  by_cases hm : most ≤ (n : Int)
  · have hd : decide (most ≤ (n : Int)) = true := by simpa using hm
    go_enter Try.func19, Try.ntmps19
    go_wp2_with (go_at_call 9; refine (valid_raw i f l a d _).mono ?_; rintro e w1 ⟨rfl, hc1⟩; rw [HV.out]; obtain ⟨e0, e1, e2, e3, e4⟩ := FIN.out w1 hc1)
    go_quiet (fail)
    go_wp2
    go_ret
    exact ⟨rfl, (((Chg.refl _ _).alloc _).trans hc1 (by simp)).drewN _⟩
  · have hd : decide (most ≤ (n : Int)) = false := by simpa using hm
    have hd2 : mb < bts + l := by omega
    go_enter Try.func19, Try.ntmps19
    go_wp2_with (go_at_call 9; refine (valid_raw i f l a d _).mono ?_; rintro e w1 ⟨rfl, hc1⟩; rw [HV.out]; obtain ⟨e0, e1, e2, e3, e4⟩ := FIN.out w1 hc1)
    go_quiet (fail)
    go_wp2
    go_ret
    exact ⟨rfl, (((Chg.refl _ _).alloc _).trans hc1 (by simp)).drewN _⟩

set_option maxRecDepth 100000 in
set_option maxHeartbeats 2000000 in
theorem qpush_room (B : Nat) (xs : List Value) (hv : validB i f l a d = true) (hq : Blk w q 57 #[.int .i64 most, .int .i64 mb, .slice A n c, .int .i64 bts])
    (hown : w.ownsRow B 24 5 (.slice A n c) n xs) (hB : B ≤ w.heap.size) (hn : n ≤ 1000)
    (hl1 : 0 ≤ l) (hl2 : l ≤ 4096) (hb1 : 0 ≤ bts) (hb2 : bts ≤ 1000000) (hr1 : (n : Int) < most) (hr2 : bts + l ≤ mb) :
    Calls Try.prog 19 #[.pointer (some ⟨q, 0, none⟩), .agg #[.int .i64 i, .int .i64 f, .int .i64 l, .int .i64 a, .int .i64 d]] w fun e w' => e = .returned (.int .i64 0) ∧
      ∃ A' c' W m, W.ownsRow B 24 5 (.slice A' (n + 1) c') (n + 1) (xs ++ [.int .i64 i, .int .i64 f, .int .i64 l, .int .i64 a, .int .i64 d]) ∧ Chg (ownL (.slice A n c)) w W ∧
        (∀ j ∈ ownL (.slice A' (n + 1) c'), j ∈ ownL (.slice A n c) ∨ w.heap.size ≤ j) ∧ w' = ((W.setCell ⟨q, 2, none⟩ (.slice A' (n + 1) c')).setCell ⟨q, 3, none⟩ (.int .i64 (bts + l))).drewN m := by
  have hlt := hq.lt
  have hd : decide (most ≤ (n : Int)) = false := by simp; omega
  have hd2 : ¬ mb < bts + l := by omega
  have HV := Lib.hid hv
  clear hv
  go_enter Try.func19, Try.ntmps19
  go_wp2_with fail
  refine (valid_raw i f l a d _).mono ?_
  rintro e w1 ⟨rfl, hc1⟩
  rw [HV.out]
  have k1 : Chg [] w w1 := ((Chg.refl [] w).alloc (.cells #[.int .i64 i, .int .i64 f, .int .i64 l, .int .i64 a, .int .i64 d] 24)).trans hc1 (by simp)
  have hqo := ownL_blk hown hq (by decide)
  have hol := ownL_lt hown
  have hq1 := hq.chg k1 (by simp)
  have hp1 := (Blk.new w 24 #[.int .i64 i, .int .i64 f, .int .i64 l, .int .i64 a, .int .i64 d]).chg hc1 (by simp)
  have hown1 := own_chg hown k1 (by simp)
  have hz1 := k1.size
  obtain ⟨e0, e1, e2, e3⟩ : w1.cell? ⟨q, 0, none⟩ = some (.int .i64 most) ∧ w1.cell? ⟨q, 1, none⟩ = some (.int .i64 mb) ∧ w1.cell? ⟨q, 2, none⟩ = some (.slice A n c) ∧ w1.cell? ⟨q, 3, none⟩ = some (.int .i64 bts) :=
    ⟨(hq1.cell 0).trans rfl, (hq1.cell 1).trans rfl, (hq1.cell 2).trans rfl, (hq1.cell 3).trans rfl⟩
  obtain ⟨p0, p1, p2, p3, p4⟩ : w1.cell? ⟨w.heap.size, 0, none⟩ = some (.int .i64 i) ∧ w1.cell? ⟨w.heap.size, 1, none⟩ = some (.int .i64 f) ∧ w1.cell? ⟨w.heap.size, 2, none⟩ = some (.int .i64 l) ∧ w1.cell? ⟨w.heap.size, 3, none⟩ = some (.int .i64 a) ∧ w1.cell? ⟨w.heap.size, 4, none⟩ = some (.int .i64 d) :=
    ⟨(hp1.cell 0).trans rfl, (hp1.cell 1).trans rfl, (hp1.cell 2).trans rfl, (hp1.cell 3).trans rfl, (hp1.cell 4).trans rfl⟩
  have hql := hq1.lt
  have hpl := hp1.lt
  clear hq hown hc1
  go_wp2_with fail
  go_quiet (fail)
  go_wp2_with fail
  have hE := own_drewN (hown1.alloc (.cells #[.int .i64 i, .int .i64 f, .int .i64 l, .int .i64 a, .int .i64 d] 24))
  have hR := (reads_lit w1 24 #[.int .i64 i, .int .i64 f, .int .i64 l, .int .i64 a, .int .i64 d] 5 rfl).drewN
  have hone : ∀ u ∈ ([.int .i64 i, .int .i64 f, .int .i64 l, .int .i64 a, .int .i64 d] : List Value), u.oneCell' = true := by intro u hu; simp at hu; rcases hu with rfl | rfl | rfl | rfl | rfl <;> rfl
  go_region_law ((refine step_app (P := Try.prog) (t := 42) Try.underlying42 pk_info rfl (by omega) (.tmp 38) (.tmp 40) B (n := n) (m := 1) (N := n + 1) rfl (by omega) hone (by omega) (hE _) (hR _) (by simp; omega) (by rfl) (by rfl) (by rfl) (by rfl) ?_; intro A2 d2 W2 hown2 hgrow2 hat2; have kq := (((Chg.refl (ownL (.slice A n c)) w1).alloc (.cells #[.int .i64 i, .int .i64 f, .int .i64 l, .int .i64 a, .int .i64 d] 24)).drewN _).grown hgrow2 (fun j hj => .inl (mem_ownL.2 hj)); have hq2 := hq1.chg kq hqo; have hp2 := hp1.chg kq (fun hm => absurd (hol _ hm).2 (by omega)); obtain ⟨e2', e3', p2', f2', f3'⟩ := push_facts hq2 hp2))
  all_goals
    have kE := k1.mono (S' := ownL (.slice A n c)) (by simp) |>.trans kq (fun x hx => .inl hx)
    have hloc : ∀ j ∈ ownL (.slice A2 (n + 1) d2), j ∈ ownL (.slice A n c) ∨ w.heap.size ≤ j := fun j hj => by
      rcases hat2 with h | h
      · exact .inl (mem_ownL.2 (h ▸ mem_ownL.1 hj))
      · have := mem_ownL.1 hj
        rw [h] at this
        simp at this
        exact .inr (by omega)
    clear p0 p1 p2 p3 p4 e0 e1 e2 e3 hE hR hone hgrow2 hat2 kq hq2 hp2 hown1
    go_wp2_with fail
    go_region
    go_wp2
    go_ret
    exact ⟨rfl, A2, d2, W2, _, hown2, kE, hloc, rfl⟩
end

end Go.Proofs.Ytdlehpohpdepkaa
