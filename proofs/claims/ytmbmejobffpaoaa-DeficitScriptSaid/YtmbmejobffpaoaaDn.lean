/- The round of deficits: Next. -/
import Derived.Test.YtmbmejobffpaoaaDi
import Derived.StillTailTactics
import Derived.Deep.LoopGhost
namespace Go.Proofs.Ytmbmejobffpaoaa
open Go.RowKit
set_option linter.unusedVariables false
set_option linter.unusedSimpArgs false

theorem ptrs_cons (m : Nat × Sd) (R : List (Nat × Sd)) : ptrs (m :: R) = .pointer (some ⟨m.1, 0, none⟩) :: ptrs R := rfl

/-- The head goes to the end of the order. -/
theorem drot_fin {w1 X W2 : World} {B r c c2 n : Nat} {O : List Nat} {q : Int} {m : Nat × Sd} {R : List (Nat × Sd)} {A A1 A2 sn : Option Addr} (h1 : DM w1 B r O q (m :: R) A c sn) (hA1 : blkL A1 = blkL A) (hX : Chg [] w1 X)
    (hc2 : Chg (blkL A1) X W2) (hn : R.length + 1 = n) (hS2 : SR W2 52 A2 n c2 (ptrs R ++ [.pointer (some ⟨m.1, 0, none⟩)])) (hn2 : ∀ j ∈ blkL A2, j ∈ blkL A1 ∨ X.heap.size ≤ j) (hB : B ≤ w1.heap.size) :
    ∃ O', DM (W2.setCell ⟨r, 1, none⟩ (.slice A2 n c2)) B r O' q (R ++ [m]) A2 c2 sn ∧ (∀ j ∈ O', j ∈ O ∨ w1.heap.size ≤ j) ∧
      Chg (r :: O) w1 (W2.setCell ⟨r, 1, none⟩ (.slice A2 n c2)) := by
  rw [hA1] at hc2 hn2
  have kA : Chg (blkL A) w1 W2 := (hX.mono (S' := blkL A) (by simp)).trans hc2 (fun j hj => .inl hj)
  have hr := h1.hr.chg kA h1.rA
  have hX1 := hX.size
  have hX2 := hc2.size
  have hrl := h1.lt
  have hAl := hS2.lt
  have hA2 : ∀ j ∈ blkL A2, j ∈ O ∨ w1.heap.size ≤ j := fun j hj => by
    rcases hn2 j hj with h | h
    · exact .inl (h1.row.2 j h)
    · exact .inr (by omega)
  have hmem : ∀ x, x ∈ R ++ [m] → x ∈ m :: R := fun x hx => by simp at hx ⊢; exact hx.symm
  refine ⟨blkL A2 ++ O, DM.put h1.Br hr (by simp [hn]) (by rw [ptrs_app]; exact hS2) (fun j hj => by simp [hj]) ?_ ?_ (fun x hx => ?_) ?_, ?_, ?_⟩
  · intro hm
    simp at hm
    rcases hm with h | h
    · rcases hA2 r h with h | h
      · exact h1.rO h
      · omega
    · exact h1.rO h
  · intro j hj
    simp at hj
    rcases hj with h | h
    · refine ⟨?_, hAl j h⟩
      rcases hA2 j h with h | h
      · exact (h1.BO j h).1
      · omega
    · exact ⟨(h1.BO j h).1, by have := (h1.BO j h).2; omega⟩
  · have hx := hmem x hx
    exact ⟨by simp [(h1.st x hx).1], (h1.st x hx).2.chg kA (h1.ne hx)⟩
  · have := h1.nd
    rw [List.map_cons, List.nodup_cons] at this
    rw [List.map_append]
    exact nodup_snoc this.2 this.1
  · intro j hj
    simp at hj
    rcases hj with h | h
    · exact hA2 j h
    · exact .inl h
  · exact (kA.mono (S' := r :: O) (fun j hj => .inl (by simp [h1.row.2 j hj]))).setCell (by simp) _

/-- The head is replenished. -/
theorem drep_fin {w1 : World} {B r c m : Nat} {O : List Nat} {q : Int} {s : Sd} {R : List (Nat × Sd)} {A sn : Option Addr} (h1 : DM w1 B r O q ((m, s) :: R) A c sn) (hd : s.d ≤ 0) :
    DM ((w1.setCell ⟨m, 2, none⟩ (.int .i64 (s.d + q * s.w))).setCell ⟨m, 3, none⟩ (.int .i64 (s.t + 1))) B r O q ((m, rot q s) :: R) A c sn := by
  have a := h1.upd (k := 0) (j := 2) (by simp) (v := .int .i64 (s.d + q * s.w)) (s' := ⟨s.i, s.w, s.d + q * s.w, s.t⟩) (by simp [sdC])
  have b := a.upd (k := 0) (j := 3) (by simp) (v := .int .i64 (s.t + 1)) (s' := ⟨s.i, s.w, s.d + q * s.w, s.t + 1⟩) (by simp [sdC])
  have hr : rot q s = ⟨s.i, s.w, s.d + q * s.w, s.t + 1⟩ := by unfold rot; rw [if_pos hd]
  rw [hr]
  simpa using b

/-- What stands throughout, of the stations. -/
structure DV (q K : Int) (L : List Sd) : Prop where
  hq : 256 ≤ q ∧ q ≤ 1048576
  hK : 0 ≤ K ∧ K ≤ 1000000000000000
  ok : ∀ s ∈ L, okD q K s
  nd : (L.map (·.i)).Nodup
  hl : L.length ≤ 16

theorem DV.rot {q K : Int} {s : Sd} {r : List Sd} (h : DV q K (s :: r)) : DV q K (r ++ [rot q s]) := by
  refine ⟨h.hq, h.hK, fun x hx => ?_, ?_, by have := h.hl; simpa using this⟩
  · rcases List.mem_append.1 hx with hx | hx
    · exact h.ok x (by simp [hx])
    · simp at hx
      subst hx
      exact (h.ok s (by simp)).rot h.hq
  · have := h.nd
    rw [List.map_cons, List.nodup_cons] at this
    rw [List.map_append]
    refine nodup_snoc this.2 ?_
    show (Go.Proofs.Ytmbmejobffpaoaa.rot q s).i ∉ _
    rw [rot_i]
    exact this.1
theorem DV.next {q K : Int} {rd : List Int} {L L' : List Sd} (h : DV q K L) (hn : Nxt q rd L L') : DV q K L' :=
  hn.inv (P := fun M => DV q K M) (fun s r hP _ => hP.rot) h
theorem DV.u {q K : Int} {s : Sd} {r : List Sd} (h : DV q K (s :: r)) : ∀ p ∈ r, p.i ≠ s.i := by
  intro p hp he
  have := h.nd
  rw [List.map_cons, List.nodup_cons] at this
  exact this.1 (List.mem_map.2 ⟨p, hp, he⟩)

end Go.Proofs.Ytmbmejobffpaoaa
