/- The sender: Assign. -/
import Derived.Test.YtgkhendbpehagaaSn
namespace Go.Proofs.Ytgkhendbpehagaa
open Go.RowKit
set_option linter.unusedVariables false
set_option linter.unusedSimpArgs false

set_option maxHeartbeats 1000000 in
theorem sassign_bad {w : World} {B s : Nat} {O : List Nat} {wd tr nx : Int} {ps : List Sn} (h : SA w B s O wd tr nx ps) (id : Int) (hid : id < 1) :
    Calls Try.prog 10 #[.pointer (some ⟨s, 0, none⟩), .int .i64 id] w fun e w' => e = .returned (.tuple #[.int .i64 0, .int .i64 1]) ∧ ∃ m, w' = w.drewN m := by
  go_enter Try.func10, Try.ntmps10
  go_wp2_with fail
  go_ret2
  exact ⟨rfl, 0, rfl⟩

set_option maxHeartbeats 1000000 in
theorem sassign_full {w : World} {B s : Nat} {O : List Nat} {wd tr nx : Int} {ps : List Sn} (h : SA w B s O wd tr nx ps) (id : Int) (hid : 1 ≤ id) (hf : ¬ dst (bs nx ps) nx < wd) :
    Calls Try.prog 10 #[.pointer (some ⟨s, 0, none⟩), .int .i64 id] w fun e w' => e = .returned (.tuple #[.int .i64 0, .int .i64 4]) ∧ ∃ m, w' = w.drewN m := by
  have HO := Lib.hid (sopen_c h)
  rw [decide_eq_false hf] at HO
  clear h hf
  go_enter Try.func10, Try.ntmps10
  go_wp2_with fail
  refine HO.out.mono ?_
  rintro e w' ⟨rfl, m, rfl⟩
  go_wp2_with fail
  go_ret2
  exact ⟨rfl, _, rfl⟩

set_option maxRecDepth 100000 in
set_option maxHeartbeats 2000000 in
theorem sassign_room {w : World} {B s : Nat} {O : List Nat} {wd tr nx : Int} {ps : List Sn} (h : SA w B s O wd tr nx ps) (hB : B ≤ w.heap.size) (hl : ps.length < 1000) (id : Int) (hid : 1 ≤ id) (hf : dst (bs nx ps) nx < wd) :
    Calls Try.prog 10 #[.pointer (some ⟨s, 0, none⟩), .int .i64 id] w fun e w' => e = .returned (.tuple #[.int .i64 nx, .int .i64 0]) ∧ ∃ O', SA w' B s O' wd tr ((nx + 1 + 65536) % 65536) (ps ++ [⟨nx, id, 0⟩]) ∧ (∀ j ∈ O', j ∈ O ∨ w.heap.size ≤ j) ∧ Chg (s :: O) w w' := by
  have HO := Lib.hid (sopen_c h)
  rw [decide_eq_true hf] at HO
  clear hf
  obtain ⟨A, c, h9, h10, h11⟩ := h.row
  have hn := h.hn
  have HH := Lib.hid h
  have hqo := ownL_blk h10 h9 (by decide)
  have e2 := (h9.cell 2).trans rfl
  have e3 := (h9.cell 3).trans rfl
  have f2 := h9.frozen 2
  have f3 := h9.frozen 3
  clear h
  go_enter Try.func10, Try.ntmps10
  go_wp2_with fail
  refine HO.out.mono ?_
  rintro e w' ⟨rfl, m, rfl⟩
  have hE := own_drewN (own_chg h10 ((Chg.refl [] w).alloc (.cells #[.int .i64 nx, .int .i64 id, .int .i64 0] 39)) (by simp)) m
  have hR := (reads_lit w 39 #[.int .i64 nx, .int .i64 id, .int .i64 0] 3 rfl).drewN m
  have hone : ∀ u ∈ ([.int .i64 nx, .int .i64 id, .int .i64 0] : List Value), u.oneCell' = true := by intro u hu; simp at hu; rcases hu with rfl | rfl | rfl <;> rfl
  go_wp2_with (at_builtin; refine list_app (P := Try.prog) (t := 33) Try.underlying33 sn_info rfl (by omega) (.tmp 22) (.tmp 26) B (n := ps.length) (m := 1) (N := ps.length + 1) rfl (by omega) hone (by omega) hE hR (by simp; omega) (by rfl) (by rfl) (by rfl) (by rfl) ?_; intro A2 d2 W2 hown2 hgrow2 hat2; have kq := (((Chg.refl (ownL (.slice A ps.length c)) w).alloc (.cells #[.int .i64 nx, .int .i64 id, .int .i64 0] 39)).drewN m).grown hgrow2 (fun j hj => .inl (mem_ownL.2 hj)); have hs2 := h9.chg kq hqo; have g2 := hs2.frozen 2; have g3 := hs2.frozen 3; have c2 : W2.cell? ⟨s, 2, none⟩ = some (.int .i64 nx) := (hs2.cell 2).trans rfl; have c3 : W2.cell? ⟨s, 3, none⟩ = some (.slice A ps.length c) := (hs2.cell 3).trans rfl; have hs3 := hs2.lt; clear hE hR hone hgrow2)
  refine (next_ok nx 1 _ hn.1 hn.2 (by omega) (by omega)).mono ?_
  rintro e w3 ⟨rfl, rfl⟩
  go_wp2_with fail
  go_ret2
  have hh := HH.out
  have hqn := ownL_blk hown2 hs2 (by decide)
  have kS : Chg (s :: O) w W2 := kq.mono (fun x hx => .inl (by simp [h11 x hx]))
  refine ⟨rfl, ownL (.slice A2 (ps.length + 1) d2), ⟨hh.Bs, hqn, fun j hj => (ownL_lt hown2 j hj).1, fun j hj => by have := (ownL_lt hown2 j hj).2; simpa [World.setCell] using this, hh.hw, hh.ht, by omega, by simp; omega, fun p hp => ?_, A2, d2, ?_, ?_, fun j hj => by simpa using hj⟩, fun j hj => ?_, ?_⟩
  · rcases List.mem_append.1 hp with hp | hp
    · exact hh.ok p hp
    · simp at hp
      subst hp
      exact ⟨hn.1, hn.2, by simp, by simp⟩
  · have := (hs2.set_ 3 (.slice A2 (ps.length + 1) d2)).set_ 2 (.int .i64 ((nx + 1 + 65536) % 65536))
    simp only [List.setIfInBounds_toArray, List.set_cons_succ, List.set_cons_zero] at this
    simpa using this
  · have h9' : (ps ++ [(⟨nx, id, 0⟩ : Sn)]).flatMap snC = ps.flatMap snC ++ [.int .i64 nx, .int .i64 id, .int .i64 0] := by simp [snC]
    rw [h9', show (ps ++ [(⟨nx, id, 0⟩ : Sn)]).length = ps.length + 1 from by simp]
    exact own_chg hown2 (((Chg.refl [s] W2).setCell (by simp) _).setCell (by simp) _) (fun g hg => by simp; rintro rfl; exact hqn (mem_ownL.2 hg))
  · rcases hat2 with h | h
    · exact .inl (h11 j (mem_ownL.2 (h ▸ mem_ownL.1 hj)))
    · have := mem_ownL.1 hj
      rw [h] at this
      simp at this
      exact .inr (by omega)
  · exact ((kS.setCell (p := ⟨s, 3, none⟩) (by simp) _).setCell (p := ⟨s, 2, none⟩) (by simp) _)

end Go.Proofs.Ytgkhendbpehagaa
