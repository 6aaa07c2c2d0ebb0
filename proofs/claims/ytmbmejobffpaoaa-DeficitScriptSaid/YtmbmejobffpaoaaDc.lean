/- The round of deficits: Charge, Order. -/
import Derived.Test.YtmbmejobffpaoaaDo
namespace Go.Proofs.Ytmbmejobffpaoaa
open Go.RowKit
set_option linter.unusedVariables false
set_option linter.unusedSimpArgs false

/-- Airtime is charged at place k. -/
def chA (a : Int) (L : List Sd) (k : Nat) : List Sd := match L[k]? with
  | none => L
  | some s => L.set k ⟨s.i, s.w, s.d - a, s.t⟩

set_option maxHeartbeats 1000000 in
theorem dcharge_bad {w : World} (r : Nat) (a : Int) (hb : ¬ (1 ≤ a ∧ a ≤ 1048576)) :
    Calls Try.prog 12 #[.pointer (some ⟨r, 0, none⟩), .int .i64 a] w fun e w' => e = .returned (.int .i64 1) ∧ Chg [] w w' := by
  go_enter Try.func12, Try.ntmps12
  by_cases h1 : a < 1
  · go_wp2_with fail
    go_ret
    exact ⟨rfl, Chg.refl _ _⟩
  have h4 : 1048576 < a := by omega
  go_wp2_with fail
  go_ret
  exact ⟨rfl, Chg.refl _ _⟩

set_option maxHeartbeats 1000000 in
theorem dcharge_none {w : World} {B r : Nat} {O : List Nat} {q a : Int} {L : List Sd} (h : DA w B r O q L (-1)) (hi : ∀ s ∈ L, 0 ≤ s.i) (ha : 1 ≤ a ∧ a ≤ 1048576) :
    Calls Try.prog 12 #[.pointer (some ⟨r, 0, none⟩), .int .i64 a] w fun e w' => e = .returned (.int .i64 14) ∧ Chg [] w w' := by
  obtain ⟨M, A, c, sn, h1, rfl, h2⟩ := h
  have hsn : sn = none := by
    rcases h2 with ⟨_, h2⟩ | ⟨k, hk, h2, _⟩
    · exact h2
    · obtain ⟨hk', h3⟩ := sid_spec h2
      have := hi _ (List.getElem_mem hk')
      omega
  subst hsn
  have e2 := (h1.hr.cell 2).trans rfl
  obtain ⟨ha0, ha1⟩ := ha
  clear h1 h2 hi
  go_enter Try.func12, Try.ntmps12
  go_wp2_with fail
  go_ret
  exact ⟨rfl, Chg.refl _ _⟩

set_option maxHeartbeats 1000000 in
theorem dcharge_raw {w : World} {B r c k : Nat} {O : List Nat} {q a : Int} {M : List (Nat × Sd)} {A : Option Addr} (hk : k < M.length) (h : DM w B r O q M A c (some ⟨M[k].1, 0, none⟩)) (ha : 1 ≤ a ∧ a ≤ 1048576) (hd : -1048576 < M[k].2.d ∧ M[k].2.d ≤ 16777216) :
    Calls Try.prog 12 #[.pointer (some ⟨r, 0, none⟩), .int .i64 a] w fun e w' => e = .returned (.int .i64 0) ∧ w' = (w.setCell ⟨M[k].1, 2, none⟩ (.int .i64 (M[k].2.d - a))).setCell ⟨r, 2, none⟩ (.pointer none) := by
  have hm := List.getElem_mem hk
  have e2 := (h.hr.cell 2).trans rfl
  have f2 := h.hr.frozen 2
  have hb := (h.st _ hm).2
  have c2 : w.cell? ⟨M[k].1, 2, none⟩ = some (.int .i64 M[k].2.d) := (hb.cell 2).trans rfl
  have g2 := hb.frozen 2
  have hne : M[k].1 ≠ r := h.rM hm
  have hne' : r ≠ M[k].1 := Ne.symm hne
  obtain ⟨ha0, ha1⟩ := ha
  obtain ⟨hd0, hd1⟩ := hd
  have hw : IntKind.i64.wrap (M[k].2.d - a) = M[k].2.d - a := by rw [IntKind.wrap_i64]; omega
  clear h hb hm
  generalize hp : M[k] = p at *
  clear hp
  go_enter Try.func12, Try.ntmps12
  go_wp2_with fail
  go_ret
  exact ⟨rfl, rfl⟩

theorem dcharge_c {w : World} {B r k : Nat} {O : List Nat} {q now a : Int} {L : List Sd} (h : DA w B r O q L now) (hi : ∀ s ∈ L, 0 ≤ s.i) (hn : now ≠ -1) (hs : sid now L = some k) (ha : 1 ≤ a ∧ a ≤ 1048576) (hd : ∀ s ∈ L, -1048576 < s.d ∧ s.d ≤ 16777216) :
    Calls Try.prog 12 #[.pointer (some ⟨r, 0, none⟩), .int .i64 a] w fun e w' => e = .returned (.int .i64 0) ∧ DA w' B r O q (chA a L k) (-1) ∧ Chg (r :: O) w w' := by
  obtain ⟨M, A, c, sn, h1, rfl, h2⟩ := h
  rcases h2 with ⟨h2, _⟩ | ⟨k', hk, h2, rfl⟩
  · exact absurd h2 hn
  · rw [hs] at h2
    injection h2 with h2
    subst h2
    have hm := List.getElem_mem hk
    refine (dcharge_raw hk h1 ha (hd _ (by simp only [vw]; exact List.mem_map_of_mem hm))).mono ?_
    rintro e w' ⟨rfl, rfl⟩
    refine ⟨rfl, ⟨M.set k (M[k].1, ⟨M[k].2.i, M[k].2.w, M[k].2.d - a, M[k].2.t⟩), A, c, none, (h1.upd hk (by simp [sdC])).setsn, ?_, .inl ⟨rfl, rfl⟩⟩, ?_⟩
    · unfold chA vw
      simp [hk, List.map_set]
    · exact ((Chg.refl _ _).setCell (by simp [(h1.st _ hm).1]) _).setCell (by simp) _

theorem int_info : (Try.prog.info? 3).map (fun i => (i.zero, i.size, i.bytes)) = some (some (.int .i64 0), 1, 8) := by kernel_rfl

set_option maxHeartbeats 2000000 in
theorem dorder_m {w : World} {B r c : Nat} {O : List Nat} {q : Int} {M : List (Nat × Sd)} {A sn : Option Addr} (h : DM w B r O q M A c sn) (hl : M.length ≤ 1000) :
    Calls Try.prog 17 #[.pointer (some ⟨r, 0, none⟩)] w fun e w' => ∃ A' c', e = .returned (.slice A' M.length c') ∧ w'.ownsRow w.heap.size 3 1 (.slice A' M.length c') M.length ((vw M).map fun s => .int .i64 s.i) ∧ Chg [] w w' := by
  obtain ⟨n, hn⟩ : ∃ n, M.length = n := ⟨_, rfl⟩
  have e1 := (h.hr.cell 1).trans rfl
  rw [hn] at e1
  have HH := Lib.hid h
  have HN := Lib.hid hn
  rw [hn] at hl
  rw [hn]
  clear h hn
  go_enter Try.func17, Try.ntmps17
  go_wp2_with fail
  go_loopw [3, 11] (fun v i wr => ∃ k A' c' , k ≤ n ∧ i = .int .i64 (k : Nat) ∧ v = .slice A' k c' ∧ wr.ownsRow w.heap.size 3 1 (.slice A' k c') k (((vw M).map fun s => .int .i64 s.i).take k) ∧ Chg [] w wr) (fun v i _ => n - (intOf i).toNat)
  case atStart => exact ⟨0, none, 0, Nat.zero_le _, rfl, rfl, by simpa using World.ownsRow_nil _ _ _ _, Chg.refl _ _⟩
  case round =>
    obtain ⟨k, A', c', hk, rfl, rfl, hown, hc⟩ := hrel
    by_cases hlt : k < n
    · have hkl : k < M.length := by have := HN.out; omega
      have hd := HH.out.chg hc (by simp) (by simp)
      obtain ⟨g, off, rfl, hg, c0⟩ := hd.cell hkl
      have c1 : wr.cell? ⟨M[k].1, 0, none⟩ = some (.int .i64 M[k].2.i) := ((hd.st M[k] (by simp)).2.cell 0).trans rfl
      have HT := Lib.hid (show ((vw M).map fun s => Value.int .i64 s.i).take (k + 1) = ((vw M).map fun s => Value.int .i64 s.i).take k ++ [.int .i64 M[k].2.i] from by
        rw [List.take_succ_eq_append_getElem (by simp [vw]; exact hkl)]
        simp [vw])
      generalize M[k] = p at c0 c1 HT
      have hI : (k : Int) < (n : Int) := by omega
      have hJ : (0 : Int) ≤ (k : Int) := by omega
      have hz := hc.size
      have HC := Lib.hid hc
      clear hd hc
      go_wp2_with (at_builtin; refine list_app (P := Try.prog) (t := 22) Try.underlying22 int_info rfl (by omega) (.tmp 15) (.tmp 20) w.heap.size (n := k) (m := 1) (N := k + 1) rfl (by omega) (by intro u hu; simp at hu; subst hu; rfl) (by omega) (own_chg hown ((Chg.refl [] wr).alloc _) (by simp)) (reads_lit1 wr 3 (.int .i64 p.2.i)) (by simp; omega) (by rfl) (by rfl) (by rfl) (by rfl) ?_; intro A2 d2 W2 hown2 hgrow2 hat2)
      go_roundw
      case rel => exact ⟨k + 1, A2, d2, by omega, by go_num, rfl, by rw [HT.out]; exact hown2, (HC.out.alloc _).grown hgrow2 (fun j hj => .inr (hown.lt j hj).1)⟩
      case measure => simp [intOf]; omega
    · obtain rfl : k = n := by omega
      have HT := Lib.hid (show ((vw M).map fun s => Value.int .i64 s.i).take k = (vw M).map fun s => Value.int .i64 s.i from List.take_of_length_le (by have := HN.out; simp [vw]; omega))
      go_wp2_with fail
      go_ret
      exact ⟨A', c', rfl, by rw [← HT.out]; exact hown, hc⟩

end Go.Proofs.Ytmbmejobffpaoaa
