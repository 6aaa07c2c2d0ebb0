/- The round of deficits: laws that lay its state anew; Join, Charge. -/
import Derived.Test.YtmbmejobffpaoaaDm
import Derived.BigRegion
import Derived.Deep.RegionHeld3
namespace Go.Proofs.Ytmbmejobffpaoaa
open Go.RowKit
set_option linter.unusedVariables false
set_option linter.unusedSimpArgs false

theorem st_info : (Try.prog.info? 52).map (fun i => (i.zero, i.size, i.bytes)) = some (some (.pointer none), 1, 8) := by kernel_rfl

theorem SR.lt {w : World} {e : TypeId} {A : Option Addr} {n c : Nat} {xs : List Value} (h : SR w e A n c xs) : ∀ j ∈ blkL A, j < w.heap.size := by
  rcases h.2 with ⟨rfl, _⟩ | ⟨g, off, cs, rfl, h3, _⟩
  · simp [blkL]
  · simp [blkL]; exact h3.lt
theorem SR.ne_blk {w : World} {e t : TypeId} {A : Option Addr} {n c p : Nat} {xs : List Value} {cs : Array Value} (h : SR w e A n c xs) (hb : Blk w p t cs) (hne : e ≠ t) : p ∉ blkL A := by
  rcases h.2 with ⟨rfl, _⟩ | ⟨g, off, cs', rfl, h3, _⟩
  · simp [blkL]
  · simp [blkL]
    exact (h3.ne_ hb hne).symm

theorem ptrs_app (M N : List (Nat × Sd)) : ptrs (M ++ N) = ptrs M ++ ptrs N := by simp [ptrs]

section
variable {w W : World} {B r c : Nat} {O O' : List Nat} {q : Int} {M M' : List (Nat × Sd)} {A A' sn sn' : Option Addr}
theorem DM.ne (h : DM w B r O q M A c sn) {m : Nat × Sd} (hm : m ∈ M) : m.1 ∉ blkL A := h.row.1.ne_blk (h.st m hm).2 (by decide)
theorem DM.rA (h : DM w B r O q M A c sn) : r ∉ blkL A := fun hr => h.rO (h.row.2 r hr)
theorem DM.rM (h : DM w B r O q M A c sn) {m : Nat × Sd} (hm : m ∈ M) : m.1 ≠ r := fun e => h.rO (e ▸ (h.st m hm).1)

theorem DM.put {n' c' : Nat} {v0 : Value} (Br : B ≤ r) (hr : Blk W r 54 #[.int .i64 q, v0, .pointer sn]) (hl : M'.length = n') (hR : SR W 52 A' n' c' (ptrs M')) (hA : ∀ j ∈ blkL A', j ∈ O')
    (rO : r ∉ O') (BO : ∀ j ∈ O', B ≤ j ∧ j < W.heap.size) (hst : ∀ m ∈ M', m.1 ∈ O' ∧ Blk W m.1 56 (sdC m.2).toArray) (hnd : (M'.map (·.1)).Nodup) :
    DM (W.setCell ⟨r, 1, none⟩ (.slice A' n' c')) B r O' q M' A' c' sn := by
  subst hl
  have kc : Chg [r] W (W.setCell ⟨r, 1, none⟩ (.slice A' M'.length c')) := (Chg.refl [r] W).setCell (by simp) _
  refine ⟨Br, rO, fun j hj => ⟨(BO j hj).1, Nat.lt_of_lt_of_le (BO j hj).2 kc.size⟩, ?_, ⟨hR.chg kc (fun j hj => by simp; rintro rfl; exact rO (hA _ hj)), hA⟩, fun m hm => ⟨(hst m hm).1, (hst m hm).2.chg kc (by simp; rintro rfl; exact rO (hst m hm).1)⟩, hnd⟩
  have := hr.set_ 1 (.slice A' M'.length c')
  simpa only [List.setIfInBounds_toArray, List.set_cons_succ, List.set_cons_zero] using this

theorem DM.setsn (h : DM w B r O q M A c sn) : DM (w.setCell ⟨r, 2, none⟩ (.pointer sn')) B r O q M A c sn' := by
  have kc : Chg [r] w (w.setCell ⟨r, 2, none⟩ (.pointer sn')) := (Chg.refl [r] w).setCell (by simp) _
  refine ⟨h.Br, h.rO, fun j hj => ⟨(h.BO j hj).1, Nat.lt_of_lt_of_le (h.BO j hj).2 kc.size⟩, ?_, ⟨h.row.1.chg kc (fun j hj => by simp; rintro rfl; exact h.rA hj), h.row.2⟩, fun m hm => ⟨(h.st m hm).1, (h.st m hm).2.chg kc (by simp; exact h.rM hm)⟩, h.nd⟩
  have := h.hr.set_ 2 (.pointer sn')
  simpa only [List.setIfInBounds_toArray, List.set_cons_succ, List.set_cons_zero] using this

theorem DM.upd (h : DM w B r O q M A c sn) {k j : Nat} (hk : k < M.length) {v : Value} {s' : Sd} (hs : (sdC M[k].2).toArray.setIfInBounds j v = (sdC s').toArray) :
    DM (w.setCell ⟨M[k].1, j, none⟩ v) B r O q (M.set k (M[k].1, s')) A c sn := by
  have kc : Chg [M[k].1] w (w.setCell ⟨M[k].1, j, none⟩ v) := (Chg.refl [M[k].1] w).setCell (by simp) _
  have hm := List.getElem_mem hk
  have hp : ptrs (M.set k (M[k].1, s')) = ptrs M := by
    unfold ptrs
    rw [List.map_set]
    apply List.ext_getElem
    · simp
    · intro i h1 h2
      rw [List.getElem_set]
      split
      · subst_vars; simp
      · rfl
  have hf : (M.set k (M[k].1, s')).map (·.1) = M.map (·.1) := by
    rw [List.map_set]
    apply List.ext_getElem
    · simp
    · intro i h1 h2
      rw [List.getElem_set]
      split
      · subst_vars; simp
      · rfl
  refine ⟨h.Br, h.rO, fun j hj => ⟨(h.BO j hj).1, Nat.lt_of_lt_of_le (h.BO j hj).2 kc.size⟩, ?_, ⟨?_, h.row.2⟩, fun m hmm => ?_, by rw [hf]; exact h.nd⟩
  · rw [List.length_set]
    exact h.hr.chg kc (by simp; exact fun e => h.rM hm e.symm)
  · rw [hp, List.length_set]
    exact h.row.1.chg kc (fun j hj => by simp; rintro rfl; exact h.ne hm hj)
  · obtain ⟨i, hi, rfl⟩ := List.getElem_of_mem hmm
    have hi' : i < M.length := by simpa using hi
    rw [List.getElem_set]
    split
    · exact ⟨(h.st _ hm).1, by rw [← hs]; exact (h.st _ hm).2.set_ j v⟩
    · rename_i hne
      have hmi := List.getElem_mem hi'
      refine ⟨(h.st _ hmi).1, (h.st _ hmi).2.chg kc ?_⟩
      simp
      intro e
      have := (List.getElem_inj (h₀ := by simpa using hi') (h₁ := by simpa using hk) h.nd).1 (by simpa using e)
      exact hne this.symm
end

theorem nodup_snoc {α : Type} {l : List α} {x : α} (h : l.Nodup) (hx : x ∉ l) : (l ++ [x]).Nodup := by
  rw [List.nodup_append]
  exact ⟨h, by simp, fun a ha b hb => by simp at hb; subst hb; rintro rfl; exact hx ha⟩

theorem djoin_fin {w1 X W2 : World} {B r c p c2 n : Nat} {O : List Nat} {q : Int} {M : List (Nat × Sd)} {A A2 sn : Option Addr} {s : Sd} (h1 : DM w1 B r O q M A c sn) (hB : B ≤ w1.heap.size) (hX : Chg [] w1 X) (hp : Blk X p 56 (sdC s).toArray) (hpl : w1.heap.size ≤ p)
    (hc2 : Chg (blkL A) X W2) (hn : M.length + 1 = n) (hS2 : SR W2 52 A2 n c2 (ptrs M ++ [.pointer (some ⟨p, 0, none⟩)])) (hn2 : ∀ j ∈ blkL A2, j ∈ blkL A ∨ X.heap.size ≤ j) :
    ∃ O', DM ((W2.setCell ⟨r, 1, none⟩ (.slice A2 n c2)).setCell ⟨r, 2, none⟩ (.pointer none)) B r O' q (M ++ [(p, s)]) A2 c2 none ∧ (∀ j ∈ O', j ∈ O ∨ w1.heap.size ≤ j) ∧
      Chg (r :: O) w1 ((W2.setCell ⟨r, 1, none⟩ (.slice A2 n c2)).setCell ⟨r, 2, none⟩ (.pointer none)) := by
  have kA : Chg (blkL A) w1 W2 := (hX.mono (S' := blkL A) (by simp)).trans hc2 (fun j hj => .inl hj)
  have hr := h1.hr.chg kA h1.rA
  have hpA : p ∉ blkL A := fun hj => by have := h1.row.1.lt p hj; omega
  have hX1 := hX.size
  have hX2 := hc2.size
  have hrl := h1.lt
  have hpO : p ∉ O := fun hj => by have := (h1.BO p hj).2; omega
  have hAl := hS2.lt
  have hA2 : ∀ j ∈ blkL A2, j ∈ O ∨ w1.heap.size ≤ j := fun j hj => by
    rcases hn2 j hj with h | h
    · exact .inl (h1.row.2 j h)
    · exact .inr (by omega)
  have hst : ∀ m ∈ M ++ [(p, s)], m.1 ∈ p :: (blkL A2 ++ O) ∧ Blk W2 m.1 56 (sdC m.2).toArray := by
    intro m hm
    rcases List.mem_append.1 hm with hm | hm
    · exact ⟨by simp [(h1.st m hm).1], (h1.st m hm).2.chg kA (h1.ne hm)⟩
    · simp at hm
      subst hm
      exact ⟨by simp, hp.chg hc2 hpA⟩
  refine ⟨p :: (blkL A2 ++ O), DM.setsn (DM.put h1.Br hr (by simp [hn]) (by rw [ptrs_app]; exact hS2) (fun j hj => by simp [hj]) ?_ ?_ hst ?_), ?_, ?_⟩
  · intro hm
    simp at hm
    rcases hm with h | h | h
    · omega
    · rcases hA2 r h with h | h
      · exact h1.rO h
      · omega
    · exact h1.rO h
  · intro j hj
    simp at hj
    rcases hj with rfl | h | h
    · exact ⟨by omega, by have := (hp.chg hc2 hpA).lt; exact this⟩
    · refine ⟨?_, hAl j h⟩
      rcases hA2 j h with h | h
      · exact (h1.BO j h).1
      · omega
    · exact ⟨(h1.BO j h).1, by have := (h1.BO j h).2; omega⟩
  · rw [List.map_append]
    refine nodup_snoc h1.nd fun hm => ?_
    obtain ⟨m, hm, he⟩ := List.mem_map.1 hm
    simp at he
    exact hpO (he ▸ (h1.st m hm).1)
  · intro j hj
    simp at hj
    rcases hj with rfl | h | h
    · exact .inr hpl
    · exact hA2 j h
    · exact .inl h
  · exact ((kA.mono (S' := r :: O) (fun j hj => .inl (by simp [h1.row.2 j hj]))).setCell (by simp) _).setCell (by simp) _

set_option maxRecDepth 100000 in
set_option maxHeartbeats 2000000 in
theorem djoin_raw {w : World} {B r c : Nat} {O : List Nat} {q x wt : Int} {M : List (Nat × Sd)} {A sn : Option Addr} (h : DM w B r O q M A c sn) (hB : B ≤ w.heap.size) (hl : M.length ≤ 1000) (hx : 0 ≤ x ∧ x < 16) (hw : 1 ≤ wt ∧ wt ≤ 16) (hq : 256 ≤ q ∧ q ≤ 1048576) (hs : sid x (vw M) = none) :
    Calls Try.prog 10 #[.pointer (some ⟨r, 0, none⟩), .int .i64 x, .int .i64 wt] w fun e w' => e = .returned (.int .i64 0) ∧ ∃ O' A' c' p, DM w' B r O' q (M ++ [(p, ⟨x, wt, q * wt, 0⟩)]) A' c' none ∧ (∀ j ∈ O', j ∈ O ∨ w.heap.size ≤ j) ∧ Chg (r :: O) w w' := by
  have HF := Lib.hid (dfind_m h (by omega) x)
  rw [sidI_none hs] at HF
  have hb := qw_bd hq hw
  obtain ⟨hx0, hx1⟩ := hx
  obtain ⟨hw0, hw1⟩ := hw
  have HH := Lib.hid h
  have hrl := h.lt
  clear h hs
  have hmul : IntKind.i64.wrap (q * wt) = q * wt := by rw [IntKind.wrap_i64]; omega
  go_enter Try.func10, Try.ntmps10
  go_wp2_with fail
  refine HF.out.mono ?_
  rintro e w1 ⟨rfl, hc1⟩
  have h1 := HH.out.chg hc1 (by simp) (by simp)
  have e0 := (h1.hr.cell 0).trans rfl
  have e1 := (h1.hr.cell 1).trans rfl
  have HS := Lib.hid (fun (W : World) (hW : Chg [] w1 W) => h1.row.1.chg hW (by simp))
  have HE := Lib.hid (fun (W W' : World) (k1 : Chg [] w1 W) (k2 : Chg (blkL A) W W') => (h1.hr.chg ((k1.mono (S' := blkL A) (by simp)).trans k2 (fun j hj => .inl hj)) h1.rA))
  have hz := hc1.size
  have hr1 : r < w1.heap.size := by omega
  have hr2 : r < w1.heap.size + 1 := by omega
  have H1 := Lib.hid h1
  have HC := Lib.hid hc1
  clear h1 hc1
  go_wp2_with fail
  go_region_law ((refine step_sr (P := Try.prog) (t := 51) Try.underlying51 st_info rfl (by omega) (.tmp 31) (.tmp 42) (n := M.length) (N := M.length + 1) (m := 1) rfl (HS.out _ (by repeat (first | exact Chg.refl _ _ | apply Chg.drew | apply Chg.drewN | apply Chg.alloc))) (by omega) (ad := ⟨w1.heap.size + 1, 0, none⟩) (u := .pointer (some ⟨w1.heap.size, 0, none⟩)) (by go_simp) rfl (by rfl) (by rfl) (by rfl) (by rfl) ?_; intro A2 c2 W2 hS2 hc2 hn2; have hE := HE.out _ _ (by repeat (first | exact Chg.refl _ _ | apply Chg.drew | apply Chg.drewN | apply Chg.alloc)) hc2; have g1 := (hE.cell 1).trans rfl; have g2 := hE.frozen 1; have g3 := (hE.cell 2).trans rfl; have g4 := hE.frozen 2))
  all_goals
    go_wp2_with fail
    go_ret
    obtain ⟨O', r1, r2, r3⟩ := djoin_fin (s := ⟨x, wt, q * wt, 0⟩) H1.out (by omega) (p := w1.heap.size) (X := ((w1.alloc (.cells #[.int .i64 x, .int .i64 wt, .int .i64 (q * wt), .int .i64 0] 56)).alloc (.cells #[.pointer (some ⟨w1.heap.size, 0, none⟩)] 52)).drew) ((((Chg.refl [] w1).alloc _).alloc _).drew) (((Blk.new _ _ _).alloc _).drew) (Nat.le_refl _) hc2 rfl hS2 hn2
    exact ⟨rfl, O', A2, c2, w1.heap.size, r1, fun j hj => (r2 j hj).imp_right (Nat.le_trans hz), (HC.out.mono (S' := r :: O) (by simp)).trans r3 (fun j hj => .inl hj)⟩

set_option maxHeartbeats 1000000 in
theorem djoin_bad {w : World} {B r : Nat} {O : List Nat} {q now x wt : Int} {L : List Sd} (h : DA w B r O q L now) (hb : ¬ (0 ≤ x ∧ x < 16 ∧ 1 ≤ wt ∧ wt ≤ 16)) :
    Calls Try.prog 10 #[.pointer (some ⟨r, 0, none⟩), .int .i64 x, .int .i64 wt] w fun e w' => e = .returned (.int .i64 1) ∧ Chg [] w w' := by
  clear h
  go_enter Try.func10, Try.ntmps10
  by_cases h1 : x < 0
  · go_wp2_with fail
    go_ret
    exact ⟨rfl, Chg.refl _ _⟩
  by_cases h2 : 16 ≤ x
  · go_wp2_with fail
    go_ret
    exact ⟨rfl, Chg.refl _ _⟩
  by_cases h3 : wt < 1
  · go_wp2_with fail
    go_ret
    exact ⟨rfl, Chg.refl _ _⟩
  have h4 : 16 < wt := by omega
  go_wp2_with fail
  go_ret
  exact ⟨rfl, Chg.refl _ _⟩

set_option maxHeartbeats 1000000 in
theorem djoin_dup {w : World} {B r k : Nat} {O : List Nat} {q now x wt : Int} {L : List Sd} (h : DA w B r O q L now) (hl : L.length ≤ 1000) (hx : 0 ≤ x ∧ x < 16) (hw : 1 ≤ wt ∧ wt ≤ 16) (hs : sid x L = some k) :
    Calls Try.prog 10 #[.pointer (some ⟨r, 0, none⟩), .int .i64 x, .int .i64 wt] w fun e w' => e = .returned (.int .i64 7) ∧ Chg [] w w' := by
  have HF := Lib.hid (dfind_c h (by omega) x)
  rw [sidI_some hs] at HF
  obtain ⟨hx0, hx1⟩ := hx
  obtain ⟨hw0, hw1⟩ := hw
  clear h hs
  go_enter Try.func10, Try.ntmps10
  go_wp2_with fail
  refine HF.out.mono ?_
  rintro e w1 ⟨rfl, hc1⟩
  go_wp2_with fail
  go_ret
  exact ⟨rfl, hc1⟩

theorem djoin_c {w : World} {B r : Nat} {O : List Nat} {q now x wt : Int} {L : List Sd} (h : DA w B r O q L now) (hB : B ≤ w.heap.size) (hl : L.length ≤ 1000) (hx : 0 ≤ x ∧ x < 16) (hw : 1 ≤ wt ∧ wt ≤ 16) (hq : 256 ≤ q ∧ q ≤ 1048576) (hs : sid x L = none) :
    Calls Try.prog 10 #[.pointer (some ⟨r, 0, none⟩), .int .i64 x, .int .i64 wt] w fun e w' => e = .returned (.int .i64 0) ∧ ∃ O', DA w' B r O' q (L ++ [⟨x, wt, q * wt, 0⟩]) (-1) ∧ (∀ j ∈ O', j ∈ O ∨ w.heap.size ≤ j) ∧ Chg (r :: O) w w' := by
  obtain ⟨M, A, c, sn, h1, rfl, h2⟩ := h
  refine (djoin_raw h1 hB (by rw [vw_len] at hl; exact hl) hx hw hq hs).mono ?_
  rintro e w' ⟨rfl, O', A', c', p, h3, h4, h5⟩
  exact ⟨rfl, O', ⟨_, A', c', none, h3, by simp [vw], .inl ⟨rfl, rfl⟩⟩, h4, h5⟩

end Go.Proofs.Ytmbmejobffpaoaa
