/- The reference's ring (airshareref4.Ring): NewRing, Insert, Take. 'RefA w B s g n M': block s is the reference; its list lies in block g. -/
import Derived.Test.YteejbfookokadaaRingM
namespace Go.Proofs.Yteejbfookokadaa
open Go.RowKit
set_option linter.unusedVariables false
set_option linter.unusedSimpArgs false

def RefA (w : World) (B s g n : Nat) (M : List Int) : Prop :=
  B ≤ s ∧ 1 ≤ n ∧ n ≤ 4096 ∧ M.length ≤ n ∧ ∃ a c, Blk w s 47 #[.int .i64 (n : Nat), .slice a M.length c] ∧ Rd w g a M ∧ (M = [] ∨ a = some ⟨g, 0, none⟩ ∧ M.length ≤ c)

theorem RefA.chg {S : List Nat} {w w' : World} {B s g n : Nat} {M : List Int} (h : RefA w B s g n M) (hc : Chg S w w') (hs : s ∉ S) (hg : g ∉ S) : RefA w' B s g n M := by
  obtain ⟨h1, h2, h3, h4, a, c, h5, h6, h7⟩ := h
  exact ⟨h1, h2, h3, h4, a, c, h5.chg hc hs, h6.chg hc hg, h7⟩
theorem RefA.lt {w : World} {B s g n : Nat} {M : List Int} (h : RefA w B s g n M) : B ≤ s ∧ s < w.heap.size ∧ M.length ≤ n ∧ n ≤ 4096 := by
  obtain ⟨h1, h2, h3, h4, a, c, h5, h6, h7⟩ := h
  exact ⟨h1, h5.lt, h4, h3⟩

set_option maxHeartbeats 400000 in
theorem rnew4_raw (n : Nat) (hn : 1 ≤ n) (hn2 : n ≤ 4096) (w : World) :
    Calls Try.prog 20 #[.int .i64 (n : Nat)] w fun e w' => e = .returned (.tuple #[.pointer (some ⟨w.heap.size, 0, none⟩), .int .i64 0]) ∧
      ∃ m, w' = (w.alloc (.cells #[.int .i64 (n : Nat), .slice none 0 0] 47)).drewN m := by
  go_enter Try.func20, Try.ntmps20
  go_wp2
  go_ret2
  exact ⟨rfl, 0, rfl⟩
theorem rnew4_c (n : Nat) (hn : 1 ≤ n) (hn2 : n ≤ 4096) {i : Int} (hi : i = (n : Int)) (w : World) (g : Nat) {B : Nat} (hB : B ≤ w.heap.size) :
    Calls Try.prog 20 #[.int .i64 i] w fun e w' => ∃ s, e = .returned (.tuple #[.pointer (some ⟨s, 0, none⟩), .int .i64 0]) ∧ RefA w' B s g n [] ∧ w.heap.size ≤ s ∧ Chg [] w w' := by
  subst hi
  refine (rnew4_raw n hn hn2 w).mono ?_
  rintro e w' ⟨rfl, m, rfl⟩
  exact ⟨_, rfl, ⟨hB, hn, hn2, by simp, none, 0, (Blk.new _ _ _).drewN m, Rd.nil _ _ _, .inl rfl⟩, Nat.le_refl _, ((Chg.refl _ _).alloc _).drewN m⟩

section
variable (s n : Nat) (M : List Int) (x : Int) (g : Nat) (a : Option Addr) (c : Nat) (w : World)

set_option maxHeartbeats 400000 in
theorem ins_full (b : Bool) (h0 : w.cell? ⟨s, 0, none⟩ = some (.int .i64 (n : Nat))) (h1 : w.cell? ⟨s, 1, none⟩ = some (.slice a M.length c)) (hl : n ≤ M.length) :
    Calls Try.prog 24 #[.pointer (some ⟨s, 0, none⟩), .int .i64 x, .bool b] w fun e w' => e = .returned (.int .i64 4) ∧ ∃ m, w' = w.drewN m := by
  have hl' : (n : Int) ≤ (M.length : Int) := by omega
  go_enter Try.func24, Try.ntmps24
  go_wp2
  go_quiet (fail)
  go_wp2
  go_ret
  exact ⟨rfl, _, rfl⟩

set_option maxHeartbeats 800000 in
theorem ins_front (h0 : w.cell? ⟨s, 0, none⟩ = some (.int .i64 (n : Nat))) (h1 : w.cell? ⟨s, 1, none⟩ = some (.slice a M.length c)) (hf : w.frozen? ⟨s, 1, none⟩ = false) (hs : s < w.heap.size) (hl : M.length < n) (hn : n ≤ 4096) (hM : Rd w g a M) :
    Calls Try.prog 24 #[.pointer (some ⟨s, 0, none⟩), .int .i64 x, .bool true] w fun e w' => e = .returned (.int .i64 0) ∧
      ∃ v W, W.ownsRow w.heap.size 3 1 v (1 + M.length) ([.int .i64 x] ++ M.map (Value.int .i64)) ∧ Chg [] w W ∧ ∃ m, w' = (W.setCell ⟨s, 1, none⟩ v).drewN m := by
  have hl' : ¬ (n : Int) ≤ (M.length : Int) := by omega
  have hr := hM.reads
  go_enter Try.func24, Try.ntmps24
  go_wp2
  go_quiet (fail)
  go_wp2_with (at_builtin; refine list_app (P := Try.prog) (t := 22) Try.underlying22 int_info rfl (by omega) (.tmp 20) (.tmp 24) w.heap.size (n := 1) (m := M.length) (N := 1 + M.length) rfl (by omega) (ints_one _) (by omega) (own_drewN (own_lit1 w 3 w.heap.size (Nat.le_refl _) (.int .i64 x)) _) ((hr.alloc (Nat.le_refl _) _).drewN _) (by simp) (by rfl) (by rfl) (by rfl) (by rfl) ?_; intro A1 d1 W1 hown1 hgrow1 hat1; have q1 := (((Chg.refl [] w).alloc (.cells #[.int .i64 x] 3)).drewN _).grown hgrow1 (by simp [Value.ownBlock]); have e1 := (q1.cell (p := ⟨s, 1, none⟩) hs (by simp)).trans h1; have e2 := (q1.frozen (p := ⟨s, 1, none⟩) hs (by simp)).trans hf)
  go_ret
  exact ⟨rfl, _, W1, hown1, q1, 0, rfl⟩

set_option maxHeartbeats 800000 in
theorem ins_back (h0 : w.cell? ⟨s, 0, none⟩ = some (.int .i64 (n : Nat))) (h1 : w.cell? ⟨s, 1, none⟩ = some (.slice a M.length c)) (hf : w.frozen? ⟨s, 1, none⟩ = false) (hs : s < w.heap.size) (hl : M.length < n) (hn : n ≤ 4096) (hM : Rd w g a M) :
    Calls Try.prog 24 #[.pointer (some ⟨s, 0, none⟩), .int .i64 x, .bool false] w fun e w' => e = .returned (.int .i64 0) ∧
      ∃ v W, W.ownsRow w.heap.size 3 1 v (M.length + 1) (([] ++ M.map (Value.int .i64)) ++ [.int .i64 x]) ∧ Chg [] w W ∧ ∃ m, w' = (W.setCell ⟨s, 1, none⟩ v).drewN m := by
  have hl' : ¬ (n : Int) ≤ (M.length : Int) := by omega
  have hr := hM.reads
  go_enter Try.func24, Try.ntmps24
  go_wp2
  go_quiet (fail)
  go_wp2_with (first
    | (at_builtin; have hO := hown1; refine list_app (P := Try.prog) (t := 22) Try.underlying22 int_info rfl (by omega) (.tmp 34) (.tmp 36) w.heap.size (n := M.length) (m := 1) (N := M.length + 1) rfl (by omega) (ints_one [x]) (by omega) (hO.alloc _) (reads_lit1 W1 3 (.int .i64 x)) (by have := q1.size; simp; omega) (by rfl) (by rfl) (by rfl) (by rfl) ?_; clear hO; intro A2 d2 W2 hown2 hgrow2 hat2; have q2 := (q1.alloc (.cells #[.int .i64 x] 3)).grown hgrow2 hv1; have e3 := (q2.cell (p := ⟨s, 1, none⟩) hs (by simp)).trans h1; have e4 := (q2.frozen (p := ⟨s, 1, none⟩) hs (by simp)).trans hf)
    | (at_builtin; refine list_app (P := Try.prog) (t := 22) Try.underlying22 int_info rfl (by omega) (.tmp 29) (.tmp 33) w.heap.size (n := 0) (m := M.length) (N := M.length) (Nat.zero_add _) (by omega) (ints_one _) (by omega) (own_drewN (own_empty w 3 1 w.heap.size (Nat.le_refl _)) _) ((hr.alloc (Nat.le_refl _) _).drewN _) (by simp) (by rfl) (by rfl) (by rfl) (by rfl) ?_; intro A1 d1 W1 hown1 hgrow1 hat1; have q1 := (((Chg.refl [] w).alloc (.cells #[] 3)).drewN _).grown hgrow1 (by simp [Value.ownBlock]); have hv1 := own_new (S := []) hat1; have e1 := (q1.cell (p := ⟨s, 1, none⟩) hs (by simp)).trans h1; have e2 := (q1.frozen (p := ⟨s, 1, none⟩) hs (by simp)).trans hf))
  go_ret
  exact ⟨rfl, _, W2, hown2, q2, 0, rfl⟩

set_option maxHeartbeats 400000 in
theorem take_no (i : Int) (h1 : w.cell? ⟨s, 1, none⟩ = some (.slice a M.length c)) (hi : i < 0 ∨ (M.length : Int) ≤ i) :
    Calls Try.prog 25 #[.pointer (some ⟨s, 0, none⟩), .int .i64 i] w fun e w' => e = .returned (.tuple #[.int .i64 0, .bool false]) ∧ ∃ m, w' = w.drewN m := by
  by_cases hi0 : i < 0
  all_goals
    have hi1 : 0 ≤ i → (M.length : Int) ≤ i := by omega
    go_enter Try.func25, Try.ntmps25
    go_wp2
    go_ret2
    exact ⟨rfl, 0, rfl⟩

set_option maxHeartbeats 2000000 in
theorem take_yes (i : Nat) (h1 : w.cell? ⟨s, 1, none⟩ = some (.slice (some ⟨g, 0, none⟩) M.length c)) (hf : w.frozen? ⟨s, 1, none⟩ = false) (hs : s < w.heap.size) (hi : i < M.length) (hn : M.length ≤ 4096) (hc : M.length ≤ c) (hM : Rd w g (some ⟨g, 0, none⟩) M) :
    Calls Try.prog 25 #[.pointer (some ⟨s, 0, none⟩), .int .i64 (i : Nat)] w fun e w' => e = .returned (.tuple #[.int .i64 (M.getD i 0), .bool true]) ∧
      ∃ v W, W.ownsRow w.heap.size 3 1 v (i + (M.length - (i + 1))) (([] ++ (M.take i).map (Value.int .i64)) ++ (M.drop (i + 1)).map (Value.int .i64)) ∧ Chg [] w W ∧ ∃ m, w' = (W.setCell ⟨s, 1, none⟩ v).drewN m := by
  have hv : w.cell? ⟨g, i, none⟩ = some (.int .i64 (M.getD i 0)) := by
    obtain ⟨off, e1, e2⟩ := hM.2 i hi
    simp at e1
    subst e1
    simpa using e2
  generalize M.getD i 0 = u at hv ⊢
  obtain ⟨A2, hA2, hr2⟩ : ∃ A2, (if c = i + 1 then some ({ block := g, off := 0 } : Addr) else some { block := g, off := i + 1 }) = A2 ∧ Reads w w.heap.size 1 A2 (M.length - (i + 1)) ((M.drop (i + 1)).map (Value.int .i64)) := by
    refine ⟨_, rfl, ?_⟩
    have := (hM.reads).cut (k := i + 1) (cap := c) (by omega) hc
    simpa [Addr.add] using this
  have hr1 : Reads w w.heap.size 1 (some ({ block := g, off := 0 } : Addr)) i ((M.take i).map (Value.int .i64)) := by
    have := (hM.reads).pre (k := i) (by omega)
    simpa using this
  have hE := own_drew (own_empty w 3 1 w.heap.size (Nat.le_refl _))
  have hR1 := (hr1.alloc (Nat.le_refl _) (.cells #[] 3)).drew
  have hR2 := (hr2.alloc (Nat.le_refl _) (.cells #[] 3)).drew
  have hb0 : (i : Int) < (M.length : Int) := by omega
  have hb1 : (i : Int) ≤ (M.length : Int) := by omega
  have hb2 : (i : Int) + 1 ≤ (M.length : Int) := by omega
  have hb3 : (0 : Int) ≤ (i : Int) + 1 := by omega
  have hb4 : ((i : Int) + 1).toNat = i + 1 := by omega
  have hb5 : IntKind.i64.wrap ((i : Int) + 1) = (i : Int) + 1 := IntWalk.i64_in _ (by omega)
  have hb6 : (i : Int) ≤ (c : Int) := by omega
  have hb7 : (0 : Int) ≤ (i : Int) := by omega
  clear hM hr1 hr2
  go_enter Try.func25, Try.ntmps25
  go_wp2_with fail
  go_region_law (first
    | (have hO2 := hown1; have hQ2 := hR2.grown hgrow1 (by simp) (by simp [Value.ownBlock]); have hZ2 := hgrow1.size; refine step_app (P := Try.prog) (t := 22) Try.underlying22 int_info rfl (by omega) (.tmp 33) (.tmp 40) w.heap.size (n := i) (m := M.length - (i + 1)) (N := i + (M.length - (i + 1))) rfl (by omega) (ints_one _) (by omega) hO2 hQ2 (by simp at hZ2; omega) (by rfl) (by rfl) (by rfl) (by rfl) ?_; clear hO2 hQ2 hZ2; intro A2 d2 W2 hown2 hgrow2 hat2; have q2 := q1.grown hgrow2 hv1; have e3 := (q2.cell (p := ⟨s, 1, none⟩) hs (by simp)).trans h1; have e4 := (q2.frozen (p := ⟨s, 1, none⟩) hs (by simp)).trans hf)
    | (refine step_app (P := Try.prog) (t := 22) Try.underlying22 int_info rfl (by omega) (.tmp 26) (.tmp 32) w.heap.size (n := 0) (m := i) (N := i) (Nat.zero_add _) (by omega) (ints_one _) (by omega) hE hR1 (by simp) (by rfl) (by rfl) (by rfl) (by rfl) ?_; intro A1 d1 W1 hown1 hgrow1 hat1; have q1 := (((Chg.refl [] w).alloc (.cells #[] 3)).drew).grown hgrow1 (by simp [Value.ownBlock]); have hv1 := own_new1 (S := []) hat1; have e1 := (q1.cell (p := ⟨s, 1, none⟩) hs (by simp)).trans h1; have e2 := (q1.frozen (p := ⟨s, 1, none⟩) hs (by simp)).trans hf))
  all_goals
    go_wp2_with fail
    go_ret2
    exact ⟨rfl, _, W2, hown2, q2, 0, rfl⟩
end

section
variable {w : World} {B s g n : Nat} {M : List Int}
/-- The reference behind a call that gave it a new list, in a row of the call's own. -/
theorem RefA.put {W : World} {N : List Int} {v : Value} {k : Nat} {xs : List Value} (h : RefA w B s g n M) (hown : W.ownsRow w.heap.size 3 1 v k xs) (hxs : xs = N.map (Value.int .i64)) (hN : N.length ≤ n) (hc : Chg [] w W) (m : Nat) :
    ∃ g', RefA ((W.setCell ⟨s, 1, none⟩ v).drewN m) B s g' n N ∧ w.heap.size ≤ g' ∧ Chg [s] w ((W.setCell ⟨s, 1, none⟩ v).drewN m) := by
  obtain ⟨h1, h2, h3, h4, a, c, h5, h6, h7⟩ := h
  have hk : k = N.length := by have := hown.1; rw [hxs] at this; simpa using this.symm
  subst hk
  obtain ⟨A, d, rfl⟩ := own_slice hown
  obtain ⟨g', r1, r2, r3⟩ := own_rd hown hxs (by omega)
  have hb := h5.chg hc (by simp)
  have hchg : Chg [s] w ((W.setCell ⟨s, 1, none⟩ (.slice A N.length d)).drewN m) := ((hc.mono (S' := [s]) (by simp)).setCell (by simp) _).drewN m
  have hB : Blk ((W.setCell ⟨s, 1, none⟩ (.slice A N.length d)).drewN m) s 47 #[.int .i64 (n : Nat), .slice A N.length d] := by
    have := (hb.set_ 1 (.slice A N.length d)).drewN m
    simpa using this
  rcases r3 with ⟨r3, r4⟩ | rfl
  · have hg' := (hown.lt g' r3).1
    have hs := h5.lt
    refine ⟨g', ⟨h1, h2, h3, hN, A, d, hB, ?_, .inr r4⟩, hg', hchg⟩
    exact r1.chg (((Chg.refl [s] W).setCell (by simp) _).drewN m) (by simp; omega)
  · exact ⟨w.heap.size, ⟨h1, h2, h3, hN, A, d, hB, Rd.nil _ _ _, .inl rfl⟩, Nat.le_refl _, hchg⟩

theorem ins_c (h : RefA w B s g n M) (x : Int) (b : Bool) : Calls Try.prog 24 #[.pointer (some ⟨s, 0, none⟩), .int .i64 x, .bool b] w fun e w' =>
    e = .returned (.int .i64 (insE n M)) ∧ ∃ g', RefA w' B s g' n (insL n M x b) ∧ (g' = g ∨ w.heap.size ≤ g') ∧ Chg [s] w w' := by
  have h0 := h
  obtain ⟨h1, h2, h3, h4, a, c, h5, h6, h7⟩ := h
  by_cases hl : M.length < n
  · cases b with
    | false =>
      refine (ins_back s n M x g a c w ((h5.cell 0).trans rfl) ((h5.cell 1).trans rfl) (h5.frozen 1) h5.lt hl h3 h6).mono ?_
      rintro e w' ⟨rfl, v, W, ho, hc, m, rfl⟩
      obtain ⟨g', q1, q2, q3⟩ := h0.put (N := M ++ [x]) ho (by simp) (by simp; omega) hc m
      exact ⟨by rw [insE, if_pos hl], g', by rw [insL, if_pos hl]; exact q1, .inr q2, q3⟩
    | true =>
      refine (ins_front s n M x g a c w ((h5.cell 0).trans rfl) ((h5.cell 1).trans rfl) (h5.frozen 1) h5.lt hl h3 h6).mono ?_
      rintro e w' ⟨rfl, v, W, ho, hc, m, rfl⟩
      obtain ⟨g', q1, q2, q3⟩ := h0.put (N := x :: M) ho (by simp) (by simp; omega) hc m
      exact ⟨by rw [insE, if_pos hl], g', by rw [insL, if_pos hl]; exact q1, .inr q2, q3⟩
  · refine (ins_full s n M x a c w b ((h5.cell 0).trans rfl) ((h5.cell 1).trans rfl) (by omega)).mono ?_
    rintro e w' ⟨rfl, m, rfl⟩
    exact ⟨by rw [insE, if_neg hl], g, by rw [insL, if_neg hl]; exact h0.chg ((Chg.refl [] w).drewN m) (by simp) (by simp), .inl rfl, (Chg.refl _ _).drewN m⟩

theorem take_c (h : RefA w B s g n M) (i : Int) : Calls Try.prog 25 #[.pointer (some ⟨s, 0, none⟩), .int .i64 i] w fun e w' =>
    e = .returned (.tuple #[.int .i64 (takeV M i), .bool (takeOk M i)]) ∧ ∃ g', RefA w' B s g' n (takeL M i) ∧ (g' = g ∨ w.heap.size ≤ g') ∧ Chg [s] w w' := by
  have h0 := h
  obtain ⟨h1, h2, h3, h4, a, c, h5, h6, h7⟩ := h
  by_cases hi : 0 ≤ i ∧ i < M.length
  · have ok : takeOk M i = true := by simpa [takeOk] using hi
    obtain ⟨k, rfl⟩ := Int.eq_ofNat_of_zero_le hi.1
    have hk : k < M.length := by omega
    rcases h7 with rfl | ⟨rfl, h7⟩
    · simp at hk
    refine (take_yes s M g c w k ((h5.cell 1).trans rfl) (h5.frozen 1) h5.lt hk (by omega) h7 h6).mono ?_
    rintro e w' ⟨rfl, v, W, ho, hc, m, rfl⟩
    have hle : (M.eraseIdx k).length = M.length - 1 := by rw [List.length_eraseIdx, if_pos hk]
    obtain ⟨g', q1, q2, q3⟩ := h0.put (N := M.eraseIdx k) ho (split_erase M k) (by omega) hc m
    exact ⟨by rw [takeV, ok]; rfl, g', by rw [takeL, ok]; exact q1, .inr q2, q3⟩
  · have ok : takeOk M i = false := by simpa [takeOk] using hi
    refine (take_no s M a c w i ((h5.cell 1).trans rfl) (by omega)).mono ?_
    rintro e w' ⟨rfl, m, rfl⟩
    exact ⟨by rw [takeV, ok]; rfl, g, by rw [takeL, ok]; exact h0.chg ((Chg.refl [] w).drewN m) (by simp) (by simp), .inl rfl, (Chg.refl _ _).drewN m⟩
end

end Go.Proofs.Yteejbfookokadaa
