/- The reference's round: its state as a list; New, At, has, Charge; Join and Leave where they are refused. -/
import Derived.Test.YtmbmejobffpaoaaDh
namespace Go.Proofs.Ytmbmejobffpaoaa
open Go.RowKit
set_option linter.unusedVariables false
set_option linter.unusedSimpArgs false

theorem seat_info : (Try.prog.info? 66).map (fun i => (i.zero, i.size, i.bytes)) = some (some (.agg #[.int .i64 0, .int .i64 0, .int .i64 0, .int .i64 0]), 4, 32) := by kernel_rfl

/-- Block s is the reference's round: its quantum, its stations, the one that may be charged. -/
structure DR (w : World) (B s : Nat) (O : List Nat) (q : Int) (L : List Sd) (now : Int) : Prop where
  Bs : B ≤ s
  sO : s ∉ O
  BO : ∀ j ∈ O, B ≤ j ∧ j < w.heap.size
  row : ∃ A c, Blk w s 63 #[.int .i64 q, .slice A L.length c, .int .i64 now] ∧
    w.ownsRow B 66 4 (.slice A L.length c) L.length (L.flatMap sdC) ∧ ∀ j ∈ ownL (.slice A L.length c), j ∈ O

section
variable {w w' : World} {B s : Nat} {O : List Nat} {q now : Int} {L : List Sd}
theorem DR.chg {S : List Nat} (h : DR w B s O q L now) (hc : Chg S w w') (hs : s ∉ S) (hO : ∀ j ∈ O, j ∉ S) : DR w' B s O q L now := by
  obtain ⟨h1, h2, h3, A, c, h9, h10, h11⟩ := h
  exact ⟨h1, h2, fun j hj => ⟨(h3 j hj).1, Nat.lt_of_lt_of_le (h3 j hj).2 hc.size⟩, A, c, h9.chg hc hs, own_chg h10 hc (fun g hg => hO g (h11 g (mem_ownL.2 hg))), h11⟩
theorem DR.lt (h : DR w B s O q L now) : s < w.heap.size := by
  obtain ⟨A, c, h9, _⟩ := h.row
  exact h9.lt
theorem DR.split (h : DR w B s O q L now) : ∃ A c, Blk w s 63 #[.int .i64 q, .slice A L.length c, .int .i64 now] ∧
    ((A = none ∧ c = 0 ∧ L = []) ∨ ∃ g, A = some ⟨g, 0, none⟩ ∧ B ≤ g ∧ g ∈ O ∧ g ≠ s ∧ Row w g 66 4 c sdC L) := by
  obtain ⟨A, c, h9, h10, h11⟩ := h.row
  refine ⟨A, c, h9, ?_⟩
  rcases (own_row sdCells (by omega) h10).2 with h1 | ⟨g, rfl, hg, hr⟩
  · exact .inl h1
  · have hgO := h11 g (mem_ownL.2 rfl)
    exact .inr ⟨g, rfl, hg, hgO, fun e => h.sO (e ▸ hgO), hr⟩
end

theorem row_sd {w : World} {g c k : Nat} {e : TypeId} {L : List Sd} (h : Row w g e 4 c sdC L) (hk : k < L.length) :
    w.cell? ⟨g, k * 4, none⟩ = some (.int .i64 L[k].i) ∧ w.cell? ⟨g, k * 4 + 1, none⟩ = some (.int .i64 L[k].w) ∧ w.cell? ⟨g, k * 4 + 2, none⟩ = some (.int .i64 L[k].d) ∧ w.cell? ⟨g, k * 4 + 3, none⟩ = some (.int .i64 L[k].t) :=
  ⟨(h.cell hk (r := 0) (by omega)).trans rfl, (h.cell hk (r := 1) (by omega)).trans rfl, (h.cell hk (r := 2) (by omega)).trans rfl, (h.cell hk (r := 3) (by omega)).trans rfl⟩

set_option maxHeartbeats 400000 in
theorem rrnew_raw (q : Int) (h1 : 256 ≤ q) (h2 : q ≤ 1048576) (w : World) :
    Calls Try.prog 20 #[.int .i64 q] w fun e w' => e = .returned (.tuple #[.pointer (some ⟨w.heap.size, 0, none⟩), .int .i64 0]) ∧
      ∃ m, w' = (w.alloc (.cells #[.int .i64 q, .slice none 0 0, .int .i64 (-1)] 63)).drewN m := by
  go_enter Try.func20, Try.ntmps20
  go_wp2
  go_ret2
  exact ⟨rfl, 0, rfl⟩

theorem rrnew_c (q : Int) (h1 : 256 ≤ q) (h2 : q ≤ 1048576) (w : World) {B : Nat} (hB : B ≤ w.heap.size) :
    Calls Try.prog 20 #[.int .i64 q] w fun e w' => ∃ s, e = .returned (.tuple #[.pointer (some ⟨s, 0, none⟩), .int .i64 0]) ∧ DR w' B s [] q [] (-1) ∧ w.heap.size ≤ s ∧ Chg [] w w' := by
  refine (rrnew_raw q h1 h2 w).mono ?_
  rintro e w' ⟨rfl, m, rfl⟩
  exact ⟨w.heap.size, rfl, ⟨hB, by simp, by simp, none, 0, (Blk.new _ _ _).drewN m, World.ownsRow_nil _ _ _ _, by simp [ownL, Value.ownBlock]⟩, Nat.le_refl _, ((Chg.refl _ _).alloc _).drewN m⟩

set_option maxHeartbeats 400000 in
theorem rrnew_bad (q : Int) (h : ¬ (256 ≤ q ∧ q ≤ 1048576)) (w : World) :
    Calls Try.prog 20 #[.int .i64 q] w fun e w' => e = .returned (.tuple #[.pointer none, .int .i64 1]) ∧ Chg [] w w' := by
  go_enter Try.func20, Try.ntmps20
  go_wp2
  all_goals
    first
      | (go_ret2; exact ⟨rfl, Chg.refl _ _⟩)
      | (exfalso; simp only [Bool.not_eq_false', decide_eq_true_eq, decide_eq_false_iff_not] at *; omega)
      | (exfalso; simp at *; omega)

set_option maxHeartbeats 1000000 in
theorem rrat_c {w : World} {B s : Nat} {O : List Nat} {q now : Int} {L : List Sd} (h : DR w B s O q L now) (hl : L.length ≤ 1000) (x : Int) :
    Calls Try.prog 33 #[.pointer (some ⟨s, 0, none⟩), .int .i64 x] w fun e w' => e = .returned (.int .i64 (sidI x L)) ∧ Chg [] w w' := by
  obtain ⟨A, c, h9, h10⟩ := h.split
  have e3 := (h9.cell 1).trans rfl
  have hn : ∃ n, L.length = n := ⟨_, rfl⟩
  obtain ⟨n, hn⟩ := hn
  have HN := Lib.hid hn
  rw [hn] at e3 hl
  clear hn h9 h
  go_enter Try.func33, Try.ntmps33
  go_wp2
  go_loopw [5] (fun i wr => ∃ k : Nat, k ≤ n ∧ i = .int .i64 k ∧ Chg [] w wr ∧ ∀ j (hj : j < L.length), j < k → L[j].i ≠ x) (fun i _ => n - (intOf i).toNat)
  case atStart => exact ⟨0, Nat.zero_le _, rfl, Chg.refl _ _, fun j _ hj => absurd hj (by omega)⟩
  case round =>
    obtain ⟨k, hk, rfl, hc, hP⟩ := hrel
    have HP := Lib.hid hP
    clear hP
    have e4 := (hc.cell (p := ⟨s, 1, none⟩) (block_lt_of_cell e3) (by simp)).trans e3
    by_cases hlt : k < n
    · have hkl : k < L.length := by have := HN.out; omega
      rcases h10 with ⟨_, _, h0⟩ | ⟨g, rfl, hg, hgO, hgs, hr⟩
      · exact absurd hkl (by rw [h0]; simp)
      · have hr' := hr.chg hc (by simp)
        obtain ⟨c0, c1, c2, c3⟩ := row_sd hr' hkl
        have HE := Lib.hid (fun hq : L[k].i = x => sid_some HP.out hkl hq)
        have HX := Lib.hid (fun (hq : L[k].i ≠ x) j (hj : j < L.length) (h1 : j < k + 1) => show L[j].i ≠ x from by
          by_cases h2 : j = k
          · subst h2; exact hq
          · exact HP.out j hj (by omega))
        generalize L[k] = p at c0 c1 c2 c3 HE HX
        have hI : (k : Int) < (n : Int) := by omega
        have hJ : (0 : Int) ≤ (k : Int) := by omega
        by_cases hq : p.i = x
        · have hq' : (p.i == x) = true := by simpa using hq
          have HF := Lib.hid (HE.out hq)
          clear hq
          go_wp2_with fail
          go_ret
          exact ⟨ret_int (by rw [sidI, HF.out]), hc⟩
        · have hq' : (p.i == x) = false := by simpa using hq
          have HF := Lib.hid (HX.out hq)
          clear hq
          go_wp2_with fail
          go_roundw
          case rel => exact ⟨k + 1, by omega, by go_num, hc, HF.out⟩
          case measure => simp [intOf]; omega
    · have hge : (n : Int) ≤ (k : Int) := by omega
      have HF := Lib.hid (sid_none (x := x) (L := L) (fun j hj => HP.out j hj (by have := HN.out; omega)))
      go_wp2_with fail
      go_ret
      exact ⟨ret_int (by rw [sidI, HF.out]), hc⟩

set_option maxHeartbeats 1000000 in
theorem rrhas_c {w : World} {g n d : Nat} {a : Option Addr} {rd : List Int} (hn : rd.length = n) (h : Rd w g a rd) (x : Int) :
    Calls Try.prog 38 #[.slice a n d, .int .i64 x] w fun e w' => e = .returned (.bool (decide (x ∈ rd))) ∧ ∃ m, w' = w.drewN m := by
  have hn6 := h.1
  rw [hn] at hn6
  have HN := Lib.hid hn
  have HH := Lib.hid h
  clear hn h
  go_enter Try.func38, Try.ntmps38
  go_wp2
  go_loopw [5] (fun i wr => ∃ k m : Nat, k ≤ n ∧ i = .int .i64 k ∧ wr = w.drewN m ∧ ∀ j (hj : j < rd.length), j < k → rd[j] ≠ x) (fun i _ => n - (intOf i).toNat)
  case atStart => exact ⟨0, 0, Nat.zero_le _, rfl, rfl, fun j _ hj => absurd hj (by omega)⟩
  case round =>
    obtain ⟨k, m, hk, rfl, rfl, hP⟩ := hrel
    have HP := Lib.hid hP
    clear hP
    by_cases hlt : k < n
    · have hkl : k < rd.length := by have := HN.out; omega
      obtain ⟨off, rfl, c0⟩ := HH.out.2 k hkl
      rw [getD_get hkl] at c0
      have HE := Lib.hid (fun hq : rd[k] = x => mem_at hkl hq)
      have HX := Lib.hid (fun (hq : rd[k] ≠ x) j (hj : j < rd.length) (h1 : j < k + 1) => show rd[j] ≠ x from by
        by_cases h2 : j = k
        · subst h2; exact hq
        · exact HP.out j hj (by omega))
      generalize rd[k] = v at c0 HE HX
      have hI : (k : Int) < (n : Int) := by omega
      have hJ : (0 : Int) ≤ (k : Int) := by omega
      by_cases hq : v = x
      · have HF := Lib.hid (HE.out hq)
        subst hq
        go_wp2_with fail
        go_ret
        exact ⟨ret_bool HF.out.symm, _, by first | rfl | rw [World.drewN_drewN]⟩
      · have hq' : (v == x) = false := by rw [beq_eq_false_iff_ne]; exact hq
        have HF := Lib.hid (HX.out hq)
        clear hq
        go_wp2_with fail
        go_roundw
        case rel => exact ⟨k + 1, _, by omega, by go_num, by first | rfl | rw [World.drewN_drewN], HF.out⟩
        case measure => simp [intOf]; omega
    · have HF := Lib.hid (mem_none (x := x) (L := rd) (fun j hj => HP.out j hj (by have := HN.out; omega)))
      go_wp2_with fail
      go_ret
      exact ⟨ret_bool HF.out.symm, m, rfl⟩

set_option maxHeartbeats 1000000 in
theorem rrjoin_bad {w : World} {s : Nat} {x wt : Int} (hb : ¬ (0 ≤ x ∧ x < 16 ∧ 1 ≤ wt ∧ wt ≤ 16)) :
    Calls Try.prog 29 #[.pointer (some ⟨s, 0, none⟩), .int .i64 x, .int .i64 wt] w fun e w' => e = .returned (.int .i64 1) ∧ Chg [] w w' := by
  go_enter Try.func29, Try.ntmps29
  by_cases h1 : x < 0
  · go_wp2_with fail
    go_ret
    exact ⟨rfl, Chg.refl _ _⟩
  by_cases h2 : 16 ≤ x
  · go_wp2_with fail
    go_ret
    exact ⟨rfl, Chg.refl _ _⟩
  by_cases h3 : wt < 1
  · go_wp2_with fail
    go_ret
    exact ⟨rfl, Chg.refl _ _⟩
  have h4 : 16 < wt := by omega
  go_wp2_with fail
  go_ret
  exact ⟨rfl, Chg.refl _ _⟩

set_option maxHeartbeats 1000000 in
theorem rrjoin_dup {w : World} {B s k : Nat} {O : List Nat} {q now x wt : Int} {L : List Sd} (h : DR w B s O q L now) (hl : L.length ≤ 1000) (hx : 0 ≤ x ∧ x < 16) (hw : 1 ≤ wt ∧ wt ≤ 16) (hs : sid x L = some k) :
    Calls Try.prog 29 #[.pointer (some ⟨s, 0, none⟩), .int .i64 x, .int .i64 wt] w fun e w' => e = .returned (.int .i64 7) ∧ Chg [] w w' := by
  have HF := Lib.hid (rrat_c h hl x)
  rw [sidI_some hs] at HF
  obtain ⟨hx0, hx1⟩ := hx
  obtain ⟨hw0, hw1⟩ := hw
  clear h hs
  go_enter Try.func29, Try.ntmps29
  go_wp2_with fail
  refine HF.out.mono ?_
  rintro e w1 ⟨rfl, hc1⟩
  go_wp2_with fail
  go_ret
  exact ⟨rfl, hc1⟩

set_option maxHeartbeats 1000000 in
theorem rrleave_none {w : World} {B s : Nat} {O : List Nat} {q now x : Int} {L : List Sd} (h : DR w B s O q L now) (hl : L.length ≤ 1000) (hs : sid x L = none) :
    Calls Try.prog 30 #[.pointer (some ⟨s, 0, none⟩), .int .i64 x] w fun e w' => e = .returned (.int .i64 6) ∧ Chg [] w w' := by
  have HF := Lib.hid (rrat_c h hl x)
  rw [sidI_none hs] at HF
  clear h hs
  go_enter Try.func30, Try.ntmps30
  go_wp2_with fail
  refine HF.out.mono ?_
  rintro e w1 ⟨rfl, hc1⟩
  go_wp2_with fail
  go_ret
  exact ⟨rfl, hc1⟩

set_option maxHeartbeats 1000000 in
theorem rrcharge_bad {w : World} (s : Nat) (a : Int) (hb : ¬ (1 ≤ a ∧ a ≤ 1048576)) :
    Calls Try.prog 23 #[.pointer (some ⟨s, 0, none⟩), .int .i64 a] w fun e w' => e = .returned (.int .i64 1) ∧ Chg [] w w' := by
  go_enter Try.func23, Try.ntmps23
  by_cases h1 : a < 1
  · go_wp2_with fail
    go_ret
    exact ⟨rfl, Chg.refl _ _⟩
  have h4 : 1048576 < a := by omega
  go_wp2_with fail
  go_ret
  exact ⟨rfl, Chg.refl _ _⟩

set_option maxHeartbeats 1000000 in
theorem rrcharge_none {w : World} {B s : Nat} {O : List Nat} {q a now : Int} {L : List Sd} (h : DR w B s O q L now) (hl : L.length ≤ 1000) (hn : sid now L = none) (ha : 1 ≤ a ∧ a ≤ 1048576) :
    Calls Try.prog 23 #[.pointer (some ⟨s, 0, none⟩), .int .i64 a] w fun e w' => e = .returned (.int .i64 14) ∧ Chg [] w w' := by
  have HF := Lib.hid (rrat_c h hl now)
  rw [sidI_none hn] at HF
  obtain ⟨A, c, h9, _⟩ := h.row
  have e2 := (h9.cell 2).trans rfl
  obtain ⟨ha0, ha1⟩ := ha
  clear h h9 hn
  go_enter Try.func23, Try.ntmps23
  go_wp2_with fail
  refine HF.out.mono ?_
  rintro e w1 ⟨rfl, hc1⟩
  go_wp2_with fail
  go_ret
  exact ⟨rfl, hc1⟩

end Go.Proofs.Ytmbmejobffpaoaa
