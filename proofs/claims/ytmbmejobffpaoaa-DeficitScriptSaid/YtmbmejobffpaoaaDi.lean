/- The round of deficits: slices.Contains and slices.ContainsFunc at int, as Next calls them. -/
import Derived.Test.YtmbmejobffpaoaaDl
import Derived.Test.YtmbmejobffpaoaaEq
namespace Go.Proofs.Ytmbmejobffpaoaa
open Go.RowKit
set_option linter.unusedVariables false
set_option linter.unusedSimpArgs false

/-- The list of ready stations is in order and in bounds. -/
def rdOK : Int → List Int → Bool
  | _, [] => true
  | l, x :: r => decide (l < x) && decide (x < 16) && rdOK x r
theorem rdOK_good {l x : Int} {r : List Int} (h1 : l < x) (h2 : x < 16) : rdOK l (x :: r) = rdOK x r := by simp [rdOK, h1, h2]
theorem rdOK_bad {l x : Int} {r : List Int} (h : ¬ (l < x ∧ x < 16)) : rdOK l (x :: r) = false := by
  simp only [rdOK, Bool.and_eq_false_iff, decide_eq_false_iff_not]
  by_cases h1 : l < x
  · exact .inl (.inr fun h2 => h ⟨h1, h2⟩)
  · exact .inl (.inl h1)
theorem drop_cons {α : Type} {L : List α} {k : Nat} (hk : k < L.length) : L.drop k = L[k] :: L.drop (k + 1) := (List.getElem_cons_drop hk).symm
theorem getD_get {L : List Int} {k : Nat} (hk : k < L.length) : L.getD k 0 = L[k] := by simp [hk]

/-- Some ready station is in the round. -/
def anyB (rd : List Int) (L : List Sd) : Bool := rd.any fun x => (sid x L).isSome
theorem anyB_at {rd : List Int} {L : List Sd} {k : Nat} (hk : k < rd.length) (h : (sid rd[k] L).isSome = true) : anyB rd L = true := by
  unfold anyB
  rw [List.any_eq_true]
  exact ⟨rd[k], by simp, h⟩
theorem anyB_none {rd : List Int} {L : List Sd} (h : ∀ j (hj : j < rd.length), (sid rd[j] L).isSome = false) : anyB rd L = false := by
  unfold anyB
  rw [List.any_eq_false]
  intro x hx
  obtain ⟨j, hj, rfl⟩ := List.getElem_of_mem hx
  simp [h j hj]
theorem anyB_spec {rd : List Int} {L : List Sd} (h : anyB rd L = true) : ∃ x ∈ rd, ∃ k, sid x L = some k := by
  unfold anyB at h
  obtain ⟨x, hx, hs⟩ := List.any_eq_true.1 h
  exact ⟨x, hx, Option.isSome_iff_exists.1 hs⟩

def SomeIx (b : Bool) (w : World) (e : Ending) (w' : World) : Prop := ∃ i : Int, e = .returned (.int .i64 i) ∧ decide (0 ≤ i) = b ∧ Chg [] w w'
def SomeIq (b : Bool) (w : World) (e : Ending) (w' : World) : Prop := ∃ i : Int, e = .returned (.int .i64 i) ∧ decide (0 ≤ i) = b ∧ ∃ m, w' = w.drewN m

theorem ix_true (i : Nat) : decide (0 ≤ (i : Int)) = true := by simp
theorem mem_at {L : List Int} {k : Nat} {x : Int} (hk : k < L.length) (h : L[k] = x) : decide (x ∈ L) = true := by
  subst h; simp
theorem mem_none {L : List Int} {x : Int} (h : ∀ j (hj : j < L.length), L[j] ≠ x) : decide (x ∈ L) = false := by
  refine decide_eq_false fun hm => ?_
  obtain ⟨j, hj, he⟩ := List.getElem_of_mem hm
  exact h j hj he

set_option maxHeartbeats 1000000 in
theorem iidx_c {w : World} {g n d : Nat} {a : Option Addr} {rd : List Int} (hn : rd.length = n) (h : Rd w g a rd) (x : Int) :
    Calls Try.prog 37 #[.slice a n d, .int .i64 x] w (SomeIq (decide (x ∈ rd)) w) := by
  have hn6 := h.1
  rw [hn] at hn6
  have HN := Lib.hid hn
  have HH := Lib.hid h
  clear hn h
  go_enter Try.func37, Try.ntmps37
  go_wp2
  go_loopw [8] (fun i wr => ∃ k m : Nat, k ≤ n ∧ i = .int .i64 k ∧ wr = w.drewN m ∧ ∀ j (hj : j < rd.length), j < k → rd[j] ≠ x) (fun i _ => n - (intOf i).toNat)
  case atStart => exact ⟨0, 0, Nat.zero_le _, rfl, rfl, fun j _ hj => absurd hj (by omega)⟩
  case round =>
    obtain ⟨k, m, hk, rfl, rfl, hP⟩ := hrel
    have HP := Lib.hid hP
    clear hP
    by_cases hlt : k < n
    · have hkl : k < rd.length := by have := HN.out; omega
      obtain ⟨off, rfl, c0⟩ := HH.out.2 k hkl
      rw [getD_get hkl] at c0
      have HE := Lib.hid (fun hq : rd[k] = x => mem_at hkl hq)
      have HX := Lib.hid (fun (hq : rd[k] ≠ x) j (hj : j < rd.length) (h1 : j < k + 1) => show rd[j] ≠ x from by
        by_cases h2 : j = k
        · subst h2; exact hq
        · exact HP.out j hj (by omega))
      generalize rd[k] = v at c0 HE HX
      have hI : (k : Int) < (n : Int) := by omega
      have hJ : (0 : Int) ≤ (k : Int) := by omega
      by_cases hq : v = x
      · have HF := Lib.hid (HE.out hq)
        subst hq
        go_wp2_with fail
        go_ret
        exact ⟨k, rfl, by rw [HF.out]; exact ix_true k, _, by first | rfl | rw [World.drewN_drewN]⟩
      · have hq' : (x == v) = false := by rw [beq_eq_false_iff_ne]; exact fun e => hq e.symm
        have HF := Lib.hid (HX.out hq)
        clear hq
        go_wp2_with fail
        go_roundw
        case rel => exact ⟨k + 1, _, by omega, by go_num, by first | rfl | rw [World.drewN_drewN], HF.out⟩
        case measure => simp [intOf]; omega
    · have HF := Lib.hid (mem_none (x := x) (L := rd) (fun j hj => HP.out j hj (by have := HN.out; omega)))
      go_wp2_with fail
      go_ret
      exact ⟨-1, rfl, by rw [HF.out]; rfl, m, rfl⟩

set_option maxHeartbeats 1000000 in
theorem icon_c {w : World} {g n d : Nat} {a : Option Addr} {rd : List Int} (hn : rd.length = n) (h : Rd w g a rd) (x : Int) :
    Calls Try.prog 27 #[.slice a n d, .int .i64 x] w fun e w' => e = .returned (.bool (decide (x ∈ rd))) ∧ ∃ m, w' = w.drewN m := by
  have HC := Lib.hid (iidx_c (d := d) hn h x)
  generalize decide (x ∈ rd) = b at HC ⊢
  clear hn h
  go_enter Try.func27, Try.ntmps27
  go_wp2_with fail
  refine HC.out.mono ?_
  rintro e w' ⟨i, rfl, hi, m, rfl⟩
  have HI := Lib.hid hi
  clear hi
  go_wp2_with fail
  go_ret
  exact ⟨ret_bool HI.out, _, rfl⟩

set_option maxHeartbeats 1000000 in
theorem nextfn_c {w : World} {B r b : Nat} {O : List Nat} {q now : Int} {L : List Sd} (h : DA w B r O q L now) (hl : L.length ≤ 1000) (hb : w.cell? ⟨b, 0, none⟩ = some (.pointer (some ⟨r, 0, none⟩))) (x : Int) :
    Calls Try.prog 26 #[.int .i64 x, .pointer (some ⟨b, 0, none⟩)] w fun e w' => e = .returned (.bool (sid x L).isSome) ∧ Chg [] w w' := by
  have HF := Lib.hid (dfind_c h (by omega) x)
  have HS := Lib.hid (sidI_nonneg (x := x) (L := L))
  generalize (sid x L).isSome = bb at HS ⊢
  clear h
  go_enter Try.func26, Try.ntmps26
  go_wp2_with fail
  refine HF.out.mono ?_
  rintro e w1 ⟨rfl, hc1⟩
  go_wp2_with fail
  go_ret
  exact ⟨ret_bool HS.out, hc1⟩

set_option maxHeartbeats 1000000 in
theorem fidx_c {w : World} {B r b g n d : Nat} {O : List Nat} {q now : Int} {L : List Sd} {a : Option Addr} {rd : List Int} (hn : rd.length = n) (hR : Rd w g a rd) (h : DA w B r O q L now) (hl : L.length ≤ 1000) (hb : w.cell? ⟨b, 0, none⟩ = some (.pointer (some ⟨r, 0, none⟩))) :
    Calls Try.prog 36 #[.slice a n d, .func (.func 26) #[] #[.pointer (some ⟨b, 0, none⟩)]] w (SomeIx (anyB rd L) w) := by
  have hn6 := hR.1
  rw [hn] at hn6
  have HN := Lib.hid hn
  have HH := Lib.hid hR
  have HD := Lib.hid h
  clear hn h hR
  go_enter Try.func36, Try.ntmps36
  go_wp2
  go_loopw [8] (fun i wr => ∃ k : Nat, k ≤ n ∧ i = .int .i64 k ∧ Chg [] w wr ∧ ∀ j (hj : j < rd.length), j < k → (sid rd[j] L).isSome = false) (fun i _ => n - (intOf i).toNat)
  case atStart => exact ⟨0, Nat.zero_le _, rfl, Chg.refl _ _, fun j _ hj => absurd hj (by omega)⟩
  case round =>
    obtain ⟨k, hk, rfl, hc, hP⟩ := hrel
    have HP := Lib.hid hP
    clear hP
    by_cases hlt : k < n
    · have hkl : k < rd.length := by have := HN.out; omega
      obtain ⟨off, rfl, c0⟩ := (HH.out.chg hc (by simp)).2 k hkl
      rw [getD_get hkl] at c0
      have hb' := (hc.cell (p := ⟨b, 0, none⟩) (block_lt_of_cell hb) (by simp)).trans hb
      have HE := Lib.hid (fun hq : (sid rd[k] L).isSome = true => anyB_at hkl hq)
      have HX := Lib.hid (fun (hq : (sid rd[k] L).isSome = false) j (hj : j < rd.length) (h1 : j < k + 1) => show (sid rd[j] L).isSome = false from by
        by_cases h2 : j = k
        · subst h2; exact hq
        · exact HP.out j hj (by omega))
      generalize rd[k] = v at c0 HE HX
      have hI : (k : Int) < (n : Int) := by omega
      have hJ : (0 : Int) ≤ (k : Int) := by omega
      have HC := Lib.hid (nextfn_c (HD.out.chg hc (by simp) (by simp)) hl hb' v)
      generalize (sid v L).isSome = s at HE HX HC
      go_wp2_with fail
      refine HC.out.mono ?_
      rintro e w2 ⟨rfl, hc2⟩
      have k2 : Chg [] w w2 := hc.trans hc2 (by simp)
      cases s with
      | true =>
        have HF := Lib.hid (HE.out rfl)
        go_wp2_with fail
        go_ret
        exact ⟨k, rfl, by rw [HF.out]; exact ix_true k, k2⟩
      | false =>
        have HF := Lib.hid (HX.out rfl)
        go_wp2_with fail
        go_roundw
        case rel => exact ⟨k + 1, by omega, by go_num, k2, HF.out⟩
        case measure => simp [intOf]; omega
    · have HF := Lib.hid (anyB_none (L := L) (rd := rd) (fun j hj => HP.out j hj (by have := HN.out; omega)))
      go_wp2_with fail
      go_ret
      exact ⟨-1, rfl, by rw [HF.out]; rfl, hc⟩

set_option maxHeartbeats 1000000 in
theorem fcon_c {w : World} {B r b g n d : Nat} {O : List Nat} {q now : Int} {L : List Sd} {a : Option Addr} {rd : List Int} (hn : rd.length = n) (hR : Rd w g a rd) (h : DA w B r O q L now) (hl : L.length ≤ 1000) (hb : w.cell? ⟨b, 0, none⟩ = some (.pointer (some ⟨r, 0, none⟩))) :
    Calls Try.prog 25 #[.slice a n d, .func (.func 26) #[] #[.pointer (some ⟨b, 0, none⟩)]] w fun e w' => e = .returned (.bool (anyB rd L)) ∧ Chg [] w w' := by
  have HC := Lib.hid (fidx_c (d := d) hn hR h hl hb)
  generalize anyB rd L = b at HC ⊢
  clear hn h hR
  go_enter Try.func25, Try.ntmps25
  go_wp2_with fail
  refine HC.out.mono ?_
  rintro e w' ⟨i, rfl, hi, hc⟩
  have HI := Lib.hid hi
  clear hi
  go_wp2_with fail
  go_ret
  exact ⟨ret_bool HI.out, hc⟩

end Go.Proofs.Ytmbmejobffpaoaa
