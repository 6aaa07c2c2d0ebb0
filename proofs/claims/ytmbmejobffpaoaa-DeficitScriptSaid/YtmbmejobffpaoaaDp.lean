/- Deficit round robin, in plain lists: the place of a station, the turn that Next takes, the bounds that stand throughout. No program is named. -/
import Derived.Test.YtmbmejobffpaoaaRow
namespace Go.Proofs.Ytmbmejobffpaoaa
open Go.RowKit
set_option linter.unusedVariables false
set_option linter.unusedSimpArgs false

structure Sd where
  i : Int
  w : Int
  d : Int
  t : Int
def sdC (s : Sd) : List Value := [.int .i64 s.i, .int .i64 s.w, .int .i64 s.d, .int .i64 s.t]
theorem sdCells : Cells sdC 4 := ⟨fun _ => rfl, fun x u hu => by simp [sdC] at hu; rcases hu with rfl | rfl | rfl | rfl <;> rfl⟩

/-- The place of the first station with this number. -/
def sid (x : Int) : List Sd → Option Nat
  | [] => none
  | p :: r => if p.i = x then some 0 else (sid x r).map (· + 1)
def sidI (x : Int) (L : List Sd) : Int := match sid x L with
  | none => -1
  | some k => k

theorem sid_some {x : Int} {L : List Sd} {k : Nat} (h : ∀ j (hj : j < L.length), j < k → L[j].i ≠ x) (hk : k < L.length) (he : L[k].i = x) : sid x L = some k := by
  induction L generalizing k with
  | nil => simp at hk
  | cons p r ih =>
    cases k with
    | zero => simp at he; simp [sid, he]
    | succ k =>
      have h0 := h 0 (by simp) (by omega)
      simp at h0
      rw [sid, if_neg h0, ih (k := k) (fun j hj hjk => by have := h (j + 1) (by simp; omega) (by omega); simpa using this) (by simpa using hk) (by simpa using he)]
      rfl
theorem sid_none {x : Int} {L : List Sd} (h : ∀ j (hj : j < L.length), L[j].i ≠ x) : sid x L = none := by
  induction L with
  | nil => rfl
  | cons p r ih =>
    have h0 := h 0 (by simp)
    simp at h0
    rw [sid, if_neg h0, ih (fun j hj => by have := h (j + 1) (by simp; omega); simpa using this)]
    rfl
theorem sid_spec {x : Int} {L : List Sd} {k : Nat} (h : sid x L = some k) : ∃ hk : k < L.length, L[k].i = x := by
  induction L generalizing k with
  | nil => cases h
  | cons p r ih =>
    rw [sid] at h
    split at h
    · rename_i hp
      injection h with h
      subst h
      exact ⟨by simp, hp⟩
    · cases hr : sid x r with
      | none => rw [hr] at h; cases h
      | some j =>
        rw [hr] at h
        injection h with h
        subst h
        obtain ⟨h1, h2⟩ := ih hr
        exact ⟨by simp; omega, by simpa using h2⟩
theorem sid_ne {x : Int} {L : List Sd} (h : sid x L = none) : ∀ s ∈ L, s.i ≠ x := by
  induction L with
  | nil => intro s hs; cases hs
  | cons p r ih =>
    rw [sid] at h
    split at h
    · cases h
    · rename_i hp
      cases hr : sid x r with
      | some j => rw [hr] at h; cases h
      | none =>
        intro s hs
        rcases List.mem_cons.1 hs with rfl | hs
        · exact hp
        · exact ih hr s hs
theorem sid_mem {x : Int} {L : List Sd} (h : ∃ s ∈ L, s.i = x) : ∃ k, sid x L = some k := by
  cases hx : sid x L with
  | some k => exact ⟨k, rfl⟩
  | none =>
    obtain ⟨s, hs, he⟩ := h
    exact absurd he (sid_ne hx s hs)
theorem sidI_some {x : Int} {L : List Sd} {k : Nat} (h : sid x L = some k) : sidI x L = k := by rw [sidI, h]
theorem sidI_none {x : Int} {L : List Sd} (h : sid x L = none) : sidI x L = -1 := by rw [sidI, h]
theorem sidI_nonneg {x : Int} {L : List Sd} : decide (0 ≤ sidI x L) = (sid x L).isSome := by
  unfold sidI
  cases sid x L with
  | none => rfl
  | some k => simp

/-- The station may send. -/
def elig (rd : List Int) (s : Sd) : Prop := 0 < s.d ∧ s.i ∈ rd
/-- What becomes of a station whose turn ends. -/
def rot (q : Int) (s : Sd) : Sd := if s.d ≤ 0 then ⟨s.i, s.w, s.d + q * s.w, s.t + 1⟩ else s
theorem rot_i (q : Int) (s : Sd) : (rot q s).i = s.i := by unfold rot; split <;> rfl
theorem rot_w (q : Int) (s : Sd) : (rot q s).w = s.w := by unfold rot; split <;> rfl

inductive Nxt (q : Int) (rd : List Int) : List Sd → List Sd → Prop
  | stop {s : Sd} {r : List Sd} : elig rd s → Nxt q rd (s :: r) (s :: r)
  | go {s : Sd} {r L' : List Sd} : ¬ elig rd s → Nxt q rd (r ++ [rot q s]) L' → Nxt q rd (s :: r) L'

theorem Nxt.det {q : Int} {rd : List Int} {L L1 L2 : List Sd} (h : Nxt q rd L L1) (h2 : Nxt q rd L L2) : L1 = L2 := by
  induction h with
  | stop he =>
    cases h2 with
    | stop _ => rfl
    | go hn _ => exact absurd he hn
  | go hn _ ih =>
    cases h2 with
    | stop he => exact absurd he hn
    | go _ h2 => exact ih h2
theorem Nxt.head {q : Int} {rd : List Int} {L L' : List Sd} (h : Nxt q rd L L') : ∃ s r, L' = s :: r ∧ elig rd s := by
  induction h with
  | stop he => exact ⟨_, _, rfl, he⟩
  | go _ _ ih => exact ih
/-- What every turn keeps holds at the end. -/
theorem Nxt.inv {q : Int} {rd : List Int} {P : List Sd → Prop} (hs : ∀ s r, P (s :: r) → ¬ elig rd s → P (r ++ [rot q s])) {L L' : List Sd} (h : Nxt q rd L L') (hP : P L) : P L' := by
  induction h with
  | stop _ => exact hP
  | go hn _ ih => exact ih (hs _ _ hP hn)
theorem Nxt.len {q : Int} {rd : List Int} {L L' : List Sd} (h : Nxt q rd L L') : L'.length = L.length :=
  h.inv (P := fun M => M.length = L.length) (fun s r hP _ => by simpa using hP) rfl

/-- As many turns as may still come, counted by one ready station. -/
def meas (x : Int) (L : List Sd) : Nat := match sid x L with
  | none => 0
  | some k => (1 - (L[k]?.getD ⟨0, 0, 0, 0⟩).d).toNat * (L.length + 1) + k

theorem sid_append_left {x : Int} {L M : List Sd} {k : Nat} (h : sid x L = some k) : sid x (L ++ M) = some k := by
  induction L generalizing k with
  | nil => cases h
  | cons p r ih =>
    rw [List.cons_append, sid]
    rw [sid] at h
    split
    · rename_i hp
      rw [if_pos hp] at h
      exact h
    · rename_i hp
      rw [if_neg hp] at h
      cases hr : sid x r with
      | none => rw [hr] at h; cases h
      | some j => rw [hr] at h; rw [ih hr]; exact h
theorem sid_append_right {x : Int} {L M : List Sd} (h : sid x L = none) : sid x (L ++ M) = (sid x M).map (· + L.length) := by
  induction L with
  | nil => simp
  | cons p r ih =>
    rw [sid] at h
    split at h
    · cases h
    · rename_i hp
      cases hr : sid x r with
      | some j => rw [hr] at h; cases h
      | none =>
        rw [List.cons_append, sid, if_neg hp, ih hr]
        cases sid x M with
        | none => rfl
        | some m => simp; omega

/-- The bounds of a station; K is the airtime charged so far, or more. -/
def okD (q K : Int) (s : Sd) : Prop := (0 ≤ s.i ∧ s.i < 16) ∧ (1 ≤ s.w ∧ s.w ≤ 16) ∧ (-1048576 < s.d ∧ s.d ≤ q * s.w) ∧ 0 ≤ s.t ∧ q * s.w * (s.t + 1) ≤ s.d + K

theorem qw_bd {q w : Int} (hq : 256 ≤ q ∧ q ≤ 1048576) (hw : 1 ≤ w ∧ w ≤ 16) : 256 ≤ q * w ∧ q * w ≤ 16777216 := by
  have h1 : q * 1 ≤ q * w := Int.mul_le_mul_of_nonneg_left hw.1 (by omega)
  have h2 : q * w ≤ q * 16 := Int.mul_le_mul_of_nonneg_left hw.2 (by omega)
  omega
theorem okD.mono {q K K' : Int} {s : Sd} (h : okD q K s) (hK : K ≤ K') : okD q K' s := ⟨h.1, h.2.1, h.2.2.1, h.2.2.2.1, by have := h.2.2.2.2; omega⟩
theorem okD.t_le {q K : Int} {s : Sd} (h : okD q K s) (hq : 256 ≤ q ∧ q ≤ 1048576) : s.t ≤ K := by
  obtain ⟨h1, h2, h3, h4, h5⟩ := h
  have hb := qw_bd hq h2
  generalize q * s.w = m at *
  have h6 : m * (s.t + 1) = m * s.t + m := by rw [Int.mul_add, Int.mul_one]
  have h7 : 1 * s.t ≤ m * s.t := Int.mul_le_mul_of_nonneg_right (by omega) h4
  omega
theorem okD.rot {q K : Int} {s : Sd} (h : okD q K s) (hq : 256 ≤ q ∧ q ≤ 1048576) : okD q K (rot q s) := by
  unfold Go.Proofs.Ytmbmejobffpaoaa.rot
  split
  · rename_i hd
    obtain ⟨h1, h2, h3, h4, h5⟩ := h
    have hb := qw_bd hq h2
    refine ⟨h1, h2, ⟨?_, ?_⟩, ?_, ?_⟩
    · show -1048576 < s.d + q * s.w; omega
    · show s.d + q * s.w ≤ q * s.w; omega
    · show 0 ≤ s.t + 1; omega
    · show q * s.w * (s.t + 1 + 1) ≤ s.d + q * s.w + K
      generalize q * s.w = m at *
      have h6 : m * (s.t + 1 + 1) = m * (s.t + 1) + m := by rw [Int.mul_add, Int.mul_one]
      omega
  · exact h
theorem okD.charge {q K : Int} {s : Sd} (h : okD q K s) (hd : 0 < s.d) {a : Int} (h1 : 1 ≤ a) (h2 : a ≤ 1048576) : okD q (K + a) ⟨s.i, s.w, s.d - a, s.t⟩ := by
  obtain ⟨g1, g2, g3, g4, g5⟩ := h
  refine ⟨g1, g2, ⟨?_, ?_⟩, g4, ?_⟩
  · show -1048576 < s.d - a; omega
  · show s.d - a ≤ q * s.w; omega
  · show q * s.w * (s.t + 1) ≤ s.d - a + (K + a); omega

theorem meas_lt {q : Int} {rd : List Int} {K x : Int} {s : Sd} {r : List Sd} (hq : 256 ≤ q ∧ q ≤ 1048576) (hok : okD q K s) (hu : ∀ p ∈ r, p.i ≠ s.i) (hx : x ∈ rd) (hm : ∃ k, sid x (s :: r) = some k) (hn : ¬ elig rd s) :
    meas x (r ++ [rot q s]) < meas x (s :: r) := by
  obtain ⟨k, hk⟩ := hm
  have hb := qw_bd hq hok.2.1
  by_cases hs : s.i = x
  · have hk0 : sid x (s :: r) = some 0 := by rw [sid, if_pos hs]
    have hd : s.d ≤ 0 := by
      refine Int.not_lt.1 fun h0 => hn ⟨h0, ?_⟩
      rw [hs]; exact hx
    have hrot : rot q s = ⟨s.i, s.w, s.d + q * s.w, s.t + 1⟩ := by unfold rot; rw [if_pos hd]
    have e1 : meas x (s :: r) = (1 - s.d).toNat * (r.length + 1 + 1) + 0 := by unfold meas; rw [hk0]; rfl
    have hc : sid x r = none := by
      refine sid_none fun j hj => ?_
      have := hu r[j] (by simp)
      rw [hs] at this
      exact this
    have hj : sid x (r ++ [rot q s]) = some r.length := by
      rw [sid_append_right hc, sid, if_pos (by rw [rot_i]; exact hs)]
      simp
    have e2 : meas x (r ++ [rot q s]) = (1 - (s.d + q * s.w)).toNat * (r.length + 1 + 1) + r.length := by
      unfold meas
      rw [hj]
      simp [hrot]
    rw [e1, e2]
    have h3 : (1 - (s.d + q * s.w)).toNat + 1 ≤ (1 - s.d).toNat := by omega
    have h4 := Nat.mul_le_mul_right (r.length + 1 + 1) h3
    rw [Nat.add_mul] at h4
    omega
  · rw [sid, if_neg hs] at hk
    cases hc : sid x r with
    | none => rw [hc] at hk; cases hk
    | some j =>
      obtain ⟨hj, _⟩ := sid_spec hc
      have e1 : meas x (s :: r) = (1 - (r[j]?.getD ⟨0, 0, 0, 0⟩).d).toNat * (r.length + 1 + 1) + (j + 1) := by
        unfold meas
        rw [sid, if_neg hs, hc]
        rfl
      have e2 : meas x (r ++ [rot q s]) = (1 - (r[j]?.getD ⟨0, 0, 0, 0⟩).d).toNat * (r.length + 1 + 1) + j := by
        unfold meas
        rw [sid_append_left hc]
        simp [List.getElem?_append_left hj]
      omega

end Go.Proofs.Ytmbmejobffpaoaa
