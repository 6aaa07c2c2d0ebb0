/- The shares of two stations, in plain lists: what stands between the turns, and the bound at the end. -/
import Derived.Test.YtmbmejobffpaoaaDu
namespace Go.Proofs.Ytmbmejobffpaoaa
open Go.RowKit
set_option linter.unusedVariables false
set_option linter.unusedSimpArgs false

theorem len_le : ∀ (n : Nat) (l : List Int), l.Nodup → (∀ x ∈ l, 0 ≤ x ∧ x < n) → l.length ≤ n
  | 0, l, _, h => by
    cases l with
    | nil => simp
    | cons x r => have := h x (by simp); omega
  | n + 1, l, hn, h => by
    by_cases hm : (n : Int) ∈ l
    · have h1 := len_le n (l.erase (n : Int)) (hn.erase _) (fun x hx => by
        have h2 := (hn.mem_erase_iff).1 hx
        have h3 := h x h2.2
        have h4 := h2.1
        omega)
      rw [List.length_erase_of_mem hm] at h1
      omega
    · have h1 := len_le n l hn (fun x hx => by
        have h3 := h x hx
        have : x ≠ (n : Int) := fun e => hm (e ▸ hx)
        omega)
      omega

theorem DV.join2 {q K x wt : Int} {L : List Sd} (h : DV q K L) (hx : 0 ≤ x ∧ x < 16) (hw : 1 ≤ wt ∧ wt ≤ 16) (hs : sid x L = none) : DV q K (L ++ [⟨x, wt, q * wt, 0⟩]) := by
  have hids : ((L ++ [(⟨x, wt, q * wt, 0⟩ : Sd)]).map (·.i)).Nodup := by
    rw [List.map_append]
    refine nodup_snoc h.nd fun hm => ?_
    obtain ⟨s, hs', he⟩ := List.mem_map.1 hm
    exact sid_ne hs s hs' he
  have hlen := len_le 16 _ hids (fun y hy => by
    obtain ⟨s, hs', rfl⟩ := List.mem_map.1 hy
    rcases List.mem_append.1 hs' with hm | hm
    · exact (h.ok s hm).1
    · simp at hm
      subst hm
      exact hx)
  simp at hlen
  exact h.join hx hw hs (by omega)
theorem DV.erase {q K : Int} {L : List Sd} (h : DV q K L) (k : Nat) : DV q K (L.eraseIdx k) :=
  ⟨h.hq, h.hK, fun s hs => h.ok s (List.mem_of_mem_eraseIdx hs), List.Nodup.sublist (List.Sublist.map _ (List.eraseIdx_sublist _ _)) h.nd, Nat.le_trans (List.eraseIdx_sublist _ _).length_le h.hl⟩

/-- The two stations that are watched. -/
def two (s : Sd) : Bool := decide (s.i = 0) || decide (s.i = 1)
def F2 (L : List Sd) : List Sd := L.filter two
theorem two_rot (q : Int) (s : Sd) : two (rot q s) = two s := by unfold two; rw [rot_i]
theorem F2_rot {q : Int} {s : Sd} {r : List Sd} : F2 (r ++ [rot q s]) = if two s = true then F2 r ++ [rot q s] else F2 r := by
  unfold F2
  rw [List.filter_append]
  split
  · rename_i h; rw [List.filter_cons_of_pos (by rw [two_rot]; exact h)]; rfl
  · rename_i h; rw [List.filter_cons_of_neg (by rw [two_rot]; exact h)]; simp
theorem F2_cons {s : Sd} {r : List Sd} : F2 (s :: r) = if two s = true then s :: F2 r else F2 r := by
  unfold F2
  rw [List.filter_cons]
theorem F2_erase : ∀ {L : List Sd} {k : Nat} (hk : k < L.length), two L[k] = false → F2 (L.eraseIdx k) = F2 L
  | s :: r, 0, _, h => by
    rw [List.eraseIdx_zero, List.tail_cons, F2_cons, if_neg (by simpa using h)]
  | s :: r, k + 1, hk, h => by
    rw [List.eraseIdx_cons_succ, F2_cons, F2_cons, F2_erase (by simpa using hk) (by simpa using h)]

def ShInv (q x y ma mb : Int) (L : List Sd) (Y0 Y1 : Int) : Prop := ∃ s0 s1 : Sd, (s0.i = 0 ∧ s1.i = 1) ∧ (s0.w = x ∧ s1.w = y) ∧ (-ma < s0.d ∧ s0.d ≤ q * x) ∧ (-mb < s1.d ∧ s1.d ≤ q * y) ∧
  (Y0 = (1 + s0.t) * (q * x) - s0.d ∧ Y1 = (1 + s1.t) * (q * y) - s1.d) ∧
  ((F2 L = [s0, s1] ∧ s0.t = s1.t ∧ q * y - mb ≤ s1.d) ∨ (F2 L = [s1, s0] ∧ s0.t = s1.t + 1 ∧ q * x - ma ≤ s0.d))

theorem rot_d {q : Int} {s : Sd} (h : s.d ≤ 0) : (rot q s).d = s.d + q * s.w := by unfold rot; rw [if_pos h]
theorem two_of {s : Sd} (h : two s = true) : s.i = 0 ∨ s.i = 1 := by
  unfold two at h
  rw [Bool.or_eq_true, decide_eq_true_eq, decide_eq_true_eq] at h
  exact h

theorem sh_step {q x y ma mb Y0 Y1 : Int} {rd : List Int} {s : Sd} {r : List Sd} (hp : 0 ≤ q * x ∧ 0 ≤ q * y) (h0 : (0 : Int) ∈ rd) (h1 : (1 : Int) ∈ rd) (h : ShInv q x y ma mb (s :: r) Y0 Y1) (hn : ¬ elig rd s) : ShInv q x y ma mb (r ++ [rot q s]) Y0 Y1 := by
  obtain ⟨s0, s1, ⟨i0, i1⟩, ⟨w0, w1⟩, ⟨d0, d0'⟩, ⟨d1, d1'⟩, ⟨e0, e1⟩, hc⟩ := h
  by_cases ht : two s = true
  · have hd : s.d ≤ 0 := Int.not_lt.1 fun h => hn ⟨h, by rcases two_of ht with e | e <;> rw [e] <;> assumption⟩
    have hrd := rot_d (q := q) hd
    have hrt := rot_t (q := q) hd
    rw [F2_cons, if_pos ht] at hc
    rcases hc with ⟨hF, t1, b1⟩ | ⟨hF, t1, b1⟩
    · injection hF with hs hF
      subst hs
      refine ⟨rot q s, s1, ⟨by rw [rot_i]; exact i0, i1⟩, ⟨by rw [rot_w]; exact w0, w1⟩, ⟨?_, ?_⟩, ⟨d1, d1'⟩, ⟨?_, e1⟩, .inr ⟨by rw [F2_rot, if_pos ht, hF]; rfl, by rw [hrt]; omega, ?_⟩⟩
      · rw [hrd, w0]; omega
      · rw [hrd, w0]; omega
      · rw [hrd, hrt, w0, e0]
        have : (1 + (s.t + 1)) * (q * x) = (1 + s.t) * (q * x) + q * x := by rw [show 1 + (s.t + 1) = (1 + s.t) + 1 from by omega, Int.add_mul (1 + s.t) 1, Int.one_mul]
        omega
      · rw [hrd, w0]; omega
    · injection hF with hs hF
      subst hs
      refine ⟨s0, rot q s, ⟨i0, by rw [rot_i]; exact i1⟩, ⟨w0, by rw [rot_w]; exact w1⟩, ⟨d0, d0'⟩, ⟨?_, ?_⟩, ⟨e0, ?_⟩, .inl ⟨by rw [F2_rot, if_pos ht, hF]; rfl, by rw [hrt]; omega, ?_⟩⟩
      · rw [hrd, w1]; omega
      · rw [hrd, w1]; omega
      · rw [hrd, hrt, w1, e1]
        have : (1 + (s.t + 1)) * (q * y) = (1 + s.t) * (q * y) + q * y := by rw [show 1 + (s.t + 1) = (1 + s.t) + 1 from by omega, Int.add_mul (1 + s.t) 1, Int.one_mul]
        omega
      · rw [hrd, w1]; omega
  · rw [F2_cons, if_neg ht] at hc
    refine ⟨s0, s1, ⟨i0, i1⟩, ⟨w0, w1⟩, ⟨d0, d0'⟩, ⟨d1, d1'⟩, ⟨e0, e1⟩, ?_⟩
    rw [F2_rot, if_neg ht]
    exact hc

theorem sh_next {q x y ma mb Y0 Y1 : Int} {rd : List Int} {L L' : List Sd} (hp : 0 ≤ q * x ∧ 0 ≤ q * y) (h0 : (0 : Int) ∈ rd) (h1 : (1 : Int) ∈ rd) (h : Nxt q rd L L') (hI : ShInv q x y ma mb L Y0 Y1) : ShInv q x y ma mb L' Y0 Y1 :=
  h.inv (P := fun M => ShInv q x y ma mb M Y0 Y1) (fun s r hP hn => sh_step hp h0 h1 hP hn) hI

theorem sh_charge {q x y ma mb Y0 Y1 t : Int} {s : Sd} {r : List Sd} (hd : 0 < s.d) (ht : 1 ≤ t) (h : ShInv q x y ma mb (s :: r) Y0 Y1) :
    ShInv q x y (if s.i = 0 then max ma t else ma) (if s.i = 1 then max mb t else mb) (chA t (s :: r) 0) (if s.i = 0 then Y0 + t else Y0) (if s.i = 1 then Y1 + t else Y1) := by
  rw [chA_head]
  obtain ⟨s0, s1, ⟨i0, i1⟩, ⟨w0, w1⟩, ⟨d0, d0'⟩, ⟨d1, d1'⟩, ⟨e0, e1⟩, hc⟩ := h
  rw [F2_cons] at hc
  have h2 : two ⟨s.i, s.w, s.d - t, s.t⟩ = two s := rfl
  by_cases c0 : s.i = 0
  · have c1 : ¬ s.i = 1 := by omega
    have ht2 : two s = true := by unfold two; simp [c0]
    rw [if_pos ht2] at hc
    rw [if_pos c0, if_neg c1, if_pos c0, if_neg c1]
    rcases hc with ⟨hF, t1, b1⟩ | ⟨hF, t1, b1⟩
    · injection hF with hs hF
      subst hs
      refine ⟨⟨s.i, s.w, s.d - t, s.t⟩, s1, ⟨c0, i1⟩, ⟨w0, w1⟩, ⟨?_, ?_⟩, ⟨d1, d1'⟩, ⟨?_, e1⟩, .inl ⟨by rw [F2_cons, h2, if_pos ht2, hF], t1, b1⟩⟩
      · show -max ma t < s.d - t; omega
      · show s.d - t ≤ q * x; omega
      · show Y0 + t = (1 + s.t) * (q * x) - (s.d - t); omega
    · injection hF with hs hF
      subst hs
      omega
  · by_cases c1 : s.i = 1
    · have ht2 : two s = true := by unfold two; simp [c1]
      rw [if_pos ht2] at hc
      rw [if_neg c0, if_pos c1, if_neg c0, if_pos c1]
      rcases hc with ⟨hF, t1, b1⟩ | ⟨hF, t1, b1⟩
      · injection hF with hs hF
        subst hs
        omega
      · injection hF with hs hF
        subst hs
        refine ⟨s0, ⟨s.i, s.w, s.d - t, s.t⟩, ⟨i0, c1⟩, ⟨w0, w1⟩, ⟨d0, d0'⟩, ⟨?_, ?_⟩, ⟨e0, ?_⟩, .inr ⟨by rw [F2_cons, h2, if_pos ht2, hF], t1, b1⟩⟩
        · show -max mb t < s.d - t; omega
        · show s.d - t ≤ q * y; omega
        · show Y1 + t = (1 + s.t) * (q * y) - (s.d - t); omega
    · have ht2 : two s = false := by unfold two; simp [c0, c1]
      rw [if_neg (by rw [ht2]; simp)] at hc
      rw [if_neg c0, if_neg c1, if_neg c0, if_neg c1]
      refine ⟨s0, s1, ⟨i0, i1⟩, ⟨w0, w1⟩, ⟨d0, d0'⟩, ⟨d1, d1'⟩, ⟨e0, e1⟩, ?_⟩
      rw [F2_cons, h2, if_neg (by rw [ht2]; simp)]
      exact hc
theorem sh_join {q x y ma mb Y0 Y1 : Int} {L : List Sd} {n : Sd} (h : ShInv q x y ma mb L Y0 Y1) (hn : two n = false) : ShInv q x y ma mb (L ++ [n]) Y0 Y1 := by
  have : F2 (L ++ [n]) = F2 L := by unfold F2; rw [List.filter_append, List.filter_cons_of_neg (by rw [hn]; simp)]; simp
  unfold ShInv
  rw [this]
  exact h
theorem sh_leave {q x y ma mb Y0 Y1 : Int} {L : List Sd} {k : Nat} (h : ShInv q x y ma mb L Y0 Y1) (hk : k < L.length) (hn : two L[k] = false) : ShInv q x y ma mb (L.eraseIdx k) Y0 Y1 := by
  unfold ShInv
  rw [F2_erase hk hn]
  exact h
theorem sh_mem {q x y ma mb Y0 Y1 : Int} {L : List Sd} (h : ShInv q x y ma mb L Y0 Y1) : (∃ k, sid 0 L = some k) ∧ ∃ k, sid 1 L = some k := by
  obtain ⟨s0, s1, ⟨i0, i1⟩, _, _, _, _, hc⟩ := h
  have hm : ∀ s ∈ F2 L, s ∈ L := fun s hs => (List.mem_filter.1 hs).1
  have hb : s0 ∈ F2 L ∧ s1 ∈ F2 L := by rcases hc with ⟨hF, _⟩ | ⟨hF, _⟩ <;> rw [hF] <;> simp
  exact ⟨sid_mem ⟨s0, hm _ hb.1, i0⟩, sid_mem ⟨s1, hm _ hb.2, i1⟩⟩

/-- Between the two, in the measure of both weights. -/
theorem sh_delta {q x y ma mb Y0 Y1 : Int} {L : List Sd} (hx : 1 ≤ x) (hy : 1 ≤ y) (h : ShInv q x y ma mb L Y0 Y1) : -(mb * x) ≤ Y0 * y - Y1 * x ∧ Y0 * y - Y1 * x ≤ q * x * y + ma * y := by
  obtain ⟨s0, s1, ⟨i0, i1⟩, ⟨w0, w1⟩, ⟨d0, d0'⟩, ⟨d1, d1'⟩, ⟨e0, e1⟩, hc⟩ := h
  have c1 : q * y * x = q * x * y := by rw [Int.mul_assoc, Int.mul_comm y x, ← Int.mul_assoc]
  have m1 : s0.d * y ≤ q * x * y := Int.mul_le_mul_of_nonneg_right d0' (by omega)
  have m2 : -ma * y ≤ s0.d * y := Int.mul_le_mul_of_nonneg_right (by omega) (by omega)
  have m3 : s1.d * x ≤ q * y * x := Int.mul_le_mul_of_nonneg_right d1' (by omega)
  have m4 : -mb * x ≤ s1.d * x := Int.mul_le_mul_of_nonneg_right (by omega) (by omega)
  rw [Int.neg_mul] at m2 m4
  have f0 : Y0 * y = (1 + s0.t) * (q * x * y) - s0.d * y := by rw [e0, Int.sub_mul, Int.mul_assoc]
  have f1 : Y1 * x = (1 + s1.t) * (q * x * y) - s1.d * x := by rw [e1, Int.sub_mul, Int.mul_assoc, c1]
  rw [f0, f1]
  rcases hc with ⟨_, t1, b1⟩ | ⟨_, t1, b1⟩
  · have m5 : (q * y - mb) * x ≤ s1.d * x := Int.mul_le_mul_of_nonneg_right b1 (by omega)
    rw [Int.sub_mul] at m5
    rw [t1]
    omega
  · have m5 : (q * x - ma) * y ≤ s0.d * y := Int.mul_le_mul_of_nonneg_right b1 (by omega)
    rw [Int.sub_mul] at m5
    have f2 : (1 + s0.t) * (q * x * y) = (1 + s1.t) * (q * x * y) + q * x * y := by rw [t1, show 1 + (s1.t + 1) = (1 + s1.t) + 1 from by omega, Int.add_mul (1 + s1.t) 1, Int.one_mul]
    omega

/-- What is known of the two sums. -/
def ShSum (q x y ma mb Y0 Y1 a b : Int) (i f : Nat) : Prop := (i ≤ f ∧ a = 0 ∧ b = 0) ∨ (f ≤ i ∧ ∃ y0 y1, a = Y0 - y0 ∧ b = Y1 - y1 ∧ -(mb * x) ≤ y0 * y - y1 * x ∧ y0 * y - y1 * x ≤ q * x * y + ma * y)

theorem ss_grow {q x y ma mb Y0 Y1 a b ma' mb' Y0' Y1' a' b' : Int} {i f : Nat} {L : List Sd} (hx : 1 ≤ x) (hy : 1 ≤ y) (hI : ShInv q x y ma mb L Y0 Y1) (h : ShSum q x y ma mb Y0 Y1 a b i f) (hma : ma ≤ ma') (hmb : mb ≤ mb')
    (h1 : i < f → a' = a ∧ b' = b) (h2 : f ≤ i → a' - a = Y0' - Y0 ∧ b' - b = Y1' - Y1) : ShSum q x y ma' mb' Y0' Y1' a' b' (i + 1) f := by
  by_cases hi : i < f
  · rcases h with ⟨_, ha, hb⟩ | ⟨hf, _⟩
    · obtain ⟨e1, e2⟩ := h1 hi
      exact .inl ⟨by omega, by omega, by omega⟩
    · omega
  · have hd := sh_delta hx hy hI
    have m1 : ma * y ≤ ma' * y := Int.mul_le_mul_of_nonneg_right hma (by omega)
    have m2 : mb * x ≤ mb' * x := Int.mul_le_mul_of_nonneg_right hmb (by omega)
    obtain ⟨e1, e2⟩ := h2 (by omega)
    rcases h with ⟨_, ha, hb⟩ | ⟨hf, y0, y1, ha, hb, g1, g2⟩
    · exact .inr ⟨by omega, Y0, Y1, by omega, by omega, by omega, by omega⟩
    · exact .inr ⟨by omega, y0, y1, by omega, by omega, by omega, by omega⟩

theorem sh_final {q x y ma mb Y0 Y1 a b : Int} {i f : Nat} {L : List Sd} (hx : 1 ≤ x) (hy : 1 ≤ y) (hq : 0 ≤ q * x * y) (hm : 0 ≤ ma * y) (hm2 : 0 ≤ mb * x) (hI : ShInv q x y ma mb L Y0 Y1) (h : ShSum q x y ma mb Y0 Y1 a b i f) (hi : f < i) :
    a * y - b * x ≤ 2 * q * x * y + ma * y + mb * x ∧ -(a * y - b * x) ≤ 2 * q * x * y + ma * y + mb * x := by
  have hd := sh_delta hx hy hI
  have e : 2 * q * x * y = 2 * (q * x * y) := by rw [Int.mul_assoc, Int.mul_assoc, ← Int.mul_assoc q x y]
  rw [e]
  rcases h with ⟨h1, _⟩ | ⟨hf, y0, y1, ha, hb, g1, g2⟩
  · omega
  · have f0 : a * y = Y0 * y - y0 * y := by rw [ha, Int.sub_mul]
    have f1 : b * x = Y1 * x - y1 * x := by rw [hb, Int.sub_mul]
    omega

theorem rdOK_snoc {l k : Int} {rd : List Int} (h : rdOK l rd = true) (h1 : ∀ x ∈ rd, x < k) (h2 : l < k) (h3 : k < 16) : rdOK l (rd ++ [k]) = true := by
  induction rd generalizing l with
  | nil => simp [rdOK, h2, h3]
  | cons x r ih =>
    obtain ⟨⟨a1, a2⟩, a3⟩ := rdOK_true h
    rw [List.cons_append, rdOK_good a1 a2]
    exact ih a3 (fun y hy => h1 y (by simp [hy])) (h1 x (by simp))

end Go.Proofs.Ytmbmejobffpaoaa
