/- The statement DeficitScript: one call on the round and on the reference. -/
import Derived.Test.YtmbmejobffpaoaaDz
import Derived.Test.YtmbmejobffpaoaaDs
import Derived.Test.YtmbmejobffpaoaaDqa
import Derived.Test.YtmbmejobffpaoaaDqb
import Derived.Test.YtmbmejobffpaoaaDqd
import Derived.Deep.DeepCutAuto
import Derived.Deep.CutBlock
namespace Go.Proofs.Ytmbmejobffpaoaa
open Go.RowKit
set_option linter.unusedVariables false
set_option linter.unusedSimpArgs false

/-- The round, the reference and the choices, side by side. -/
structure SX (w : World) (B r s c : Nat) (zs : List Int) (p : Nat) (q K : Int) (L : List Sd) (now : Int) (O O' : List Nat) : Prop where
  a : DA w B r O q L now
  d : DR w B s O' q L now
  v : DV q K L
  n : now = -1 ∨ ∃ k, sid now L = some k ∧ ∃ hk : k < L.length, 0 < L[k].d
  ch : Cho w B c zs p
  cr : c ∉ r :: O
  cs : c ∉ s :: O'
  rs : ∀ j ∈ s :: O', j ∉ r :: O
  B0 : B ≤ w.heap.size

def ChB (B : Nat) (w w' : World) : Prop := ∃ S, Chg S w w' ∧ ∀ j ∈ S, B ≤ j
theorem ChB.of {S : List Nat} {B : Nat} {w w' : World} (h : Chg S w w') (hs : ∀ j ∈ S, B ≤ j) : ChB B w w' := ⟨S, h, hs⟩
theorem ChB.nil {B : Nat} {w w' : World} (h : Chg [] w w') : ChB B w w' := ⟨[], h, by simp⟩
theorem ChB.trans {B : Nat} {a b w : World} (h : ChB B a b) (k : ChB B b w) : ChB B a w := by
  obtain ⟨S, h1, h2⟩ := h
  obtain ⟨T, k1, k2⟩ := k
  exact ⟨S ++ T, (h1.mono (S' := S ++ T) (by intro x hx; exact .inl (by simp [hx]))).trans k1 (fun x hx => .inl (by simp [hx])), fun j hj => by
    rcases List.mem_append.1 hj with hj | hj
    · exact h2 j hj
    · exact k2 j hj⟩
theorem Chg.thenB {B : Nat} {a b w : World} (h : Chg [] a b) (k : ChB B b w) (hB : a.heap.size ≤ B) : Chg [] a w := by
  obtain ⟨T, k1, k2⟩ := k
  exact h.trans k1 (fun j hj => .inr (Nat.le_trans hB (k2 j hj)))

section
variable {w w' w1 w2 : World} {B r s c p : Nat} {zs : List Int} {q K now : Int} {L : List Sd} {O O' : List Nat}
theorem SX.ge (h : SX w B r s c zs p q K L now O O') : ∀ j ∈ r :: O, B ≤ j := by
  intro j hj
  rcases List.mem_cons.1 hj with rfl | hj
  · exact h.a.Br
  · exact (h.a.BO j hj).1
theorem SX.quiet (h : SX w B r s c zs p q K L now O O') (hc : Chg [] w w') : SX w' B r s c zs p q K L now O O' :=
  ⟨h.a.chg hc (by simp) (by simp), h.d.chg hc (by simp) (by simp), h.v, h.n, h.ch.chg hc (by simp) (by simp), h.cr, h.cs, h.rs, Nat.le_trans h.B0 hc.size⟩
theorem SX.cho {p' : Nat} (h : SX w B r s c zs p q K L now O O') (hc : Chg [c] w w') (hC : Cho w' B c zs p') : SX w' B r s c zs p' q K L now O O' := by
  have h1 := h.cr
  have h2 := h.cs
  simp only [List.mem_cons, not_or] at h1 h2
  exact ⟨h.a.chg hc (by simp; exact fun e => h1.1 e.symm) (fun j hj => by simp; rintro rfl; exact h1.2 hj), h.d.chg hc (by simp; exact fun e => h2.1 e.symm) (fun j hj => by simp; rintro rfl; exact h2.2 hj), h.v, h.n, hC, h.cr, h.cs, h.rs, Nat.le_trans h.B0 hc.size⟩
/-- The reference stands as it was while the round goes on. -/
theorem SX.dr (h : SX w B r s c zs p q K L now O O') (hc : Chg (r :: O) w w1) : DR w1 B s O' q L now :=
  h.d.chg hc (h.rs s (by simp)) (fun j hj => h.rs j (by simp [hj]))
theorem SX.both {K2 now2 : Int} {L2 : List Sd} {O2 O2' : List Nat} (h : SX w B r s c zs p q K L now O O') (hc : Chg (r :: O) w w1) (hA : DA w1 B r O2 q L2 now2) (hO : ∀ j ∈ O2, j ∈ O ∨ w.heap.size ≤ j)
    (hc2 : Chg [s] w1 w2) (hD : DR w2 B s O2' q L2 now2) (hO2 : ∀ j ∈ O2', j ∈ O' ∨ w1.heap.size ≤ j) (hV : DV q K2 L2) (hn : now2 = -1 ∨ ∃ k, sid now2 L2 = some k ∧ ∃ hk : k < L2.length, 0 < L2[k].d) :
    SX w2 B r s c zs p q K2 L2 now2 O2 O2' ∧ ChB B w w2 := by
  have hz := hc.size
  have hz2 := hc2.size
  have hcl := h.ch.lt
  have hsl := h.d.lt
  have hrl := h.a.lt
  have hsO2 : s ∉ r :: O2 := fun hm => by
    rcases List.mem_cons.1 hm with e | hm
    · exact h.rs s (by simp) (by simp [e])
    · rcases hO s hm with h1 | h1
      · exact h.rs s (by simp) (by simp [h1])
      · omega
  refine ⟨⟨hA.chg hc2 (by simp; rintro rfl; exact hsO2 (by simp)) (fun j hj => by simp; rintro rfl; exact hsO2 (by simp [hj])), hD, hV, hn, (h.ch.chg hc h.cr h.ge).chg hc2 (by have := h.cs; simp at this ⊢; exact this.1) (by simp; exact h.d.Bs), nO_of h.cr hO hcl, fun hm => ?_, fun j hj hm => ?_, by have := h.B0; omega⟩, (ChB.of hc h.ge).trans (ChB.of hc2 (by simp; exact h.d.Bs))⟩
  · rcases List.mem_cons.1 hm with e | hm
    · exact h.cs (by simp [e])
    · rcases hO2 c hm with h1 | h1
      · exact h.cs (by simp [h1])
      · omega
  · rcases List.mem_cons.1 hj with e | hj
    · subst e; exact hsO2 hm
    · rcases hO2 j hj with h1 | h1
      · have hjl := (h.d.BO j h1).2
        rcases List.mem_cons.1 hm with e | hm
        · exact h.rs j (by simp [h1]) (by simp [e])
        · rcases hO j hm with h2 | h2
          · exact h.rs j (by simp [h1]) (by simp [h2])
          · omega
      · rcases List.mem_cons.1 hm with e | hm
        · omega
        · have := (hA.BO j hm).2
          omega
end

/-- What a call leaves. -/
def ActPost (w : World) (B r s c : Nat) (zs : List Int) (p : Nat) (q K : Int) (e : Ending) (w' : World) : Prop := e = .returned (.bool true) ∧ ∃ p' L' now' O1 O2, SX w' B r s c zs p' q (K + 1048576) L' now' O1 O2 ∧ p' ≤ p + 15 ∧ ChB B w w'

theorem DV.more {q K : Int} {L : List Sd} (h : DV q K L) (hK : K ≤ 900000000000000) : DV q (K + 1048576) L := h.mono (by omega) (by omega)
theorem SX.more {w : World} {B r s c p : Nat} {zs : List Int} {q K now : Int} {L : List Sd} {O O' : List Nat} (h : SX w B r s c zs p q K L now O O') (hK : K ≤ 900000000000000) : SX w B r s c zs p q (K + 1048576) L now O O' :=
  ⟨h.a, h.d, h.v.more hK, h.n, h.ch, h.cr, h.cs, h.rs, h.B0⟩

theorem DV.chargeAt {q K a : Int} {L : List Sd} {k : Nat} (h : DV q K L) (hk : k < L.length) (hd : 0 < L[k].d) (h1 : 1 ≤ a) (h2 : a ≤ 1048576) (h3 : K ≤ 900000000000000) : DV q (K + 1048576) (chA a L k) := by
  rw [chA_modify a L hk]
  refine ⟨h.hq, ⟨by have := h.hK; omega, by omega⟩, fun x hx => ?_, ?_, by simpa using h.hl⟩
  · obtain ⟨j, hj, rfl⟩ := List.getElem_of_mem hx
    have hj' : j < L.length := by simpa using hj
    rw [List.getElem_modify]
    split
    · rename_i e
      subst e
      exact ((h.ok _ (List.getElem_mem hk)).charge hd h1 h2).mono (by omega)
    · exact (h.ok _ (List.getElem_mem hj')).mono (by omega)
  · have : (L.modify k fun p => (⟨p.i, p.w, p.d - a, p.t⟩ : Sd)).map (·.i) = L.map (·.i) := by
      apply List.ext_getElem
      · simp
      · intro i h1 h2
        simp [List.getElem_modify]
        split <;> rfl
    rw [this]
    exact h.nd

theorem pair_at {w : World} {g k : Nat} {t : TypeId} {x y : Int} (h : Blk w g t #[.int .i64 x, .int .i64 y]) (hk : k < 2) : ∃ v : Int, w.cell? ⟨g, k, none⟩ = some (.int .i64 v) := by
  rw [h.cell]
  have : k = 0 ∨ k = 1 := by omega
  rcases this with rfl | rfl <;> exact ⟨_, rfl⟩
theorem six_at {w : World} {g k : Nat} {t : TypeId} {a b c d e f : Int} (h : Blk w g t #[.int .i64 a, .int .i64 b, .int .i64 c, .int .i64 d, .int .i64 e, .int .i64 f]) (hk : k < 6) : ∃ v : Int, w.cell? ⟨g, k, none⟩ = some (.int .i64 v) := by
  rw [h.cell]
  have : k = 0 ∨ k = 1 ∨ k = 2 ∨ k = 3 ∨ k = 4 ∨ k = 5 := by omega
  rcases this with rfl | rfl | rfl | rfl | rfl | rfl <;> exact ⟨_, rfl⟩

set_option maxRecDepth 100000 in
set_option maxHeartbeats 16000000 in
theorem act_c {w : World} {B r s c p : Nat} {zs : List Int} {q K now : Int} {L : List Sd} {O O' : List Nat} (hX : SX w B r s c zs p q K L now O O') (hp : p ≤ 90000) (hK : K ≤ 900000000000000) :
    Calls Try.prog 21 #[.pointer (some ⟨c, 0, none⟩), .pointer (some ⟨r, 0, none⟩), .pointer (some ⟨s, 0, none⟩)] w (ActPost w B r s c zs p q K) := by
  have hB := hX.B0
  have HN5 := Lib.hid (next_c (n := 5) hX.ch (by omega) (by omega))
  have a0 := nx_nonneg zs p 5
  have a1 := nx_lt zs p 5 (by omega)
  have HX0 := Lib.hid hX
  generalize nx zs p 5 = st0 at HN5 a0 a1
  clear hX
  go_enter Try.func21, Try.ntmps21
  go_wp2_with fail
  refine HN5.out.mono ?_
  rintro e w1 ⟨rfl, hC1, hc1⟩
  have HX1 := Lib.hid (HX0.out.cho hc1 hC1)
  have HB1 := Lib.hid (ChB.of (B := B) hc1 (by simp; exact hC1.le))
  clear hC1 hc1 HN5 HX0
  go_wp2_with fail
  refine (weight_c HX1.out.ch HX1.out.B0 (by omega)).mono ?_
  rintro e w2 ⟨wt0, rfl, hwt0, hC2, hc2⟩
  have HX2 := Lib.hid (HX1.out.cho hc2 hC2)
  have HB2 := Lib.hid (HB1.out.trans (ChB.of (B := B) hc2 (by simp; exact hC2.le)))
  have HN30 := Lib.hid (next_c (n := 30) hC2 (by omega) (by omega))
  have b0 := nx_nonneg zs (p + 1 + 1) 30
  generalize nx zs (p + 1 + 1) 30 = v at HN30 b0
  clear hC2 hc2 HX1 HB1
  go_wp2_with fail
  refine HN30.out.mono ?_
  rintro e w3 ⟨rfl, hC3, hc3⟩
  have HX3 := Lib.hid (HX2.out.cho hc3 hC3)
  have HB3 := Lib.hid (HB2.out.trans (ChB.of (B := B) hc3 (by simp; exact hC3.le)))
  clear hC3 hc3 HX2 HB2 HN30
  go_upto_block 0 with fail
  go_cut [7, 8] (fun v7 v8 wx => ∃ (st wt : Int) (p' : Nat), v7 = .int .i64 st ∧ v8 = .int .i64 wt ∧ p' ≤ p + 4 ∧ SX wx B r s c zs p' q K L now O O' ∧ ChB B w wx)
  case first =>
    by_cases hv0 : v = 0
    · subst hv0
      have k1 : Chg [] w3 (w3.alloc (.cells #[.int .i64 (-1), .int .i64 16] 3)) := (Chg.refl [] w3).alloc _
      have HN := Lib.hid (next_c (n := 2) ((HX3.out.quiet k1).ch) (by omega) (by omega))
      have HQ := Lib.hid (HX3.out.quiet k1)
      have HBl := Lib.hid (Blk.new w3 3 #[.int .i64 (-1), .int .i64 16])
      have c0 := nx_nonneg zs (p + 1 + 1 + 1) 2
      have c1 := nx_lt zs (p + 1 + 1 + 1) 2 (by omega)
      generalize nx zs (p + 1 + 1 + 1) 2 = j at HN c0 c1
      obtain ⟨j, rfl⟩ : ∃ i : Nat, j = i := ⟨j.toNat, by omega⟩
      clear k1
      go_wp2_with fail
      refine HN.out.mono ?_
      rintro e w4 ⟨rfl, hC4, hc4⟩
      obtain ⟨u, hu⟩ := pair_at (HBl.out.chg hc4 (by have := HX3.out.ch.lt; simp; omega)) (k := j) (by omega)
      have HX4 := Lib.hid (HQ.out.cho hc4 hC4)
      have HB4 := Lib.hid ((HB3.out.trans (ChB.nil ((Chg.refl [] w3).alloc (.cells #[.int .i64 (-1), .int .i64 16] 3)))).trans (ChB.of (B := B) hc4 (by simp; exact hC4.le)))
      clear hC4 hc4 HN HQ HBl
      go_wp2_with fail
      go_meet
      exact ⟨u, wt0, p + 1 + 1 + 1 + 1, rfl, rfl, by omega, HX4.out, HB4.out⟩
    · have hv0' : (v == 0) = false := by rw [beq_eq_false_iff_ne]; exact hv0
      clear hv0
      by_cases hv1 : v = 1
      · subst hv1
        have k1 : Chg [] w3 (w3.alloc (.cells #[.int .i64 0, .int .i64 17] 3)) := (Chg.refl [] w3).alloc _
        have HN := Lib.hid (next_c (n := 2) ((HX3.out.quiet k1).ch) (by omega) (by omega))
        have HQ := Lib.hid (HX3.out.quiet k1)
        have HBl := Lib.hid (Blk.new w3 3 #[.int .i64 0, .int .i64 17])
        have c0 := nx_nonneg zs (p + 1 + 1 + 1) 2
        have c1 := nx_lt zs (p + 1 + 1 + 1) 2 (by omega)
        generalize nx zs (p + 1 + 1 + 1) 2 = j at HN c0 c1
        obtain ⟨j, rfl⟩ : ∃ i : Nat, j = i := ⟨j.toNat, by omega⟩
        clear k1
        go_wp2_with fail
        refine HN.out.mono ?_
        rintro e w4 ⟨rfl, hC4, hc4⟩
        obtain ⟨u, hu⟩ := pair_at (HBl.out.chg hc4 (by have := HX3.out.ch.lt; simp; omega)) (k := j) (by omega)
        have HX4 := Lib.hid (HQ.out.cho hc4 hC4)
        have HB4 := Lib.hid ((HB3.out.trans (ChB.nil ((Chg.refl [] w3).alloc (.cells #[.int .i64 0, .int .i64 17] 3)))).trans (ChB.of (B := B) hc4 (by simp; exact hC4.le)))
        clear hC4 hc4 HN HQ HBl
        go_wp2_with fail
        go_meet
        exact ⟨st0, u, p + 1 + 1 + 1 + 1, rfl, rfl, by omega, HX4.out, HB4.out⟩
      · have hv1' : (v == 1) = false := by rw [beq_eq_false_iff_ne]; exact hv1
        clear hv1
        go_wp2_with fail
        go_meet
        exact ⟨st0, wt0, p + 1 + 1 + 1, rfl, rfl, by omega, HX3.out, HB3.out⟩
  case rest =>
    obtain ⟨st, wt, p', rfl, rfl, hp', hX, hCB⟩ := hcut
    clear HX3 HB3
    have HN9 := Lib.hid (next_c (n := 9) hX.ch (by omega) (by omega))
    have b1 := nx_nonneg zs p' 9
    have HX0 := Lib.hid hX
    have HB0 := Lib.hid hCB
    generalize nx zs p' 9 = m at HN9 b1
    clear hX hCB a0 a1 b0 hwt0
    go_wp2_with fail
    refine HN9.out.mono ?_
    rintro e w4 ⟨rfl, hC4, hc4⟩
    have HX := Lib.hid (HX0.out.cho hc4 hC4)
    have HB := Lib.hid (HB0.out.trans (ChB.of (B := B) hc4 (by simp; exact hC4.le)))
    clear hC4 hc4 HN9 HX0 HB0
    have hll := HX.out.v.hl
    have hqq := HX.out.v.hq
    by_cases hm0 : m = 0
    · subst hm0
      by_cases hok : 0 ≤ st ∧ st < 16 ∧ 1 ≤ wt ∧ wt ≤ 16
      · obtain ⟨o0, o1, o2, o3⟩ := hok
        cases hs : sid st L with
        | some k =>
          have HJ := Lib.hid (djoin_dup HX.out.a (by omega) ⟨o0, o1⟩ ⟨o2, o3⟩ hs)
          have HJ2 := Lib.hid (fun (W : World) (h : Chg [] w4 W) => rrjoin_dup (HX.out.quiet h).d (by omega) ⟨o0, o1⟩ ⟨o2, o3⟩ hs)
          clear hs
          go_wp2_with fail
          refine HJ.out.mono ?_
          rintro e v1 ⟨rfl, hc1⟩
          have HC1 := Lib.hid hc1
          clear hc1
          go_wp2_with fail
          refine (HJ2.out _ HC1.out).mono ?_
          rintro e v2 ⟨rfl, hc2⟩
          have HC2 := Lib.hid (HC1.out.trans hc2 (by simp))
          clear hc2
          go_wp2_with fail
          go_ret
          exact ⟨rfl, _, L, now, O, O', (HX.out.quiet HC2.out).more hK, by omega, HB.out.trans (ChB.nil HC2.out)⟩
        | none =>
          have HJ := Lib.hid (djoin_c HX.out.a HX.out.B0 (by omega) ⟨o0, o1⟩ ⟨o2, o3⟩ hqq hs)
          have HJ2 := Lib.hid (fun (W : World) (h : Chg (r :: O) w4 W) => rrjoin_c (HX.out.dr h) (Nat.le_trans HX.out.B0 h.size) (by omega) ⟨o0, o1⟩ ⟨o2, o3⟩ hqq hs)
          have HV := Lib.hid ((HX.out.v.join2 ⟨o0, o1⟩ ⟨o2, o3⟩ hs).more hK)
          clear hs
          go_wp2_with fail
          refine HJ.out.mono ?_
          rintro e v1 ⟨rfl, O1, hA1, hO1, hc1⟩
          have HC1 := Lib.hid hc1
          have HA1 := Lib.hid hA1
          have HO1 := Lib.hid hO1
          clear hc1 hA1 hO1
          go_wp2_with fail
          refine (HJ2.out _ HC1.out).mono ?_
          rintro e v2 ⟨rfl, O2, hD2, hO2, hc2⟩
          have HR := Lib.hid (HX.out.both HC1.out HA1.out HO1.out hc2 hD2 (fun j hj => .inr (hO2 j hj)) HV.out (.inl rfl))
          clear hc2 hD2 hO2
          go_wp2_with fail
          go_ret
          exact ⟨rfl, _, _, _, _, _, HR.out.1, by omega, HB.out.trans HR.out.2⟩
      · have HJ := Lib.hid (djoin_bad HX.out.a hok)
        have HJ2 := Lib.hid (fun (W : World) => rrjoin_bad (w := W) (s := s) hok)
        clear hok
        go_wp2_with fail
        refine HJ.out.mono ?_
        rintro e v1 ⟨rfl, hc1⟩
        have HC1 := Lib.hid hc1
        clear hc1
        go_wp2_with fail
        refine (HJ2.out _).mono ?_
        rintro e v2 ⟨rfl, hc2⟩
        have HC2 := Lib.hid (HC1.out.trans hc2 (by simp))
        clear hc2
        go_wp2_with fail
        go_ret
        exact ⟨rfl, _, L, now, O, O', (HX.out.quiet HC2.out).more hK, by omega, HB.out.trans (ChB.nil HC2.out)⟩
    · have hm0' : (m == 0) = false := by rw [beq_eq_false_iff_ne]; exact hm0
      clear hm0
      by_cases hm1 : m = 1
      · subst hm1
        by_cases hok : 0 ≤ st ∧ st < 16 ∧ 1 ≤ wt ∧ wt ≤ 16
        · obtain ⟨o0, o1, o2, o3⟩ := hok
          cases hs : sid st L with
          | some k =>
            have HJ := Lib.hid (djoin_dup HX.out.a (by omega) ⟨o0, o1⟩ ⟨o2, o3⟩ hs)
            have HJ2 := Lib.hid (fun (W : World) (h : Chg [] w4 W) => rrjoin_dup (HX.out.quiet h).d (by omega) ⟨o0, o1⟩ ⟨o2, o3⟩ hs)
            clear hs
            go_wp2_with fail
            refine HJ.out.mono ?_
            rintro e v1 ⟨rfl, hc1⟩
            have HC1 := Lib.hid hc1
            clear hc1
            go_wp2_with fail
            refine (HJ2.out _ HC1.out).mono ?_
            rintro e v2 ⟨rfl, hc2⟩
            have HC2 := Lib.hid (HC1.out.trans hc2 (by simp))
            clear hc2
            go_wp2_with fail
            go_ret
            exact ⟨rfl, _, L, now, O, O', (HX.out.quiet HC2.out).more hK, by omega, HB.out.trans (ChB.nil HC2.out)⟩
          | none =>
            have HJ := Lib.hid (djoin_c HX.out.a HX.out.B0 (by omega) ⟨o0, o1⟩ ⟨o2, o3⟩ hqq hs)
            have HJ2 := Lib.hid (fun (W : World) (h : Chg (r :: O) w4 W) => rrjoin_c (HX.out.dr h) (Nat.le_trans HX.out.B0 h.size) (by omega) ⟨o0, o1⟩ ⟨o2, o3⟩ hqq hs)
            have HV := Lib.hid ((HX.out.v.join2 ⟨o0, o1⟩ ⟨o2, o3⟩ hs).more hK)
            clear hs
            go_wp2_with fail
            refine HJ.out.mono ?_
            rintro e v1 ⟨rfl, O1, hA1, hO1, hc1⟩
            have HC1 := Lib.hid hc1
            have HA1 := Lib.hid hA1
            have HO1 := Lib.hid hO1
            clear hc1 hA1 hO1
            go_wp2_with fail
            refine (HJ2.out _ HC1.out).mono ?_
            rintro e v2 ⟨rfl, O2, hD2, hO2, hc2⟩
            have HR := Lib.hid (HX.out.both HC1.out HA1.out HO1.out hc2 hD2 (fun j hj => .inr (hO2 j hj)) HV.out (.inl rfl))
            clear hc2 hD2 hO2
            go_wp2_with fail
            go_ret
            exact ⟨rfl, _, _, _, _, _, HR.out.1, by omega, HB.out.trans HR.out.2⟩
        · have HJ := Lib.hid (djoin_bad HX.out.a hok)
          have HJ2 := Lib.hid (fun (W : World) => rrjoin_bad (w := W) (s := s) hok)
          clear hok
          go_wp2_with fail
          refine HJ.out.mono ?_
          rintro e v1 ⟨rfl, hc1⟩
          have HC1 := Lib.hid hc1
          clear hc1
          go_wp2_with fail
          refine (HJ2.out _).mono ?_
          rintro e v2 ⟨rfl, hc2⟩
          have HC2 := Lib.hid (HC1.out.trans hc2 (by simp))
          clear hc2
          go_wp2_with fail
          go_ret
          exact ⟨rfl, _, L, now, O, O', (HX.out.quiet HC2.out).more hK, by omega, HB.out.trans (ChB.nil HC2.out)⟩
      · have hm1' : (m == 1) = false := by rw [beq_eq_false_iff_ne]; exact hm1
        clear hm1
        by_cases hm2 : m = 2
        · subst hm2
          have HN3 := Lib.hid (next_c (n := 3) HX.out.ch (by omega) (by omega))
          have d0 := nx_nonneg zs (p' + 1) 3
          generalize nx zs (p' + 1) 3 = u at HN3 d0
          go_wp2_with fail
          refine HN3.out.mono ?_
          rintro e w5 ⟨rfl, hC5, hc5⟩
          have HX5 := Lib.hid (HX.out.cho hc5 hC5)
          have HB5 := Lib.hid (HB.out.trans (ChB.of (B := B) hc5 (by simp; exact hC5.le)))
          clear hC5 hc5 HN3 HX HB
          by_cases hu : 0 < u
          · go_wp2_with fail
            go_ret
            exact ⟨rfl, _, L, now, O, O', HX5.out.more hK, by omega, HB5.out⟩
          · have hu' : u ≤ 0 := by omega
            cases hs : sid st L with
            | none =>
              have HJ := Lib.hid (dleave_none HX5.out.a (by omega) hs)
              have HJ2 := Lib.hid (fun (W : World) (h : Chg [] w5 W) => rrleave_none (HX5.out.quiet h).d (by omega) hs)
              clear hs
              go_wp2_with fail
              refine HJ.out.mono ?_
              rintro e v1 ⟨rfl, hc1⟩
              have HC1 := Lib.hid hc1
              clear hc1
              go_wp2_with fail
              refine (HJ2.out _ HC1.out).mono ?_
              rintro e v2 ⟨rfl, hc2⟩
              have HC2 := Lib.hid (HC1.out.trans hc2 (by simp))
              clear hc2
              go_wp2_with fail
              go_ret
              exact ⟨rfl, _, L, now, O, O', (HX5.out.quiet HC2.out).more hK, by omega, HB5.out.trans (ChB.nil HC2.out)⟩
            | some k =>
              have HJ := Lib.hid (dleave_c HX5.out.a (by omega) hs)
              have HJ2 := Lib.hid (fun (W : World) (h : Chg (r :: O) w5 W) => rrleave_c (HX5.out.dr h) (Nat.le_trans HX5.out.B0 h.size) (by omega) hs)
              have HV := Lib.hid ((HX5.out.v.erase k).more hK)
              clear hs
              go_wp2_with fail
              refine HJ.out.mono ?_
              rintro e v1 ⟨rfl, hA1, hc1⟩
              have HC1 := Lib.hid hc1
              have HA1 := Lib.hid hA1
              clear hc1 hA1
              go_wp2_with fail
              refine (HJ2.out _ HC1.out).mono ?_
              rintro e v2 ⟨rfl, O2, hD2, hO2, hc2⟩
              have HR := Lib.hid (HX5.out.both HC1.out HA1.out (fun j hj => .inl hj) hc2 hD2 (fun j hj => .inr (hO2 j hj)) HV.out (.inl rfl))
              clear hc2 hD2 hO2
              go_wp2_with fail
              go_ret
              exact ⟨rfl, _, _, _, _, _, HR.out.1, by omega, HB5.out.trans HR.out.2⟩
        · have hm2' : (m == 2) = false := by rw [beq_eq_false_iff_ne]; exact hm2
          clear hm2
          by_cases hm3 : m = 3
          · subst hm3
            have kl : Chg [] w4 (w4.alloc (.cells #[.int .i64 1, .int .i64 600, .int .i64 5000, .int .i64 0, .int .i64 1048576, .int .i64 1048577] 2)) := (Chg.refl [] w4).alloc _
            have HQ := Lib.hid (HX.out.quiet kl)
            have HN6 := Lib.hid (next_c (n := 6) HQ.out.ch (by omega) (by omega))
            have HBl := Lib.hid (Blk.new w4 2 #[.int .i64 1, .int .i64 600, .int .i64 5000, .int .i64 0, .int .i64 1048576, .int .i64 1048577])
            have HBq := Lib.hid (HB.out.trans (ChB.nil kl))
            have hcl := HX.out.ch.lt
            have d0 := nx_nonneg zs (p' + 1) 6
            have d1 := nx_lt zs (p' + 1) 6 (by omega)
            generalize nx zs (p' + 1) 6 = u at HN6 d0 d1
            obtain ⟨u, rfl⟩ : ∃ i : Nat, u = i := ⟨u.toNat, by omega⟩
            clear kl HX HB
            go_wp2_with fail
            refine HN6.out.mono ?_
            rintro e w5 ⟨rfl, hC5, hc5⟩
            have HX5 := Lib.hid (HQ.out.cho hc5 hC5)
            have HB5 := Lib.hid (HBq.out.trans (ChB.of (B := B) hc5 (by simp; exact hC5.le)))
            obtain ⟨tt, ht⟩ := six_at (HBl.out.chg hc5 (by simp; omega)) (k := u) (by omega)
            clear hC5 hc5 HN6 HQ HBq HBl
            by_cases hok : 1 ≤ tt ∧ tt ≤ 1048576
            · cases hsn : sid now L with
              | none =>
                have hnow : now = -1 := by
                  rcases HX5.out.n with h | ⟨k, h, _⟩
                  · exact h
                  · rw [hsn] at h; cases h
                subst hnow
                have HJ := Lib.hid (dcharge_none HX5.out.a HX5.out.v.id0 hok)
                have HJ2 := Lib.hid (fun (V : World) (h : Chg [] w5 V) => rrcharge_none (HX5.out.quiet h).d (by omega) hsn hok)
                clear hsn hok
                go_wp2_with fail
                refine HJ.out.mono ?_
                rintro e v1 ⟨rfl, hc1⟩
                have HC1 := Lib.hid hc1
                clear hc1
                go_wp2_with fail
                refine (HJ2.out _ HC1.out).mono ?_
                rintro e v2 ⟨rfl, hc2⟩
                have HC2 := Lib.hid (HC1.out.trans hc2 (by simp))
                clear hc2
                go_wp2_with fail
                go_ret
                exact ⟨rfl, _, L, -1, O, O', (HX5.out.quiet HC2.out).more hK, by omega, HB5.out.trans (ChB.nil HC2.out)⟩
              | some k =>
                have hnow : now ≠ -1 := by
                  rintro rfl
                  obtain ⟨hk, he⟩ := sid_spec hsn
                  have := HX5.out.v.id0 L[k] (by simp)
                  omega
                obtain ⟨hk, hdk⟩ : ∃ hk : k < L.length, 0 < L[k].d := by
                  rcases HX5.out.n with h | ⟨k', h, hk⟩
                  · exact absurd h hnow
                  · rw [hsn] at h
                    injection h with h
                    subst h
                    exact hk
                have HJ := Lib.hid (dcharge_c HX5.out.a HX5.out.v.id0 hnow hsn hok HX5.out.v.bd)
                have HJ2 := Lib.hid (fun (V : World) (h : Chg (r :: O) w5 V) => rrcharge_c (HX5.out.dr h) (Nat.le_trans HX5.out.B0 h.size) (by omega) hsn hok HX5.out.v.bd)
                have HV := Lib.hid (HX5.out.v.chargeAt hk hdk hok.1 hok.2 hK)
                clear hsn hok hdk hk
                go_wp2_with fail
                refine HJ.out.mono ?_
                rintro e v1 ⟨rfl, hA1, hc1⟩
                have HC1 := Lib.hid hc1
                have HA1 := Lib.hid hA1
                clear hc1 hA1
                go_wp2_with fail
                refine (HJ2.out _ HC1.out).mono ?_
                rintro e v2 ⟨rfl, O2, hD2, hO2, hc2⟩
                have HR := Lib.hid (HX5.out.both HC1.out HA1.out (fun j hj => .inl hj) hc2 hD2 (fun j hj => .inr (hO2 j hj)) HV.out (.inl rfl))
                clear hc2 hD2 hO2
                go_wp2_with fail
                go_ret
                exact ⟨rfl, _, _, _, _, _, HR.out.1, by omega, HB5.out.trans HR.out.2⟩
            · have HJ := Lib.hid (fun (V : World) => dcharge_bad (w := V) r tt hok)
              have HJ2 := Lib.hid (fun (V : World) => rrcharge_bad (w := V) s tt hok)
              clear hok
              go_wp2_with fail
              refine (HJ.out _).mono ?_
              rintro e v1 ⟨rfl, hc1⟩
              have HC1 := Lib.hid hc1
              clear hc1
              go_wp2_with fail
              refine (HJ2.out _).mono ?_
              rintro e v2 ⟨rfl, hc2⟩
              have HC2 := Lib.hid (HC1.out.trans hc2 (by simp))
              clear hc2
              go_wp2_with fail
              go_ret
              exact ⟨rfl, _, L, now, O, O', (HX5.out.quiet HC2.out).more hK, by omega, HB5.out.trans (ChB.nil HC2.out)⟩
          · have hm3' : (m == 3) = false := by rw [beq_eq_false_iff_ne]; exact hm3
            clear hm3
            by_cases hm4 : m = 4
            · subst hm4
              have kl : Chg [] w4 (w4.alloc (.cells #[.int .i64 1, .int .i64 600, .int .i64 5000, .int .i64 0, .int .i64 1048576, .int .i64 1048577] 2)) := (Chg.refl [] w4).alloc _
              have HQ := Lib.hid (HX.out.quiet kl)
              have HN6 := Lib.hid (next_c (n := 6) HQ.out.ch (by omega) (by omega))
              have HBl := Lib.hid (Blk.new w4 2 #[.int .i64 1, .int .i64 600, .int .i64 5000, .int .i64 0, .int .i64 1048576, .int .i64 1048577])
              have HBq := Lib.hid (HB.out.trans (ChB.nil kl))
              have hcl := HX.out.ch.lt
              have d0 := nx_nonneg zs (p' + 1) 6
              have d1 := nx_lt zs (p' + 1) 6 (by omega)
              generalize nx zs (p' + 1) 6 = u at HN6 d0 d1
              obtain ⟨u, rfl⟩ : ∃ i : Nat, u = i := ⟨u.toNat, by omega⟩
              clear kl HX HB
              go_wp2_with fail
              refine HN6.out.mono ?_
              rintro e w5 ⟨rfl, hC5, hc5⟩
              have HX5 := Lib.hid (HQ.out.cho hc5 hC5)
              have HB5 := Lib.hid (HBq.out.trans (ChB.of (B := B) hc5 (by simp; exact hC5.le)))
              obtain ⟨tt, ht⟩ := six_at (HBl.out.chg hc5 (by simp; omega)) (k := u) (by omega)
              clear hC5 hc5 HN6 HQ HBq HBl
              by_cases hok : 1 ≤ tt ∧ tt ≤ 1048576
              · cases hsn : sid now L with
                | none =>
                  have hnow : now = -1 := by
                    rcases HX5.out.n with h | ⟨k, h, _⟩
                    · exact h
                    · rw [hsn] at h; cases h
                  subst hnow
                  have HJ := Lib.hid (dcharge_none HX5.out.a HX5.out.v.id0 hok)
                  have HJ2 := Lib.hid (fun (V : World) (h : Chg [] w5 V) => rrcharge_none (HX5.out.quiet h).d (by omega) hsn hok)
                  clear hsn hok
                  go_wp2_with fail
                  refine HJ.out.mono ?_
                  rintro e v1 ⟨rfl, hc1⟩
                  have HC1 := Lib.hid hc1
                  clear hc1
                  go_wp2_with fail
                  refine (HJ2.out _ HC1.out).mono ?_
                  rintro e v2 ⟨rfl, hc2⟩
                  have HC2 := Lib.hid (HC1.out.trans hc2 (by simp))
                  clear hc2
                  go_wp2_with fail
                  go_ret
                  exact ⟨rfl, _, L, -1, O, O', (HX5.out.quiet HC2.out).more hK, by omega, HB5.out.trans (ChB.nil HC2.out)⟩
                | some k =>
                  have hnow : now ≠ -1 := by
                    rintro rfl
                    obtain ⟨hk, he⟩ := sid_spec hsn
                    have := HX5.out.v.id0 L[k] (by simp)
                    omega
                  obtain ⟨hk, hdk⟩ : ∃ hk : k < L.length, 0 < L[k].d := by
                    rcases HX5.out.n with h | ⟨k', h, hk⟩
                    · exact absurd h hnow
                    · rw [hsn] at h
                      injection h with h
                      subst h
                      exact hk
                  have HJ := Lib.hid (dcharge_c HX5.out.a HX5.out.v.id0 hnow hsn hok HX5.out.v.bd)
                  have HJ2 := Lib.hid (fun (V : World) (h : Chg (r :: O) w5 V) => rrcharge_c (HX5.out.dr h) (Nat.le_trans HX5.out.B0 h.size) (by omega) hsn hok HX5.out.v.bd)
                  have HV := Lib.hid (HX5.out.v.chargeAt hk hdk hok.1 hok.2 hK)
                  clear hsn hok hdk hk
                  go_wp2_with fail
                  refine HJ.out.mono ?_
                  rintro e v1 ⟨rfl, hA1, hc1⟩
                  have HC1 := Lib.hid hc1
                  have HA1 := Lib.hid hA1
                  clear hc1 hA1
                  go_wp2_with fail
                  refine (HJ2.out _ HC1.out).mono ?_
                  rintro e v2 ⟨rfl, O2, hD2, hO2, hc2⟩
                  have HR := Lib.hid (HX5.out.both HC1.out HA1.out (fun j hj => .inl hj) hc2 hD2 (fun j hj => .inr (hO2 j hj)) HV.out (.inl rfl))
                  clear hc2 hD2 hO2
                  go_wp2_with fail
                  go_ret
                  exact ⟨rfl, _, _, _, _, _, HR.out.1, by omega, HB5.out.trans HR.out.2⟩
              · have HJ := Lib.hid (fun (V : World) => dcharge_bad (w := V) r tt hok)
                have HJ2 := Lib.hid (fun (V : World) => rrcharge_bad (w := V) s tt hok)
                clear hok
                go_wp2_with fail
                refine (HJ.out _).mono ?_
                rintro e v1 ⟨rfl, hc1⟩
                have HC1 := Lib.hid hc1
                clear hc1
                go_wp2_with fail
                refine (HJ2.out _).mono ?_
                rintro e v2 ⟨rfl, hc2⟩
                have HC2 := Lib.hid (HC1.out.trans hc2 (by simp))
                clear hc2
                go_wp2_with fail
                go_ret
                exact ⟨rfl, _, L, now, O, O', (HX5.out.quiet HC2.out).more hK, by omega, HB5.out.trans (ChB.nil HC2.out)⟩
            · have hm4' : (m == 4) = false := by rw [beq_eq_false_iff_ne]; exact hm4
              clear hm4
              have HRy := Lib.hid (ready_c HX.out.ch HX.out.B0 (by omega))
              go_wp2_with fail
              refine HRy.out.mono ?_
              rintro e w5 ⟨A, d, g, rd, rfl, hR, hgw, ⟨p2, hC5, hp2⟩, hc5⟩
              have HX5 := Lib.hid (HX.out.cho hc5 hC5)
              have HB5 := Lib.hid (HB.out.trans (ChB.of (B := B) hc5 (by simp; exact hC5.le)))
              have hgr : g ∉ r :: O := fun hm => by
                rcases List.mem_cons.1 hm with e | hm
                · have := HX.out.a.lt; omega
                · have := (HX.out.a.BO g hm).2; omega
              have hgs : g ∉ s :: O' := fun hm => by
                rcases List.mem_cons.1 hm with e | hm
                · have := HX.out.d.lt; omega
                · have := (HX.out.d.BO g hm).2; omega
              have HRd := Lib.hid hR
              clear hC5 hc5 HRy HX HB hR
              have hx0 := fun (pp : Nat) => nx_nonneg zs pp 9
              have hx1 := fun (pp : Nat) => nx_lt zs pp 9 (by omega)
              cases hok : rdOK (-1) rd with
              | false =>
                have HJ := Lib.hid (dnext_inv (r := r) (d := d) rfl HRd.out hok)
                have HJ2 := Lib.hid (fun (V : World) (h : Chg [] w5 V) => rrnext_inv (d := d) (HX5.out.quiet h).d (by omega) rfl (HRd.out.chg h (by simp)) hok)
                have HN := Lib.hid (fun (V : World) (h : Chg [] w5 V) => next_c (n := 9) (HX5.out.quiet h).ch (by omega) (by omega))
                have e0 := hx0 p2
                have e1 := hx1 p2
                generalize nx zs p2 9 = u at HN e0 e1
                clear hok hx0 hx1
                go_wp2_with fail
                refine HJ.out.mono ?_
                rintro e v1 ⟨rfl, hc1⟩
                have HC1 := Lib.hid hc1
                clear hc1
                go_wp2_with fail
                refine (HJ2.out _ HC1.out).mono ?_
                rintro e v2 ⟨rfl, hc2⟩
                have HC2 := Lib.hid (HC1.out.trans hc2 (by simp))
                clear hc2
                go_wp2_with fail
                refine (HN.out _ HC2.out).mono ?_
                rintro e v3 ⟨rfl, hC3, hc3⟩
                have HX3 := Lib.hid ((HX5.out.quiet HC2.out).cho hc3 hC3)
                have HB3 := Lib.hid (HB5.out.trans ((ChB.nil HC2.out).trans (ChB.of (B := B) hc3 (by simp; exact hC3.le))))
                clear hC3 hc3
                go_wp2_with fail
                go_ret
                exact ⟨rfl, _, L, now, O, O', HX3.out.more hK, by omega, HB3.out⟩
              | true =>
                cases hany : anyB rd L with
                | false =>
                  have HJ := Lib.hid (dnext_empty (d := d) HX5.out.a (by omega) rfl HRd.out hok hany)
                  have HJ2 := Lib.hid (fun (V : World) (h : Chg [] w5 V) => rrnext_empty (d := d) (HX5.out.quiet h).d (by omega) rfl (HRd.out.chg h (by simp)) hok hany)
                  have HN := Lib.hid (fun (V : World) (h : Chg [] w5 V) => next_c (n := 9) (HX5.out.quiet h).ch (by omega) (by omega))
                  have e0 := hx0 p2
                  have e1 := hx1 p2
                  generalize nx zs p2 9 = u at HN e0 e1
                  clear hok hx0 hx1 hany
                  go_wp2_with fail
                  refine HJ.out.mono ?_
                  rintro e v1 ⟨rfl, hc1⟩
                  have HC1 := Lib.hid hc1
                  clear hc1
                  go_wp2_with fail
                  refine (HJ2.out _ HC1.out).mono ?_
                  rintro e v2 ⟨rfl, hc2⟩
                  have HC2 := Lib.hid (HC1.out.trans hc2 (by simp))
                  clear hc2
                  go_wp2_with fail
                  refine (HN.out _ HC2.out).mono ?_
                  rintro e v3 ⟨rfl, hC3, hc3⟩
                  have HX3 := Lib.hid ((HX5.out.quiet HC2.out).cho hc3 hC3)
                  have HB3 := Lib.hid (HB5.out.trans ((ChB.nil HC2.out).trans (ChB.of (B := B) hc3 (by simp; exact hC3.le))))
                  clear hC3 hc3
                  go_wp2_with fail
                  go_ret
                  exact ⟨rfl, _, L, now, O, O', HX3.out.more hK, by omega, HB3.out⟩
                | true =>
                  have HJ := Lib.hid (dnext_c (d := d) HX5.out.a HX5.out.v HX5.out.B0 rfl HRd.out (by simpa using hgr) hok hany)
                  have HJ2 := Lib.hid (fun (V : World) (h : Chg (r :: O) w5 V) => rrnext_c (d := d) (HX5.out.dr h) HX5.out.v (Nat.le_trans HX5.out.B0 h.size) rfl (HRd.out.chg h hgr) (by simp at hgs; exact hgs.1) hok hany)
                  clear hok hany
                  go_wp2_with fail
                  refine HJ.out.mono ?_
                  rintro e v1 ⟨y, R, O1, rfl, hN1, hA1, hO1, hc1⟩
                  have HC1 := Lib.hid hc1
                  have HA1 := Lib.hid hA1
                  have HO1 := Lib.hid hO1
                  have HN1 := Lib.hid hN1
                  clear hc1 hA1 hO1 hN1 HJ
                  go_wp2_with fail
                  refine (HJ2.out _ HC1.out).mono ?_
                  rintro e v2 ⟨y2, R2, O2, rfl, hN2, hD2, hO2, hc2⟩
                  have hdet := HN1.out.det hN2
                  injection hdet with hd1 hd2
                  subst hd1
                  subst hd2
                  obtain ⟨_, _, he, hel⟩ := hN2.head
                  injection he with he1 he2
                  subst he1
                  have HR := Lib.hid (HX5.out.both HC1.out HA1.out HO1.out hc2 hD2 hO2 (HX5.out.v.next hN2) (.inr ⟨0, sid_head _ _, by simp, hel.1⟩))
                  have HX6 := Lib.hid HR.out.1
                  have HB6 := Lib.hid (HB5.out.trans HR.out.2)
                  have hl6 := HX6.out.v.hl
                  have hd0 : 0 < y.d := hel.1
                  have hsi : y.i ≠ -1 := by have := HX6.out.v.id0 y (by simp); omega
                  have HN := Lib.hid (next_c (n := 9) HX6.out.ch (by omega) (by omega))
                  have e0 := hx0 p2
                  have e1 := hx1 p2
                  generalize nx zs p2 9 = u at HN e0 e1
                  obtain ⟨yi, yw, yd, yt⟩ := y
                  simp only at hd0 hsi
                  clear hN2 hD2 hO2 hc2 he2 hel HR HJ2 HC1 HA1 HO1 HN1 hx0 hx1
                  go_wp2_with fail
                  refine HN.out.mono ?_
                  rintro e v3 ⟨rfl, hC3, hc3⟩
                  have HX7 := Lib.hid (HX6.out.cho hc3 hC3)
                  have HB7 := Lib.hid (HB6.out.trans (ChB.of (B := B) hc3 (by simp; exact hC3.le)))
                  clear hC3 hc3 HN HX6 HB6
                  have HJ := Lib.hid (dcharge_c (a := 1 + 300 * u) HX7.out.a HX7.out.v.id0 hsi (sid_head (s := ⟨yi, yw, yd, yt⟩) R) (by omega) HX7.out.v.bd)
                  have HJ2 := Lib.hid (fun (V : World) (h : Chg (r :: O1) v3 V) => rrcharge_c (a := 1 + 300 * u) (HX7.out.dr h) (Nat.le_trans HX7.out.B0 h.size) (by omega) (sid_head (s := ⟨yi, yw, yd, yt⟩) R) (by omega) HX7.out.v.bd)
                  have HV := Lib.hid (HX7.out.v.chargeAt (a := 1 + 300 * u) (k := 0) (by simp) (by simpa using hd0) (by omega) (by omega) hK)
                  go_wp2_with fail
                  refine HJ.out.mono ?_
                  rintro e v4 ⟨rfl, hA4, hc4⟩
                  have HC4 := Lib.hid hc4
                  have HA4 := Lib.hid hA4
                  clear hc4 hA4 HJ
                  go_wp2_with fail
                  refine (HJ2.out _ HC4.out).mono ?_
                  rintro e v5 ⟨rfl, O5, hD5, hO5, hc5⟩
                  have HR := Lib.hid (HX7.out.both HC4.out HA4.out (fun j hj => .inl hj) hc5 hD5 (fun j hj => .inr (hO5 j hj)) HV.out (.inl rfl))
                  clear hc5 hD5 hO5 HJ2
                  go_wp2_with fail
                  go_ret
                  exact ⟨rfl, _, _, _, _, _, HR.out.1, by omega, HB7.out.trans HR.out.2⟩

end Go.Proofs.Ytmbmejobffpaoaa
