/- The walk of the statement DeficitScript. -/
import Derived.Test.YtmbmejobffpaoaaDa
import Derived.Test.YtmbmejobffpaoaaDt
namespace Go.Proofs.Ytmbmejobffpaoaa
open Go.RowKit
set_option linter.unusedVariables false
set_option linter.unusedSimpArgs false

def nwE (q : Int) : Int := if 256 ≤ q ∧ q ≤ 1048576 then 0 else 1
def NewPost (q : Int) (w : World) (e : Ending) (w' : World) : Prop := ∃ p : Option Addr, e = .returned (.tuple #[.pointer p, .int .i64 (nwE q)]) ∧ Chg [] w w'
theorem dnew_any (q : Int) (w : World) : Calls Try.prog 8 #[.int .i64 q] w (NewPost q w) := by
  by_cases h : 256 ≤ q ∧ q ≤ 1048576
  · exact (dnew_c q h.1 h.2 w (Nat.le_refl _)).mono (by rintro e w' ⟨r, rfl, _, _, hc⟩; exact ⟨_, by rw [nwE, if_pos h], hc⟩)
  · exact (dnew_bad q h w).mono (by rintro e w' ⟨rfl, hc⟩; exact ⟨_, by rw [nwE, if_neg h], hc⟩)
theorem rrnew_any (q : Int) (w : World) : Calls Try.prog 20 #[.int .i64 q] w (NewPost q w) := by
  by_cases h : 256 ≤ q ∧ q ≤ 1048576
  · exact (rrnew_c q h.1 h.2 w (Nat.le_refl _)).mono (by rintro e w' ⟨r, rfl, _, _, hc⟩; exact ⟨_, by rw [nwE, if_pos h], hc⟩)
  · exact (rrnew_bad q h w).mono (by rintro e w' ⟨rfl, hc⟩; exact ⟨_, by rw [nwE, if_neg h], hc⟩)

def cgE (now a : Int) (L : List Sd) : Int := if 1 ≤ a ∧ a ≤ 1048576 then (if (sid now L).isSome = true then 0 else 14) else 1

section
variable {w : World} {B r s c p : Nat} {zs : List Int} {q K now : Int} {L : List Sd} {O O' : List Nat}
theorem dcharge_any (h : SX w B r s c zs p q K L now O O') (a : Int) :
    Calls Try.prog 12 #[.pointer (some ⟨r, 0, none⟩), .int .i64 a] w fun e w' => e = .returned (.int .i64 (cgE now a L)) ∧ Chg (r :: O) w w' := by
  by_cases ha : 1 ≤ a ∧ a ≤ 1048576
  · cases hsn : sid now L with
    | none =>
      have hnow : now = -1 := by
        rcases h.n with h | ⟨k, h, _⟩
        · exact h
        · rw [hsn] at h; cases h
      subst hnow
      exact (dcharge_none h.a h.v.id0 ha).mono (by rintro e w' ⟨rfl, hc⟩; exact ⟨by rw [cgE, if_pos ha, hsn]; rfl, hc.mono (by simp)⟩)
    | some k =>
      have hnow : now ≠ -1 := by
        rintro rfl
        obtain ⟨hk, he⟩ := sid_spec hsn
        have := h.v.id0 L[k] (by simp)
        omega
      exact (dcharge_c h.a h.v.id0 hnow hsn ha h.v.bd).mono (by rintro e w' ⟨rfl, _, hc⟩; exact ⟨by rw [cgE, if_pos ha, hsn]; rfl, hc⟩)
  · exact (dcharge_bad r a ha).mono (by rintro e w' ⟨rfl, hc⟩; exact ⟨by rw [cgE, if_neg ha], hc.mono (by simp)⟩)
theorem rrcharge_any (h : DR w B s O' q L now) (hV : DV q K L) (hB : B ≤ w.heap.size) (a : Int) :
    Calls Try.prog 23 #[.pointer (some ⟨s, 0, none⟩), .int .i64 a] w fun e w' => e = .returned (.int .i64 (cgE now a L)) ∧ Chg [s] w w' := by
  have hl := hV.hl
  by_cases ha : 1 ≤ a ∧ a ≤ 1048576
  · cases hsn : sid now L with
    | none => exact (rrcharge_none h (by omega) hsn ha).mono (by rintro e w' ⟨rfl, hc⟩; exact ⟨by rw [cgE, if_pos ha, hsn]; rfl, hc.mono (by simp)⟩)
    | some k => exact (rrcharge_c h hB (by omega) hsn ha hV.bd).mono (by rintro e w' ⟨rfl, _, _, _, hc⟩; exact ⟨by rw [cgE, if_pos ha, hsn]; rfl, hc⟩)
  · exact (rrcharge_bad s a ha).mono (by rintro e w' ⟨rfl, hc⟩; exact ⟨by rw [cgE, if_neg ha], hc.mono (by simp)⟩)
end

theorem q4_cell {w : World} {g k : Nat} {t : TypeId} (h : Blk w g t #[.int .i64 256, .int .i64 1000, .int .i64 5000, .int .i64 1048576]) (hk : k < 4) : ∃ v : Int, w.cell? ⟨g, k, none⟩ = some (.int .i64 v) ∧ 256 ≤ v ∧ v ≤ 1048576 := by
  rw [h.cell]
  have : k = 0 ∨ k = 1 ∨ k = 2 ∨ k = 3 := by omega
  rcases this with rfl | rfl | rfl | rfl <;> exact ⟨_, rfl, by omega, by omega⟩

/-- What stands at the head of the script's rounds. -/
def SgRel (w wr : World) (r s c : Nat) (zs : List Int) (q : Int) (k : Nat) : Prop := ∃ p L now O O', SX wr w.heap.size r s c zs p q (1048576 * (k : Int)) L now O O' ∧ p ≤ 1 + 15 * k ∧ Chg [] w wr

set_option maxRecDepth 100000 in
set_option maxHeartbeats 8000000 in
theorem deficitScript_walk {w : World} {a : Option Addr} {len cap : Nat} {zs : List Int} (quantum airtime : Int) (hz : zs.length = len) (hl : len ≤ 9223372036854775807) (hi : Inp w w.heap.size a zs) :
    Calls Try.prog 6 #[.slice a len cap, .int .i64 quantum, .int .i64 airtime] w fun e w' => e = .returned (.bool true) ∧ Below w.heap.size w w' := by
  have hgn := gnew_c (cap := cap) hz hl hi
  clear hz hi
  go_enter Try.func6, Try.ntmps6
  go_wp2_with fail
  refine hgn.mono ?_
  rintro e w1 ⟨c, rfl, hC1, hc1⟩
  have hz1 := hc1.size
  have hcl1 := hC1.lt
  have kl1 : Chg [] w1 (w1.alloc (.cells #[.int .i64 256, .int .i64 1000, .int .i64 5000, .int .i64 1048576] 2)) := (Chg.refl [] w1).alloc _
  have HN3 := Lib.hid (next_c (n := 4) (hC1.chg kl1 (by simp) (by simp)) (by omega) (by omega))
  have m0 := nx_nonneg zs 0 4
  have m1 := nx_lt zs 0 4 (by omega)
  generalize nx zs 0 4 = j3 at HN3 m0 m1
  obtain ⟨j3, rfl⟩ : ∃ j : Nat, j3 = j := ⟨j3.toNat, by omega⟩
  have HB1 := Lib.hid (Blk.new w1 2 #[.int .i64 256, .int .i64 1000, .int .i64 5000, .int .i64 1048576])
  have HK1 := Lib.hid (hc1.trans kl1 (by simp))
  clear hC1 hc1 hgn kl1
  go_wp2_with fail
  refine HN3.out.mono ?_
  rintro e w2 ⟨rfl, hC2, hc2⟩
  obtain ⟨q, hq, hq0, hq1⟩ := q4_cell (HB1.out.chg hc2 (by simp; omega)) (k := j3) (by omega)
  have k2 : Chg [] w w2 := HK1.out.trans hc2 (by simp; exact hC2.le)
  clear hc2 HN3
  have HC2 := Lib.hid hC2
  have HK2 := Lib.hid k2
  clear hC2 k2
  go_wp2_with fail
  refine (dnew_c q hq0 hq1 w2 HK2.out.size).mono ?_
  rintro e w3 ⟨r, rfl, hA3, hr3, hc3⟩
  have hcr : c ≠ r := by have := HC2.out.lt; omega
  have hC3 := HC2.out.chg hc3 (by simp) (by simp)
  have k3 : Chg [] w w3 := HK2.out.trans hc3 (by simp)
  clear hc3 HC2 HK2 hq
  go_wp2_with fail
  refine (rrnew_c q hq0 hq1 w3 k3.size).mono ?_
  rintro e w4 ⟨s, rfl, hD4, hs4, hc4⟩
  have HI := Lib.hid (show SgRel w w4 r s c zs q 0 from ⟨1, [], -1, [], [], ⟨hA3.chg hc4 (by simp) (by simp), hD4, DV.nil ⟨hq0, hq1⟩, .inl rfl, hC3.chg hc4 (by simp) (by simp), by simp; exact hcr, by simp; have := hC3.lt; omega, by simp; have := hA3.lt; omega, (k3.trans hc4 (by simp)).size⟩, by omega, k3.trans hc4 (by simp)⟩)
  clear hA3 hC3 k3 hD4 hc4
  go_wp2_with fail
  go_loopw [13] (fun i wr => ∃ k : Nat, k ≤ 40 ∧ i = .int .i64 k ∧ SgRel w wr r s c zs q k) (fun i _ => 40 - (intOf i).toNat)
  case atStart => exact ⟨0, by omega, rfl, HI.out⟩
  case round =>
    clear HI
    obtain ⟨k, hk, rfl, p, L, now, O, O', hX, hp, hc⟩ := hrel
    by_cases hlt : k < 40
    · have hlk : (k : Int) < 40 := by omega
      have HC := Lib.hid hc
      have HAct := Lib.hid (act_c hX (by omega) (by omega))
      clear hX hc
      go_wp2_with fail
      refine HAct.out.mono ?_
      rintro e v1 ⟨rfl, p', L', now', O1, O2, hX1, hp', hB1⟩
      have HC1 := Lib.hid (HC.out.thenB hB1 (Nat.le_refl _))
      have HX1 := Lib.hid hX1
      have HSm := Lib.hid (same_c hX1.a hX1.d (by have := hX1.v.hl; omega))
      clear hX1 hB1 HAct
      go_wp2_with fail
      refine HSm.out.mono ?_
      rintro e v2 ⟨rfl, hc2⟩
      have HR := Lib.hid (show SgRel w v2 r s c zs q (k + 1) from ⟨p', L', now', O1, O2, by rw [show 1048576 * ((k + 1 : Nat) : Int) = 1048576 * (k : Int) + 1048576 from by omega]; exact HX1.out.quiet hc2, by omega, HC1.out.trans hc2 (by simp)⟩)
      clear hc2
      go_wp2_with fail
      go_roundw
      case rel => exact ⟨k + 1, by omega, by go_num, HR.out⟩
      case measure => simp [intOf]; omega
    · have hk40 : (40 : Int) ≤ (k : Int) := by omega
      have HX := Lib.hid hX
      have HC := Lib.hid hc
      clear hX hc
      go_wp2_with fail
      refine (dnew_any quantum _).mono ?_
      rintro e v1 ⟨p1, rfl, hc1⟩
      have HX1 := Lib.hid (HX.out.quiet hc1)
      have HC1 := Lib.hid (HC.out.trans hc1 (by simp))
      clear hc1 HX HC
      go_wp2_with fail
      refine (rrnew_any quantum _).mono ?_
      rintro e v2 ⟨p2, rfl, hc2⟩
      have HX2 := Lib.hid (HX1.out.quiet hc2)
      have HC2 := Lib.hid (HC1.out.trans hc2 (by simp))
      have HJ := Lib.hid (dcharge_any HX2.out airtime)
      have HJ2 := Lib.hid (fun (V : World) (h : Chg (r :: O) v2 V) => rrcharge_any (HX2.out.dr h) HX2.out.v (Nat.le_trans HX2.out.B0 h.size) airtime)
      generalize cgE now airtime L = ce at HJ HJ2
      generalize nwE quantum = ne
      clear hc2 HX1 HC1
      go_wp2_with fail
      refine HJ.out.mono ?_
      rintro e v3 ⟨rfl, hc3⟩
      have HC3 := Lib.hid hc3
      clear hc3
      go_wp2_with fail
      refine (HJ2.out _ HC3.out).mono ?_
      rintro e v4 ⟨rfl, hc4⟩
      have HC4 := Lib.hid (HC2.out.thenB ((ChB.of HC3.out HX2.out.ge).trans (ChB.of (B := w.heap.size) hc4 (by simp; exact HX2.out.d.Bs))) (Nat.le_refl _))
      clear hc4
      go_wp2_with fail
      refine (dawake_c _).mono ?_
      rintro e v5 ⟨rfl, kc⟩
      go_wp2_with fail
      go_ret
      exact ⟨rfl, (HC4.out.trans kc (by simp)).below (Nat.le_refl _) (by simp)⟩

end Go.Proofs.Ytmbmejobffpaoaa
