/- The receiver: Holds. -/
import Derived.Test.YtgkdlplocahnnaaRy
import Derived.Maps.RangeWalk
namespace Go.Proofs.Ytgkdlplocahnnaa
open Go.RowKit Go.Maps
set_option linter.unusedVariables false
set_option linter.unusedSimpArgs false

/-- What has been looked at holds no id. -/
def HdRel (D : DataW Unit) (H : Int → Option Int) (id : Int) (left : Lit → Bool) : Prop := ∀ k, wfI k → left (.int .i64 k) = true ∨ H k ≠ some id

def HoldsPost (w : World) (H : Int → Option Int) (id : Int) (e : Ending) (w' : World) : Prop := ∃ b : Bool, e = .returned (.bool b) ∧ (b = true ↔ ∃ k, wfI k ∧ H k = some id) ∧ Chg [] w w'

theorem mf_val {D : DataW Unit} {H : Int → Option Int} (hD : ∀ k, wfI k → Maps.has D (.int .i64 k) = (H k).isSome ∧ ∀ v, H k = some v → D.atKey (.int .i64 k) (.lit (.int .i64 0)) = .lit (.int .i64 v)) {x c : Int} (hx : wfI x) (hat : ∀ zd, D.atKey (.int .i64 x) zd = .lit (.int .i64 c)) : H x = some c := by
  obtain ⟨h1, h2⟩ := hD x hx
  rw [has_true_of_atKey hat] at h1
  obtain ⟨v, hv⟩ := Option.isSome_iff_exists.1 h1.symm
  have := h2 v hv
  rw [hat] at this
  injection this with this
  injection this with _ this
  rw [hv, this]

set_option maxHeartbeats 4000000 in
theorem holds_c {w : World} {B r m n : Nat} {wd x : Int} {H : Int → Option Int} (h : RV w B r m n wd x H) (id : Int) :
    Calls Try.prog 12 #[.pointer (some ⟨r, 0, none⟩), .int .i64 id] w (HoldsPost w H id) := by
  have e2 := (h.hr.cell 2).trans rfl
  obtain ⟨D, hown, hD⟩ := h.hm
  have HD := Lib.hid hD
  have hml := h.mlt
  clear h hD
  go_enter Try.func12, Try.ntmps12
  go_wp2_with (at_range; refine wpList_range_own _ rfl _ 56 rfl 3 3 mlaw Try.underlying56 _ m n D rfl hown ?_; intro w0 hrg0 hg0 hs0)
  go_frame
  go_loopw [12] (fun _ wr => ∃ (left : Lit → Bool) (ct : Nat), wr.ranges Try.prog 3 (plainElem Try.prog 3) m w.heap.size n D left ct ∧ HdRel D H id left ∧ Chg [] w wr) (fun _ wr => wr.rangeLeft m w.heap.size)
  case atStart =>
    refine ⟨_, _, hrg0, fun k hk => ?_, (Chg.refl [] w).grown hg0 (by simp)⟩
    have := (HD.out k hk).1
    cases hh : H k with
    | none => exact .inr (by simp)
    | some v => rw [hh] at this; exact .inl this
  case round =>
    obtain ⟨left, ct, hrg, hrel2, hc⟩ := hrel
    have HR2 := Lib.hid hrel2
    have HC := Lib.hid hc
    clear hrel2 hc
    go_wp2_with (at_next; refine wpList_next_ranges_ii _ rfl _ rfl 3 3 .i64 .i64 mlaw Try.underlying3 Try.underlying3 m w.heap.size n _ _ _ rfl hrg ?_ ?_)
    · intro _ hl0
      have HL := Lib.hid hl0
      clear hl0
      go_wp2_with fail
      go_ret
      refine ⟨false, rfl, ⟨(fun h => by cases h), fun ⟨k, hk, hh⟩ => ?_⟩, HC.out⟩
      rcases HR2.out k hk with h | h
      · rw [HL.out] at h; cases h
      · exact absurd hh h
    · intro y c w1 ct1 hwx hwc hlx hat hrg1 hlt hg1 hs1 hen
      have HV := Lib.hid (mf_val HD.out hwx hat)
      have HWX := Lib.hid (show wfI y from hwx)
      have HC1 := Lib.hid (HC.out.grown hg1 (fun j hj => by injection hj with hj; subst hj; exact .inr (Nat.le_refl _)))
      have HLT := Lib.hid hlt
      have HS1 := Lib.hid (hrg1.left_eq)
      have HS0 := Lib.hid (hrg.left_eq)
      have HRG := Lib.hid hrg1
      clear hat hlx hwx hwc hlt hrg1 hrg
      by_cases hcid : c = id
      · subst hcid
        go_wp2_with fail
        go_ret
        refine ⟨true, rfl, ⟨fun _ => ⟨y, HWX.out, HV.out⟩, fun _ => rfl⟩, HC1.out⟩
      · have hcid' : (c == id) = false := by rw [beq_eq_false_iff_ne]; exact hcid
        have HNE := Lib.hid hcid
        clear hcid
        go_wp2_with fail
        go_roundw
        case rel =>
          refine ⟨_, ct1, HRG.out, fun k hk => ?_, HC1.out⟩
          rcases HR2.out k hk with h | h
          · by_cases e : k = y
            · subst e
              refine .inr ?_
              rw [HV.out]
              intro e
              injection e with e
              exact HNE.out e
            · refine .inl ?_
              simp [h]
              exact sameKey_ne (key_ne e)
          · exact .inr h
        case measure => rw [HS1.out, HS0.out]; exact HLT.out

end Go.Proofs.Ytgkdlplocahnnaa
