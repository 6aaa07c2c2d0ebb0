/- A map from int to int that a field leads to, said as a function. -/
import Derived.Test.YtgkdlplocahnnaaProg
import Derived.Test.YtgkdlplocahnnaaBase
import Derived.Maps.Own
import Derived.Maps.OwnOps
import Derived.Maps.OwnSet
import Derived.Maps.Views
import Derived.Maps.Keyed
namespace Go.Proofs.Ytgkdlplocahnnaa
open Go.RowKit Go.Maps
set_option linter.unusedVariables false
set_option linter.unusedSimpArgs false

theorem mlaw : Keyed Try.prog 3 := int_keyed Try.underlying3
theorem mzero (w : World) : (zeroValue 3).run Try.prog w = .ok (.int .i64 0) w := by kernel_rfl

def wfI (k : Int) : Prop := (Lit.int .i64 k).wf = true
theorem wfI_of {k : Int} (h1 : -9223372036854775808 ≤ k) (h2 : k ≤ 9223372036854775807) : wfI k := WalkArith.wf_i64 ⟨h1, h2⟩

/-- Block m is a map of at most n entries that holds H. -/
def MF (w : World) (m n : Nat) (H : Int → Option Int) : Prop := ∃ D : DataW Unit, w.ownsMap Try.prog 3 (plainElem Try.prog 3) m n D ∧
  ∀ k, wfI k → Maps.has D (.int .i64 k) = (H k).isSome ∧ ∀ v, H k = some v → D.atKey (.int .i64 k) (.lit (.int .i64 0)) = .lit (.int .i64 v)

def mDel (H : Int → Option Int) (k : Int) : Int → Option Int := fun j => if j = k then none else H j
def mPut (H : Int → Option Int) (k v : Int) : Int → Option Int := fun j => if j = k then some v else H j
theorem mDel_same (H : Int → Option Int) (k : Int) : mDel H k k = none := if_pos rfl
theorem mDel_other (H : Int → Option Int) {k j : Int} (h : j ≠ k) : mDel H k j = H j := if_neg h
theorem mPut_same (H : Int → Option Int) (k v : Int) : mPut H k v k = some v := if_pos rfl
theorem mPut_other (H : Int → Option Int) {k v j : Int} (h : j ≠ k) : mPut H k v j = H j := if_neg h

section
variable {w w' : World} {m n : Nat} {H : Int → Option Int}
theorem MF.lt (h : MF w m n H) : m < w.heap.size := by
  obtain ⟨D, h1, _⟩ := h
  exact h1.lt
theorem MF.chg {S : List Nat} (h : MF w m n H) (hc : Chg S w w') (hm : m ∉ S) : MF w' m n H := by
  obtain ⟨D, ⟨es, clock, h1, h2⟩, h3⟩ := h
  have hlt : m < w.heap.size := (Array.getElem?_eq_some_iff.1 h1).1
  exact ⟨D, ⟨es, clock, (hc.block m hlt hm).trans h1, h2⟩, h3⟩
theorem MF.mono (h : MF w m n H) {n' : Nat} (hn : n ≤ n') : MF w m n' H := by
  obtain ⟨D, h1, h2⟩ := h
  exact ⟨D, h1.mono hn, h2⟩
theorem MF.made (w : World) : MF (w.alloc (.map #[] 0)) w.heap.size 0 (fun _ => none) :=
  ⟨_, World.ownsMap_made _ _ _ _, fun k _ => ⟨rfl, fun v hv => by cases hv⟩⟩
theorem MF.look (h : MF w m n H) {k : Int} (hk : wfI k) : (Instr.lookup 56 (.map (some m)) (.int .i64 k) true).run Try.prog w = .ok (.tuple #[.int .i64 ((H k).getD 0), .bool (H k).isSome]) w := by
  obtain ⟨D, h1, h2⟩ := h
  obtain ⟨v, ps, hrun, hv⟩ := h1.look_ok mlaw Try.underlying56 (mzero w) (plainElem_int Try.underlying3 (by decide)) (keyOf_int_mk Try.underlying3 hk)
  obtain ⟨c, rfl, hc, _⟩ := plainElem_int_inv Try.underlying3 hv
  obtain ⟨g1, g2⟩ := h2 k hk
  rw [hrun, g1]
  have hcc : c = (H k).getD 0 := by
    have e1 := congrArg Prod.fst hc
    simp only at e1
    cases hh : H k with
    | some u =>
      rw [g2 u hh] at e1
      injection e1 with e1
      injection e1 with _ e1
      exact e1.symm
    | none =>
      rw [hh] at g1
      rw [atKey_of_not_has g1] at e1
      injection e1 with e1
      injection e1 with _ e1
      exact e1.symm
  rw [hcc]
theorem key_ne {a b : Int} (h : a ≠ b) : (Lit.int .i64 a) ≠ (Lit.int .i64 b) := fun e => h (by injection e)
theorem MF.drop (h : MF w m n H) {k : Int} (hk : wfI k) (ty : TypeId) :
    ∃ w', (Builtin.delete_ #[56, 3] ty #[.map (some m), .int .i64 k]).run Try.prog w = .ok (.tuple #[]) w' ∧ MF w' m n (mDel H k) ∧ Chg [m] w w' := by
  obtain ⟨D, h1, h2⟩ := h
  obtain ⟨w', hrun, r1, r2⟩ := h1.drop mlaw Try.underlying56 (keyOf_int_mk Try.underlying3 hk) ty
  refine ⟨w', hrun, ⟨_, r1, fun j hj => ?_⟩, (Chg.refl [m] w).grown r2.grown (by simp)⟩
  by_cases e : j = k
  · subst e
    rw [mDel_same]
    exact ⟨has_del_same, fun v hv => by cases hv⟩
  · rw [mDel_other H e, has_del_other (key_ne e), atKey_del_other (key_ne e)]
    exact h2 j hj
theorem MF.store (h : MF w m n H) {k v : Int} (hk : wfI k) (hv : wfI v) (hn : n ≤ 1000000) :
    ∃ w', (Instr.mapUpdate 56 (.map (some m)) (.int .i64 k) (.int .i64 v)).run Try.prog w = .ok () w' ∧ MF w' m (n + 1) (mPut H k v) ∧ Chg [m] w w' := by
  obtain ⟨D, h1, h2⟩ := h
  obtain ⟨w', hrun, r1, r2⟩ := h1.store mlaw Try.underlying56 (by unfold maxLen; omega) (keyOf_int_mk Try.underlying3 hk) (plainElem_int Try.underlying3 hv)
  refine ⟨w', hrun, ⟨_, r1, fun j hj => ?_⟩, (Chg.refl [m] w).grown r2.grown (by simp)⟩
  have hkl : WideAt.IsKeyLit (.int .i64 k) := by trivial
  by_cases e : j = k
  · subst e
    rw [mPut_same]
    exact ⟨has_put_same h1.isMap hkl _, fun u hu => by injection hu with hu; subst hu; exact atKey_put_same h1.isMap hkl _ _⟩
  · rw [mPut_other H e, has_put_other (key_ne e), atKey_put_other (key_ne e)]
    exact h2 j hj
end

end Go.Proofs.Ytgkdlplocahnnaa
