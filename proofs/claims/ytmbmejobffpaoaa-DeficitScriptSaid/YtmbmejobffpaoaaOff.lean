/- Many operations of a drawn region, all turned off by their guards, taken at once. No program is named. -/
import Derived.Test.YtmbmejobffpaoaaBase
import Derived.Orders
namespace Go.Proofs.Ytmbmejobffpaoaa
open Go.RowKit
set_option linter.unusedVariables false
set_option linter.unusedSimpArgs false

def offOK (md : Region.Mode) (ops : Array Oper) : List Nat → Array Bool → Act → Bool
  | [], _, _ => true
  | i :: is, listed, a => match ops[i]? with
    | none => false
    | some o => Region.free md ops listed i && (Region.ready md ops listed).contains i && !(Region.wanted o (yielded ops a.tmps)) && o.dst.isSome && offOK md ops is (listed.setIfInBounds i true) (a.put o.dst undef)

def dsts (ops : Array Oper) (is : List Nat) : List (Option Nat) := is.map fun i => match ops[i]? with
  | none => none
  | some o => o.dst

theorem wpAny_offs0 {P : Program} {md : Region.Mode} {ops : Array Oper} {Q : Exit → Act → World → Prop} (hs : Region.noSelect ops = true) (hQ : ∀ (d : Nat) c a w, Q (.panic c) (Act.put a (some d) undef) w → Q (.panic c) a w) :
    ∀ (is : List Nat) {fuel : Nat} {listed : Array Bool} {a : Act} {w : World}, offOK md ops is listed a = true →
      wpAny P md ops Q fuel (is.foldl (fun l i => l.setIfInBounds i true) listed) ((dsts ops is).foldl (fun a d => a.put d undef) a) w → wpAny P md ops Q (fuel + is.length) listed a w
  | [], _, _, _, _, _, h => h
  | i :: is, fuel, listed, a, w, hc, h => by
    unfold offOK at hc
    cases ho : ops[i]? with
    | none => rw [ho] at hc; cases hc
    | some o =>
      rw [ho] at hc
      simp only [Bool.and_eq_true, Bool.not_eq_true'] at hc
      obtain ⟨⟨⟨⟨h1, h2⟩, h3⟩, h5⟩, h4⟩ := hc
      obtain ⟨d, hd5⟩ := Option.isSome_iff_exists.1 h5
      refine wpAny_take (i := i) (oi := o) (v := undef) ho hs h1 h2 (fun c a w => by rw [hd5]; exact hQ d c a w) (Or.inr ⟨h3, rfl⟩) ?_
      refine wpAny_offs0 hs hQ is h4 ?_
      have hd : dsts ops (i :: is) = o.dst :: dsts ops is := by simp [dsts, ho]
      rw [hd] at h
      exact h

theorem wpAny_offs {P : Program} {md : Region.Mode} {ops : Array Oper} {Q : Exit → Act → World → Prop} (is : List Nat) (fuel : Nat) (ds : List (Option Nat)) (listed' : Array Bool) {n : Nat} {listed : Array Bool} {a : Act} {w : World}
    (hn : fuel + is.length = n) (hs : Region.noSelect ops = true) (hc : offOK md ops is listed a = true) (hQ : ∀ (d : Nat) c a w, Q (.panic c) (Act.put a (some d) undef) w → Q (.panic c) a w)
    (hl : is.foldl (fun l i => l.setIfInBounds i true) listed = listed') (hd : dsts ops is = ds)
    (h : wpAny P md ops Q fuel listed' (ds.foldl (fun a d => a.put d undef) a) w) : wpAny P md ops Q n listed a w := by
  subst hn
  subst hl
  subst hd
  exact wpAny_offs0 hs hQ is hc h

end Go.Proofs.Ytmbmejobffpaoaa
