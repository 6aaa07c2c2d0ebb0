/- The reference's round: Join, Leave, Charge where they are taken. -/
import Derived.Test.YtmbmejobffpaoaaDr
namespace Go.Proofs.Ytmbmejobffpaoaa
open Go.RowKit
set_option linter.unusedVariables false
set_option linter.unusedSimpArgs false

theorem DR.put {w W : World} {B s : Nat} {O : List Nat} {q now : Int} {L L' : List Sd} {A : Option Addr} {n c : Nat} (h : DR w B s O q L now) (hB : B ≤ w.heap.size) (hc : Chg [] w W)
    (hown : W.ownsRow w.heap.size 66 4 (.slice A n c) n (L'.flatMap sdC)) :
    DR (W.setCell ⟨s, 1, none⟩ (.slice A n c)) B s (ownL (.slice A n c)) q L' now ∧ (∀ j ∈ ownL (.slice A n c), w.heap.size ≤ j) ∧ Chg [s] w (W.setCell ⟨s, 1, none⟩ (.slice A n c)) := by
  obtain ⟨A0, c0, h9, h10, h11⟩ := h.row
  have h9' := h9.chg hc (by simp)
  have hk : n = L'.length := ((own_row sdCells (by omega) hown).1).symm
  subst hk
  have hqn := ownL_blk hown h9' (by decide)
  have hol := ownL_lt hown
  have hst : Chg [s] W (W.setCell ⟨s, 1, none⟩ (.slice A L'.length c)) := (Chg.refl [s] W).setCell (by simp) _
  refine ⟨⟨h.Bs, hqn, fun j hj => ⟨Nat.le_trans hB (hol j hj).1, by have := (hol j hj).2; simpa [World.setCell] using this⟩, A, c, ?_, own_base (own_chg hown hst (fun g hg => by simp; rintro rfl; exact hqn (mem_ownL.2 hg))) hB, fun j hj => hj⟩, fun j hj => (hol j hj).1, (hc.mono (by simp)).setCell (by simp) _⟩
  have := h9'.set_ 1 (.slice A L'.length c)
  simpa only [List.setIfInBounds_toArray, List.set_cons_succ, List.set_cons_zero] using this
theorem DR.setnow {w : World} {B s : Nat} {O : List Nat} {q now now' : Int} {L : List Sd} (h : DR w B s O q L now) : DR (w.setCell ⟨s, 2, none⟩ (.int .i64 now')) B s O q L now' := by
  obtain ⟨A, c, h9, h10, h11⟩ := h.row
  have hqn := ownL_blk h10 h9 (by decide)
  have hst : Chg [s] w (w.setCell ⟨s, 2, none⟩ (.int .i64 now')) := (Chg.refl [s] w).setCell (by simp) _
  refine ⟨h.Bs, h.sO, fun j hj => ⟨(h.BO j hj).1, by have := (h.BO j hj).2; simpa [World.setCell] using this⟩, A, c, ?_, own_chg h10 hst (fun g hg => by simp; rintro rfl; exact hqn (mem_ownL.2 hg)), h11⟩
  have := h9.set_ 2 (.int .i64 now')
  simpa only [List.setIfInBounds_toArray, List.set_cons_succ, List.set_cons_zero] using this

/-- As step_app, the frame's facts ahead. -/
theorem step_app2 {P : Program} {ops : Array Oper} {o : Oper} {a : Act} {K : Act → World → Prop} {Q : Exit → Act → World → Prop} {E : Prop} {t e : TypeId} {z : Value} {size bytes : Nat}
    (ht : P.underlying t = some (.slice e)) (hinfo : (P.info? e).map (fun i => (i.zero, i.size, i.bytes)) = some (some z, size, bytes)) (hzs : z.cells.size = size) (hsz : 0 < size)
    (s x : Operand) (base : Nat) {w : World} {v : Value} {n : Nat} {xs : List Value} {B : Nat} {A : Option Addr} {m c : Nat} {news : List Value} {N : Nat} (hN : n + m = N)
    (h63 : n + m ≤ 1000000) (h1 : ∀ u ∈ news, u.oneCell' = true) (hby : bytes ≤ 1000)
    (hgd : o.guard = none) (ho : o.op = .call { callee := .builtin .append, args := #[s, x], argTypes := #[t, t] })
    (hs : a.eval s = v) (hx : a.eval x = .slice A m c)
    (hown : w.ownsRow base e size v n xs) (hr : Reads w B size A m news) (hbase : base ≤ w.heap.size)
    (h : ∀ A' c' w', w'.ownsRow base e size (.slice A' N c') N (xs ++ news) → w.grownBy w' v.ownBlock → ((Value.slice A' N c').ownBlock = v.ownBlock ∨ (Value.slice A' N c').ownBlock = some w.heap.size) → K (a.put o.dst (.slice A' N c')) w') :
    if Region.wanted o (yielded ops a.tmps) = true then Oper.wp P o a w K Q else E :=
  step_app ht hinfo hzs hsz s x base hN h63 h1 hby hown hr hbase hgd ho hs hx h

theorem own_mt {w : World} {g : Nat} {e : TypeId} {size base : Nat} (hb : Blk w g e #[]) (hg : base ≤ g) : w.ownsRow base e size (.slice (some ⟨g, 0, none⟩) 0 0) 0 [] :=
  ⟨by simp, .inr ⟨g, 0, #[], rfl, hg, hb, Nat.le_refl _, by unfold maxLen; omega, by simp, by simp⟩⟩
theorem Blk.new2 {w : World} {g : Nat} {t : TypeId} {cs : Array Value} (h : g = w.heap.size) : Blk (w.alloc (.cells cs t)) g t cs := by
  subst h
  exact Blk.new _ _ _
theorem reads_blk {w : World} {g : Nat} {t : TypeId} {cs : Array Value} {size : Nat} (h : Blk w g t cs) (hs : cs.size = size) : Reads w w.heap.size size (some ⟨g, 0, none⟩) 1 cs.toList := by
  refine ⟨by simp [hs], fun _ => ⟨_, rfl, h.lt, fun j u hu => ?_⟩⟩
  have hadd : (⟨g, 0, none⟩ : Addr).add j = ⟨g, j, none⟩ := by
    unfold Addr.add
    split
    · subst_vars; rfl
    · simp
  rw [hadd, h.cell, ← Array.getElem?_toList]
  exact hu
theorem reads_chg {w W : World} {B size n : Nat} {A : Option Addr} {xs : List Value} (h : Reads w B size A n xs) (hc : Chg [] w W) (hB : B ≤ w.heap.size) : Reads W B size A n xs :=
  h.keep fun p hp => hc.cell (by omega) (by simp)
theorem sd_one (s : Sd) : ∀ u ∈ sdC s, u.oneCell' = true := sdCells.one s

theorem DR.lit1 {n : Sd} {L : List Sd} : ([] ++ L.flatMap sdC) ++ sdC n = (L ++ [n]).flatMap sdC := by simp

end Go.Proofs.Ytmbmejobffpaoaa
