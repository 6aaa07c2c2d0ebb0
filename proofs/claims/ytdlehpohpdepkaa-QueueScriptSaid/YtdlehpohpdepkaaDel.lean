/- Deleting one element in place: laws on the cells of a known block, on append where there is room, on clear. No program is named. -/
import Derived.Test.YtdlehpohpdepkaaApp
import Derived.Lib.SliceRun
namespace Go.Proofs.Ytdlehpohpdepkaa
open Go.RowKit
set_option linter.unusedVariables false
set_option linter.unusedSimpArgs false

theorem Blk.setCells {b : Nat} {t : TypeId} : ∀ (vs : List Value) {w : World} {cs : Array Value} (o : Nat), Blk w b t cs → o + vs.length ≤ cs.size →
    ∃ cs', Blk (w.setCells b o vs) b t cs' ∧ cs'.size = cs.size ∧ ∀ j, cs'[j]? = if o ≤ j ∧ j < o + vs.length then vs[j - o]? else cs[j]?
  | [], w, cs, o, h, _ => ⟨cs, h, rfl, fun j => by simp; intro h1 h2; omega⟩
  | v :: r, w, cs, o, h, hl => by
    simp only [List.length_cons] at hl
    obtain ⟨cs', h1, h2, h3⟩ := Blk.setCells r (o + 1) (h.set_ o v) (by simp; omega)
    refine ⟨cs', h1, by rw [h2]; simp, fun j => ?_⟩
    rw [h3 j]
    simp only [List.length_cons]
    by_cases hj : j = o
    · subst hj
      rw [if_neg (by omega), if_pos (by omega)]
      simp [show j < cs.size from by omega]
    · by_cases hj2 : o + 1 ≤ j ∧ j < o + 1 + r.length
      · rw [if_pos hj2, if_pos (by omega), show j - o = (j - (o + 1)) + 1 from by omega]
        simp
      · rw [if_neg hj2, if_neg (by omega)]
        simp [Array.getElem?_setIfInBounds, Ne.symm hj]
theorem Chg.setCells {S : List Nat} {a : World} {b : Nat} (hb : b ∈ S ∨ a.heap.size ≤ b) : ∀ (vs : List Value) {w : World} (o : Nat), Chg S a w → Chg S a (w.setCells b o vs)
  | [], w, o, h => h
  | v :: r, w, o, h => Chg.setCells hb r (o + 1) (h.setCell (p := ⟨b, o, none⟩) hb v)
@[simp, go_sem] theorem setCells_drewN (w : World) (k b : Nat) : ∀ (vs : List Value) (o : Nat), (w.drewN k).setCells b o vs = (w.setCells b o vs).drewN k
  | [], _ => rfl
  | v :: r, o => by
    show ((w.drewN k).setCell ⟨b, o, none⟩ v).setCells b (o + 1) r = _
    rw [setCell_drewN, setCells_drewN (w.setCell ⟨b, o, none⟩ v) k b r (o + 1)]
    rfl
@[simp, go_sem] theorem setCells_drew (w : World) (b : Nat) (vs : List Value) (o : Nat) : w.drew.setCells b o vs = (w.setCells b o vs).drew := setCells_drewN w 1 b vs o

/-- append where there is room, the sum as a letter. -/
theorem step_room {P : Program} {ops : Array Oper} {o : Oper} {a : Act} {w : World} {K : Act → World → Prop} {Q : Exit → Act → World → Prop} {E : Prop} {t e : TypeId} {z : Value} {size bytes : Nat}
    (ht : P.underlying t = some (.slice e)) (hinfo : (P.info? e).map (fun i => (i.zero, i.size, i.bytes)) = some (some z, size, bytes)) (s x : Operand)
    {g n cap m c N : Nat} {A : Option Addr} {B : Nat} {news : List Value} {cs : Array Value} (hN : n + m = N) (h1 : ∀ u ∈ news, u.oneCell' = true) (hb : Blk w g e cs) (hcs : cs.size = cap * size) (hroom : N ≤ cap)
    (hr : Reads w B size A m news) (hgd : o.guard = none) (hop : o.op = .call { callee := .builtin .append, args := #[s, x], argTypes := #[t, t] })
    (hs : a.eval s = .slice (some ⟨g, 0, none⟩) n cap) (hx : a.eval x = .slice A m c) (hm : 0 < m ∨ ∃ ad, A = some ad)
    (hK : K (a.put o.dst (.slice (some ⟨g, 0, none⟩) N cap)) (w.setCells g (n * size) news)) :
    if Region.wanted o (yielded ops a.tmps) = true then Oper.wp P o a w K Q else E := by
  obtain ⟨i, hi, hzz⟩ := Option.map_eq_some_iff.1 hinfo
  simp only [Prod.mk.injEq] at hzz
  obtain ⟨hz, hs1, hby⟩ := hzz
  subst hN
  obtain ⟨ad, hA⟩ : ∃ ad, A = some ad := by
    rcases hm with hm | hm
    · obtain ⟨ad, h, _⟩ := hr.2 hm
      exact ⟨ad, h⟩
    · exact hm
  subst hA
  have hc : ∀ j u, news[j]? = some u → w.cell? (ad.add j) = some u := by
    intro j u hu
    rcases Nat.eq_zero_or_pos m with h0 | h0
    · subst h0
      have hn : news = [] := List.eq_nil_of_length_eq_zero (by simpa using hr.1)
      subst hn
      simp at hu
    · obtain ⟨ad', h, _, hc⟩ := hr.2 h0
      injection h with h
      subst h
      exact hc j u hu
  have hlen : n * size + news.length ≤ cs.size := by
    rw [hr.1, hcs, ← Nat.add_mul]
    exact Nat.mul_le_mul_right _ hroom
  refine step_append_room hgd s x t hop e i size ht hi hs1 g 0 n cap hs ad m c news hx hr.1 hc h1 hroom (fun j hj => ?_) (by rw [Nat.zero_add]; exact hK)
  rw [Nat.zero_add]
  exact ⟨by rw [hb.cell, Array.getElem?_eq_getElem (by omega)]; rfl, hb.frozen _⟩

/-- clear of one element. -/
theorem run_clear_one {P : Program} (w : World) (t e ty : TypeId) (z : Value) (ht : P.underlying t = some (.slice e)) (hv : ∀ w, (zeroValue e).run P w = .ok z w) (h1 : ∀ u ∈ z.cells.toList, u.oneCell' = true) (b o c : Nat)
    (hc : ∀ j, j < z.cells.size → (w.cell? ⟨b, o + j, none⟩).isSome = true) (hf : ∀ j, j < z.cells.size → w.frozen? ⟨b, o + j, none⟩ = false) :
    (Builtin.clear_ #[t] ty #[.slice (some ⟨b, o, none⟩) 1 c]).run P w = .ok (.tuple #[]) (w.setCells b o z.cells.toList) := by
  have hzc : (Builtin.zeroCells z.cells 1).toList = z.cells.toList := by
    simp [Builtin.zeroCells]
    apply List.ext_getElem
    · simp
    · intro i h1 h2
      simp at h1
      simp [Nat.mod_eq_of_lt h1, h1]
  have hst := run_storeCells_cells (P := P) b o z.cells.toList 0 w (by simpa using hc) (by simpa using hf) h1
  simp only [Nat.add_zero] at hst
  simp [Builtin.clear_, run_underlying ht, hv, hzc, hst]

/-- clear of one element, at a plain region's list. -/
theorem list_clear {P : Program} {ops : Array Oper} {rest : List Oper} {o : Oper} {a : Act} {Q : Exit → Act → World → Prop} {w : World} {t e : TypeId} {z : Value} {b off c : Nat} {cs : Array Value} (x : Operand)
    (ht : P.underlying t = some (.slice e)) (hv : ∀ w, (zeroValue e).run P w = .ok z w) (h1 : ∀ u ∈ z.cells.toList, u.oneCell' = true)
    (hb : Blk w b e cs) (hl : off + z.cells.size ≤ cs.size) (hgd : o.guard = none) (ho : o.op = .call { callee := .builtin .clear, args := #[x], argTypes := #[t] })
    (hx : a.eval x = .slice (some ⟨b, off, none⟩) 1 c) (h : wpList P ops Q rest (a.put o.dst (.tuple #[])) (w.setCells b off z.cells.toList)) : wpList P ops Q (o :: rest) a w := by
  refine wpList_plain hgd fun K hK => ?_
  have hrun := run_clear_one (P := P) w t e o.type z ht hv h1 b off c (fun j hj => by rw [hb.cell, Array.getElem?_eq_getElem (by omega)]; rfl) (fun j hj => hb.frozen _)
  unfold Oper.wp
  simp [execOp, ho, resolve, invoke, builtin, hx, hrun, Result.andThen]
  exact hK _ _ h

end Go.Proofs.Ytdlehpohpdepkaa
