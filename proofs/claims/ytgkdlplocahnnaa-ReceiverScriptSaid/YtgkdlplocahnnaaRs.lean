/- The reference's list of what is held, as a function of the program's map. No program is walked here. -/
import Derived.Test.YtgkdlplocahnnaaRp
namespace Go.Proofs.Ytgkdlplocahnnaa
open Go.RowKit Go.Maps
set_option linter.unusedVariables false
set_option linter.unusedSimpArgs false

theorem fmap_congr {α β : Type} {f g : α → Option β} : ∀ {l : List α}, (∀ x ∈ l, f x = g x) → l.filterMap f = l.filterMap g
  | [], _ => rfl
  | a :: l, h => by rw [List.filterMap_cons, List.filterMap_cons, h a (by simp), fmap_congr (l := l) fun x hx => h x (by simp [hx])]

/-- The number n steps on. -/
def stp (x : Int) (d : Nat) : Int := (x + d) % 65536
theorem stp_bd (x : Int) (d : Nat) : 0 ≤ stp x d ∧ stp x d < 65536 := by unfold stp; omega
theorem stp_succ (x : Int) (d : Nat) : stp ((x + 1) % 65536) d = stp x (d + 1) := by unfold stp; push_cast; omega
theorem stp_zero {x : Int} (h : 0 ≤ x ∧ x < 65536) : stp x 0 = x := by unfold stp; omega
theorem dst_stp {x : Int} (h : 0 ≤ x ∧ x < 65536) {d : Nat} (hd : d < 65536) : dst x (stp x d) = d := by unfold stp dst; omega
theorem stp_dst {x k : Int} (h : 0 ≤ x ∧ x < 65536) (hk : 0 ≤ k ∧ k < 65536) : stp x (dst x k).toNat = k := by unfold stp dst; omega
theorem stp_inj {x : Int} {a b : Nat} (ha : a < 65536) (hb : b < 65536) (h : stp x a = stp x b) : a = b := by unfold stp at h; omega

/-- What is held lies inside the window. -/
def Bd (x wd : Int) (H : Int → Option Int) : Prop := ∀ k v, H k = some v → (0 ≤ k ∧ k < 65536) ∧ dst x k < wd ∧ 1 ≤ v
def elt (x : Int) (H : Int → Option Int) (d : Nat) : Option Hd := (H (stp x d)).map fun v => ⟨stp x d, v⟩
/-- What is held, in the order of the numbers from x on. -/
def lst (x : Int) (H : Int → Option Int) : List Hd := (List.range 64).filterMap (elt x H)

theorem mDel_elt {x : Int} {H : Int → Option Int} (hx : 0 ≤ x ∧ x < 65536) {d : Nat} (hd : d < 64) : elt ((x + 1) % 65536) (mDel H x) d = elt x H (d + 1) := by
  unfold elt
  rw [stp_succ, mDel_other H (fun e => by unfold stp at e; omega)]

theorem elt_end {x wd : Int} {H : Int → Option Int} (hB : Bd x wd H) (hx : 0 ≤ x ∧ x < 65536) (hw : wd ≤ 64) {d : Nat} (h1 : 64 ≤ d) (h2 : d < 65536) : elt x H d = none := by
  unfold elt
  cases hh : H (stp x d) with
  | none => rfl
  | some v =>
    have := (hB _ v hh).2.1
    rw [dst_stp hx h2] at this
    omega

theorem lst_step {x wd : Int} {H : Int → Option Int} (hB : Bd x wd H) (hx : 0 ≤ x ∧ x < 65536) (hw : wd ≤ 64) : lst x H = ((H x).map fun v => (⟨x, v⟩ : Hd)).toList ++ lst ((x + 1) % 65536) (mDel H x) := by
  have h1 : lst ((x + 1) % 65536) (mDel H x) = (List.range 64).filterMap (fun d => elt x H (d + 1)) := by
    unfold lst
    refine fmap_congr fun d hd => mDel_elt hx (List.mem_range.1 hd)
  have h2 : (List.range 64).filterMap (fun d => elt x H (d + 1)) = (List.range 63).filterMap (fun d => elt x H (d + 1)) := by
    rw [show (64 : Nat) = 63 + 1 from rfl, List.range_succ, List.filterMap_append]
    simp [elt_end hB hx hw (d := 64) (by omega) (by omega)]
  rw [h1, h2]
  unfold lst
  rw [show (64 : Nat) = 63 + 1 from rfl, List.range_succ_eq_map, List.filterMap_cons, List.filterMap_map]
  have h3 : elt x H 0 = (H x).map fun v => (⟨x, v⟩ : Hd) := by unfold elt; rw [stp_zero hx]
  rw [h3]
  cases H x <;> rfl

theorem lst_le (x : Int) (H : Int → Option Int) : (lst x H).length ≤ 64 := by
  have := List.length_filterMap_le (elt x H) (List.range 64)
  unfold lst
  simpa using this

theorem mem_lst {x wd : Int} {H : Int → Option Int} (hB : Bd x wd H) (hx : 0 ≤ x ∧ x < 65536) (hw : wd ≤ 64) (p : Hd) : p ∈ lst x H ↔ H p.q = some p.i := by
  unfold lst
  rw [List.mem_filterMap]
  constructor
  · rintro ⟨d, hd, he⟩
    unfold elt at he
    cases hh : H (stp x d) with
    | none => rw [hh] at he; cases he
    | some v => rw [hh] at he; injection he with he; subst he; exact hh
  · intro h
    obtain ⟨h1, h2, h3⟩ := hB _ _ h
    have hd := dst_bd x p.q
    refine ⟨(dst x p.q).toNat, List.mem_range.2 (by omega), ?_⟩
    unfold elt
    rw [stp_dst hx h1, h]
    rfl

theorem Bd.del {x wd : Int} {H : Int → Option Int} (hB : Bd x wd H) (hx : 0 ≤ x ∧ x < 65536) : Bd ((x + 1) % 65536) wd (mDel H x) := by
  intro k v hk
  by_cases e : k = x
  · subst e; rw [mDel_same] at hk; cases hk
  · rw [mDel_other H e] at hk
    obtain ⟨h1, h2, h3⟩ := hB k v hk
    refine ⟨h1, ?_, h3⟩
    unfold dst at *
    omega
theorem Bd.put {x wd s v : Int} {H : Int → Option Int} (hB : Bd x wd H) (hs : 0 ≤ s ∧ s < 65536) (hd : dst x s < wd) (hv : 1 ≤ v) : Bd x wd (mPut H s v) := by
  intro k u hk
  by_cases e : k = s
  · subst e; rw [mPut_same] at hk; injection hk with hk; subst hk; exact ⟨hs, hd, hv⟩
  · rw [mPut_other H e] at hk; exact hB k u hk

/-- A number that was not held comes between those before it and those behind it. -/
theorem lst_put {x wd s v : Int} {H : Int → Option Int} (hB : Bd x wd H) (hx : 0 ≤ x ∧ x < 65536) (hw : wd ≤ 64) (hs : 0 ≤ s ∧ s < 65536) (hd : dst x s < wd) (hn : H s = none) :
    ∃ L1 L2, lst x H = L1 ++ L2 ∧ lst x (mPut H s v) = L1 ++ ⟨s, v⟩ :: L2 ∧ (∀ p ∈ L1, dst x p.q < dst x s) ∧ (∀ p ∈ L2, dst x s < dst x p.q) := by
  have hdb := dst_bd x s
  obtain ⟨d, hde⟩ : ∃ d : Nat, (d : Int) = dst x s := ⟨(dst x s).toNat, by omega⟩
  have hd64 : d < 64 := by omega
  have hsd : stp x d = s := by have := stp_dst hx hs; rwa [show (dst x s).toNat = d from by omega] at this
  have hsp : List.range 64 = List.range d ++ d :: (List.range (63 - d)).map (fun j => d + 1 + j) := by
    rw [show (64 : Nat) = d + (1 + (63 - d)) from by omega, List.range_add, Nat.add_comm 1, List.range_succ_eq_map]
    simp [Function.comp_def, Nat.add_assoc, Nat.add_comm 1]
  have hoth : ∀ j, j < 64 → j ≠ d → elt x (mPut H s v) j = elt x H j := fun j hj hjd => by
    unfold elt
    rw [mPut_other H (fun e => hjd (stp_inj (x := x) (by omega) (by omega) (e.trans hsd.symm)))]
  have hE : elt x H d = none := by unfold elt; rw [hsd, hn]; rfl
  have hE' : elt x (mPut H s v) d = some ⟨s, v⟩ := by unfold elt; rw [hsd, mPut_same]; rfl
  refine ⟨(List.range d).filterMap (elt x H), ((List.range (63 - d)).map (fun j => d + 1 + j)).filterMap (elt x H), ?_, ?_, ?_, ?_⟩
  · unfold lst
    rw [hsp, List.filterMap_append, List.filterMap_cons, hE]
  · unfold lst
    rw [hsp, List.filterMap_append, List.filterMap_cons, hE']
    simp only
    congr 1
    · exact fmap_congr fun j hj => hoth j (by have := List.mem_range.1 hj; omega) (by have := List.mem_range.1 hj; omega)
    · congr 1
      refine fmap_congr fun j hj => ?_
      obtain ⟨i, hi, rfl⟩ := List.mem_map.1 hj
      have := List.mem_range.1 hi
      exact hoth _ (by omega) (by omega)
  · intro p hp
    obtain ⟨j, hj, he⟩ := List.mem_filterMap.1 hp
    have hj := List.mem_range.1 hj
    unfold elt at he
    cases hh : H (stp x j) with
    | none => rw [hh] at he; cases he
    | some u =>
      rw [hh] at he
      injection he with he
      subst he
      show dst x (stp x j) < _
      rw [dst_stp hx (by omega)]
      omega
  · intro p hp
    obtain ⟨j, hj, he⟩ := List.mem_filterMap.1 hp
    obtain ⟨i, hi, rfl⟩ := List.mem_map.1 hj
    have hi := List.mem_range.1 hi
    unfold elt at he
    cases hh : H (stp x (d + 1 + i)) with
    | none => rw [hh] at he; cases he
    | some u =>
      rw [hh] at he
      injection he with he
      subst he
      show _ < dst x (stp x (d + 1 + i))
      rw [dst_stp hx (by omega)]
      omega

/-- Both moves keep the bound. -/
theorem skp_bd {b x wd : Int} {H : Int → Option Int} {o : List Int} {x1 : Int} {H1 : Int → Option Int} {o1 : List Int} (h : Skp b x H o x1 H1 o1) (hx : 0 ≤ x ∧ x < 65536) (hB : Bd x wd H) : Bd x1 wd H1 ∧ (0 ≤ x1 ∧ x1 < 65536) := by
  induction h with
  | stop _ => exact ⟨hB, hx⟩
  | go _ _ ih => exact ih (by omega) (hB.del hx)
theorem rls_bd {x wd : Int} {H : Int → Option Int} {o : List Int} {x1 : Int} {H1 : Int → Option Int} {o1 : List Int} (h : Rls x H o x1 H1 o1) (hx : 0 ≤ x ∧ x < 65536) (hB : Bd x wd H) : Bd x1 wd H1 ∧ (0 ≤ x1 ∧ x1 < 65536) := by
  induction h with
  | stop _ => exact ⟨hB, hx⟩
  | go _ _ ih => exact ih (by omega) (hB.del hx)

/-- Where skip stops: at the base, if that was ahead, else where it began. -/
theorem skp_end {b x : Int} {H : Int → Option Int} {o : List Int} {x1 : Int} {H1 : Int → Option Int} {o1 : List Int} (h : Skp b x H o x1 H1 o1) (hx : 0 ≤ x ∧ x < 65536) (hb : 0 ≤ b ∧ b < 65536) : x1 = if befB x b = true then b else x := by
  induction h with
  | stop hs => rw [hs]; rfl
  | @go x x' H H' o o' hs hr ih =>
    rw [hs, if_pos rfl, ih (by omega)]
    unfold befB at hs ⊢
    have hs := of_decide_eq_true hs
    by_cases e : dst x b = 1
    · rw [if_neg]
      · unfold dst at e; omega
      · intro h
        have := of_decide_eq_true h
        unfold dst at *
        omega
    · rw [if_pos]
      refine decide_eq_true ?_
      unfold dst at *
      omega

/-- A number inside the window of an accepted base lies inside the receiver's, or before it. -/
theorem ins_dst {b x wd s : Int} (hx : 0 ≤ x ∧ x < 65536) (hw : 1 ≤ wd ∧ wd ≤ 64) (hm : mvE x wd b = 0) (hi : insB b wd s = true) (hn : befB s (if befB x b = true then b else x) = false) : dst (if befB x b = true then b else x) s < wd := by
  unfold insB at hi
  obtain ⟨h1, h2, h3⟩ := of_decide_eq_true hi
  unfold mvE at hm
  rw [if_pos h1] at hm
  have hm : ¬ (32768 ≤ dst x b ∧ wd < 65536 - dst x b) := by
    intro h; rw [if_pos h] at hm; cases hm
  unfold seqP at h1 h2
  by_cases hb : befB x b = true
  · rw [if_pos hb]; exact h3
  · rw [if_neg hb] at hn ⊢
    have hn := of_decide_eq_false hn
    have hb' : ¬ (0 ≤ x ∧ x < 65536 ∧ 0 ≤ b ∧ b < 65536 ∧ 1 ≤ dst x b ∧ dst x b < 32768) := fun h => hb (decide_eq_true h)
    have hn : ¬ (0 ≤ s ∧ s < 65536 ∧ 0 ≤ x ∧ x < 65536 ∧ 1 ≤ dst s x ∧ dst s x < 32768) := hn
    unfold dst at *
    omega

end Go.Proofs.Ytgkdlplocahnnaa
