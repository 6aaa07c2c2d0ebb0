/- The receiver, in plain words: what is released is in order; the program is awake; Has. -/
import Derived.Test.YtgkdlplocahnnaaRh
import Derived.Test.YtgkdlplocahnnaaEq
namespace Go.Proofs.Ytgkdlplocahnnaa
open Go.RowKit Go.Maps
set_option linter.unusedVariables false
set_option linter.unusedSimpArgs false

theorem Rls.det {x : Int} {H : Int → Option Int} {o : List Int} {x1 x2 : Int} {H1 H2 : Int → Option Int} {o1 o2 : List Int} (h : Rls x H o x1 H1 o1) (h2 : Rls x H o x2 H2 o2) : x1 = x2 ∧ H1 = H2 ∧ o1 = o2 := by
  induction h with
  | stop hn =>
    cases h2 with
    | stop _ => exact ⟨rfl, rfl, rfl⟩
    | go hs _ => rw [hn] at hs; cases hs
  | go hs _ ih =>
    cases h2 with
    | stop hn => rw [hn] at hs; cases hs
    | go hs2 h2 =>
      rw [hs] at hs2
      injection hs2 with hs2
      subst hs2
      exact ih h2
theorem Skp.det {b x : Int} {H : Int → Option Int} {o : List Int} {x1 x2 : Int} {H1 H2 : Int → Option Int} {o1 o2 : List Int} (h : Skp b x H o x1 H1 o1) (h2 : Skp b x H o x2 H2 o2) : x1 = x2 ∧ H1 = H2 ∧ o1 = o2 := by
  induction h with
  | stop hn =>
    cases h2 with
    | stop _ => exact ⟨rfl, rfl, rfl⟩
    | go hs _ => rw [hn] at hs; cases hs
  | go hs _ ih =>
    cases h2 with
    | stop hn => rw [hn] at hs; cases hs
    | go hs2 h2 => exact ih h2

/-- What is held: number k bears id k + 1, from x on and below U. -/
def HInv (x U : Int) (H : Int → Option Int) : Prop := ∀ k v, H k = some v → v = k + 1 ∧ x ≤ k ∧ k < U
/-- In strictly rising order, above l and up to u. -/
def Asc : Int → List Int → Int → Prop
  | l, [], u => l ≤ u
  | l, a :: r, u => l < a ∧ Asc a r u
theorem Asc.mono : ∀ {o : List Int} {l u u' : Int}, Asc l o u → u ≤ u' → Asc l o u'
  | [], l, u, u', h, hu => by unfold Asc at *; omega
  | a :: r, l, u, u', h, hu => ⟨h.1, h.2.mono hu⟩
theorem Asc.snoc : ∀ {o : List Int} {l u a : Int}, Asc l o u → u < a → Asc l (o ++ [a]) a
  | [], l, u, a, h, hu => by unfold Asc at h; exact ⟨by omega, by unfold Asc; omega⟩
  | b :: r, l, u, a, h, hu => ⟨h.1, h.2.snoc hu⟩
theorem Asc.le : ∀ {o : List Int} {l u : Int}, Asc l o u → l ≤ u
  | [], l, u, h => h
  | a :: r, l, u, h => by have := h.2.le; have := h.1; omega
theorem Asc.mem : ∀ {o : List Int} {l u a : Int}, Asc l o u → a ∈ o → a ≤ u
  | b :: r, l, u, a, h, hm => by
    rcases List.mem_cons.1 hm with rfl | hm
    · exact h.2.le
    · exact h.2.mem hm

theorem HInv.del {x U : Int} {H : Int → Option Int} (h : HInv x U H) : HInv (x + 1) U (mDel H x) := by
  intro k v hk
  by_cases e : k = x
  · subst e; rw [mDel_same] at hk; cases hk
  · rw [mDel_other H e] at hk
    have := h k v hk
    omega
theorem HInv.put {x U s : Int} {H : Int → Option Int} (h : HInv x U H) (h1 : x ≤ s) (h2 : s < U) : HInv x U (mPut H s (s + 1)) := by
  intro k v hk
  by_cases e : k = s
  · subst e
    rw [mPut_same] at hk
    injection hk with hk
    omega
  · rw [mPut_other H e] at hk
    exact h k v hk

theorem bef_small {x b : Int} (hx : 0 ≤ x ∧ x ≤ 1000) (hb : 0 ≤ b ∧ b ≤ 1000) : befB x b = decide (x < b) := by
  unfold befB dst
  exact decide_eq_decide.2 (by omega)

theorem skp_ord {b x U l : Int} {H : Int → Option Int} {o : List Int} {x1 : Int} {H1 : Int → Option Int} {o1 : List Int} (h : Skp b x H o x1 H1 o1) (hx : 0 ≤ x ∧ x ≤ 1000) (hb : 0 ≤ b ∧ b ≤ 1000) (hI : HInv x U H) (hA : Asc l o x) :
    (x ≤ x1 ∧ b ≤ x1 ∧ x1 ≤ max x b) ∧ HInv x1 U H1 ∧ Asc l o1 x1 := by
  induction h with
  | stop hs =>
    rw [bef_small hx hb] at hs
    have := of_decide_eq_false hs
    exact ⟨by omega, hI, hA⟩
  | @go x x' H H' o o' hs hr ih =>
    rw [bef_small hx hb] at hs
    have hlt := of_decide_eq_true hs
    have e : (x + 1) % 65536 = x + 1 := by omega
    rw [e] at ih
    have hA' : Asc l (o ++ (H x).toList) (x + 1) := by
      cases hh : H x with
      | none => simpa using hA.mono (by omega)
      | some v =>
        have := (hI x v hh).1
        subst this
        exact hA.snoc (by omega)
    obtain ⟨⟨a1, a2, a3⟩, a4, a5⟩ := ih (by omega) hI.del hA'
    exact ⟨by omega, a4, a5⟩

theorem rls_ord {x U l : Int} {H : Int → Option Int} {o : List Int} {x1 : Int} {H1 : Int → Option Int} {o1 : List Int} (h : Rls x H o x1 H1 o1) (hx : 0 ≤ x) (hU : U ≤ 1000) (hI : HInv x U H) (hA : Asc l o x) :
    (x ≤ x1 ∧ x1 ≤ max x U) ∧ HInv x1 U H1 ∧ Asc l o1 x1 := by
  induction h with
  | stop hs => exact ⟨by omega, hI, hA⟩
  | @go x v x' H H' o o' hs hr ih =>
    have hv := hI x v hs
    have e : (x + 1) % 65536 = x + 1 := by omega
    rw [e] at ih
    obtain ⟨rfl, _, hxU⟩ := hv
    obtain ⟨⟨a1, a2⟩, a4, a5⟩ := ih (by omega) hI.del (hA.snoc (by omega))
    exact ⟨by omega, a4, a5⟩

/-- One packet of the statement. -/
theorem rcv_ord {b x wd s l x1 x2 : Int} {H H1 H2 : Int → Option Int} {o1 o2 : List Int} (hS : Skp b x H [] x1 H1 o1) (hR : Rls x1 (stH H1 x1 s (s + 1)) o1 x2 H2 o2) (hx : 0 ≤ x ∧ x ≤ 1000) (hb : 0 ≤ b ∧ b ≤ 900) (hw : 1 ≤ wd ∧ wd ≤ 64) (hs : b ≤ s ∧ s < b + wd) (hI : HInv x (b + wd) H) (hl : l ≤ x) (hxb : x ≤ b + wd) :
    (b ≤ x2 ∧ x2 ≤ b + wd) ∧ HInv x2 (b + wd) H2 ∧ Asc l o2 x2 := by
  obtain ⟨⟨a1, a2, a3⟩, a4, a5⟩ := skp_ord hS hx (by omega) hI (show Asc l [] x from hl)
  have hst : HInv x1 (b + wd) (stH H1 x1 s (s + 1)) := by
    unfold stH
    split
    · exact a4
    · rename_i hn
      simp only [not_or] at hn
      have : ¬ s < x1 := by
        have h2 := hn.2
        rw [bef_small (by omega) (by omega)] at h2
        simpa using h2
      exact a4.put (by omega) (by omega)
  obtain ⟨⟨c1, c2⟩, c3, c4⟩ := rls_ord hR (by omega) (by omega) hst a5
  exact ⟨by omega, c3, c4⟩

theorem mv_small {x wd b : Int} (hx : 0 ≤ x ∧ x ≤ 1000) (hb : 0 ≤ b ∧ b ≤ 1000) (hw : 1 ≤ wd) (h : x - b ≤ wd) : mvE x wd b = 0 := by
  unfold mvE
  rw [if_pos (show seqP b from by unfold seqP; omega), if_neg]
  unfold dst
  omega
theorem ins_small {b wd s : Int} (hb : 0 ≤ b ∧ b ≤ 1000) (hs : b ≤ s ∧ s < b + wd) (hw : wd ≤ 64) : insB b wd s = true := by
  unfold insB seqP dst
  exact decide_eq_true (by omega)

theorem hmem_at {L : List Int} {k : Nat} {x : Int} (hk : k < L.length) (h : L[k] = x) : decide (x ∈ L) = true := by
  subst h; simp
theorem hmem_none {L : List Int} {x : Int} (h : ∀ j (hj : j < L.length), L[j] ≠ x) : decide (x ∈ L) = false := by
  refine decide_eq_false fun hm => ?_
  obtain ⟨j, hj, he⟩ := List.getElem_of_mem hm
  exact h j hj he
theorem hgetD_get {L : List Int} {k : Nat} (hk : k < L.length) : L.getD k 0 = L[k] := by simp [hk]

set_option maxHeartbeats 1000000 in
theorem has_int {w : World} {g n d : Nat} {a : Option Addr} {rd : List Int} (hn : rd.length = n) (h : Rd w g a rd) (x : Int) :
    Calls Try.prog 13 #[.slice a n d, .int .i64 x] w fun e w' => e = .returned (.bool (decide (x ∈ rd))) ∧ ∃ m, w' = w.drewN m := by
  have hn6 := h.1
  rw [hn] at hn6
  have HN := Lib.hid hn
  have HH := Lib.hid h
  clear hn h
  go_enter Try.func13, Try.ntmps13
  go_wp2
  go_loopw [5] (fun i wr => ∃ k m : Nat, k ≤ n ∧ i = .int .i64 k ∧ wr = w.drewN m ∧ ∀ j (hj : j < rd.length), j < k → rd[j] ≠ x) (fun i _ => n - (intOf i).toNat)
  case atStart => exact ⟨0, 0, Nat.zero_le _, rfl, rfl, fun j _ hj => absurd hj (by omega)⟩
  case round =>
    obtain ⟨k, m, hk, rfl, rfl, hP⟩ := hrel
    have HP := Lib.hid hP
    clear hP
    by_cases hlt : k < n
    · have hkl : k < rd.length := by have := HN.out; omega
      obtain ⟨off, rfl, c0⟩ := HH.out.2 k hkl
      rw [hgetD_get hkl] at c0
      have HE := Lib.hid (fun hq : rd[k] = x => hmem_at hkl hq)
      have HX := Lib.hid (fun (hq : rd[k] ≠ x) j (hj : j < rd.length) (h1 : j < k + 1) => show rd[j] ≠ x from by
        by_cases h2 : j = k
        · subst h2; exact hq
        · exact HP.out j hj (by omega))
      generalize rd[k] = v at c0 HE HX
      have hI : (k : Int) < (n : Int) := by omega
      have hJ : (0 : Int) ≤ (k : Int) := by omega
      by_cases hq : v = x
      · have HF := Lib.hid (HE.out hq)
        subst hq
        go_wp2_with fail
        go_ret
        exact ⟨ret_bool HF.out.symm, _, by first | rfl | rw [World.drewN_drewN]⟩
      · have hq' : (v == x) = false := by rw [beq_eq_false_iff_ne]; exact hq
        have HF := Lib.hid (HX.out hq)
        clear hq
        go_wp2_with fail
        go_roundw
        case rel => exact ⟨k + 1, _, by omega, by go_num, by first | rfl | rw [World.drewN_drewN], HF.out⟩
        case measure => simp [intOf]; omega
    · have HF := Lib.hid (hmem_none (x := x) (L := rd) (fun j hj => HP.out j hj (by have := HN.out; omega)))
      go_wp2_with fail
      go_ret
      exact ⟨ret_bool HF.out.symm, m, rfl⟩

end Go.Proofs.Ytgkdlplocahnnaa
