/- The statement DeficitScript: the ready stations that it draws. -/
import Derived.Test.YtmbmejobffpaoaaDk
namespace Go.Proofs.Ytmbmejobffpaoaa
open Go.RowKit
set_option linter.unusedVariables false
set_option linter.unusedSimpArgs false

def RdyPost (w : World) (B c : Nat) (zs : List Int) (p : Nat) (e : Ending) (w' : World) : Prop := ∃ (A : Option Addr) (d g : Nat) (rd : List Int), e = .returned (.slice A rd.length d) ∧ Rd w' g A rd ∧ w.heap.size ≤ g ∧ (∃ p', Cho w' B c zs p' ∧ p' ≤ p + 6) ∧ Chg [c] w w'

/-- What stands while they are drawn. -/
def RyRel (w wr : World) (B c : Nat) (zs : List Int) (p : Nat) (k : Nat) (v : Value) : Prop := ∃ (A : Option Addr) (d : Nat) (rd : List Int), v = .slice A rd.length d ∧ wr.ownsRow w.heap.size 3 1 (.slice A rd.length d) rd.length (rd.map (Value.int .i64)) ∧ rd.length ≤ k ∧ Cho wr B c zs (p + k) ∧ Chg [c] w wr

theorem ry_end {w W2 : World} {B c p' p : Nat} {zs : List Int} {A2 : Option Addr} {n d2 : Nat} {rd : List Int} {V : World} {v : Value} (hn : rd.length = n) (hl : n ≤ 1000) (hown : W2.ownsRow w.heap.size 3 1 (.slice A2 n d2) n (rd.map (Value.int .i64))) (hC : Cho V B c zs p') (hp : p' ≤ p + 6) (hV : Chg [c] w V)
    (hg : V.grownBy W2 v.ownBlock) (hv : ∀ g, v.ownBlock = some g → w.heap.size ≤ g) (hc : c < w.heap.size) (hB : B ≤ w.heap.size) : RdyPost w B c zs p (.returned (.slice A2 n d2)) W2 := by
  subst hn
  obtain ⟨g, hgg, hR⟩ := own_rd hown (by omega)
  have hk : Chg (ownL v) V W2 := (Chg.refl (ownL v) V).grown hg (fun j hj => .inl (mem_ownL.2 hj))
  exact ⟨A2, d2, g, rd, rfl, hR, hgg, ⟨p', hC.chg hk (fun hm => by have := hv c (mem_ownL.1 hm); omega) (fun j hj => Nat.le_trans hB (hv j (mem_ownL.1 hj))), hp⟩, hV.trans hk (fun j hj => .inr (hv j (mem_ownL.1 hj)))⟩

set_option maxRecDepth 100000 in
set_option maxHeartbeats 4000000 in
theorem ready_c {w : World} {B c p : Nat} {zs : List Int} (hC : Cho w B c zs p) (hB : B ≤ w.heap.size) (hp : p ≤ 100000) :
    Calls Try.prog 31 #[.pointer (some ⟨c, 0, none⟩)] w (RdyPost w B c zs p) := by
  have hcl := hC.lt
  have HS := Lib.hid (show RyRel w w B c zs p 0 (.slice none 0 0) from ⟨none, 0, [], rfl, World.ownsRow_nil _ _ _ _, by simp, hC, Chg.refl _ _⟩)
  clear hC
  go_enter Try.func31, Try.ntmps31
  go_wp2_with fail
  go_loopw [3, 4] (fun v i wr => ∃ k : Nat, k ≤ 5 ∧ i = .int .i64 k ∧ RyRel w wr B c zs p k v) (fun _ i _ => 5 - (intOf i).toNat)
  case atStart => exact ⟨0, by omega, rfl, HS.out⟩
  case round =>
    clear HS
    obtain ⟨k, hk, rfl, A, d, rd, rfl, hown, hlen, hC, hc⟩ := hrel
    by_cases hlt : k < 5
    · have hk5 : (k : Int) < 5 := by omega
      have g0 := nx_nonneg zs (p + k) 3
      have HN := Lib.hid (next_c (n := 3) hC (by omega) (by omega))
      have HOW := Lib.hid hown
      have HC := Lib.hid hc
      generalize nx zs (p + k) 3 = j at HN g0
      clear hC hown hc
      go_wp2_with fail
      refine HN.out.mono ?_
      rintro e v2 ⟨rfl, hC2, hc2⟩
      have ho2 := own_chg HOW.out hc2 (fun g hg => by have := (HOW.out.lt g hg).1; simp; omega)
      have k2 : Chg [c] w v2 := HC.out.trans hc2 (by simp)
      clear hc2 HN HOW
      by_cases hj : 0 < j
      · have HC2 := Lib.hid hC2
        have HK2 := Lib.hid k2
        have hz2 := k2.size
        clear hC2 k2
        go_wp2_with (at_builtin; refine list_app (P := Try.prog) (t := 22) Try.underlying22 int_info rfl (by omega) (.tmp 12) (.tmp 14) w.heap.size (n := rd.length) (m := 1) (N := rd.length + 1) rfl (by omega) (by intro u hu; simp at hu; subst hu; rfl) (by omega) (own_chg ho2 ((Chg.refl [] v2).alloc _) (by simp)) (reads_lit1 v2 3 (.int .i64 (k : Int))) (by simp; omega) (by rfl) (by rfl) (by rfl) (by rfl) ?_; intro A2 d2 W2 hown2 hgrow2 hat2)
        have hlt2 := ho2.lt
        have kW : Chg [] v2 (v2.alloc (.cells #[.int .i64 (k : Int)] 3)) := (Chg.refl [] v2).alloc _
        have kG : Chg (ownL (.slice A rd.length d)) v2 W2 := (kW.mono (S' := ownL (.slice A rd.length d)) (by simp)).grown hgrow2 (fun g hg => .inl (mem_ownL.2 hg))
        have HR := Lib.hid (show RyRel w W2 B c zs p (k + 1) (.slice A2 (rd.length + 1) d2) from ⟨A2, d2, rd ++ [(k : Int)], by simp, by simpa using hown2, by simp; omega, HC2.out.chg kG (fun hm => by have := (hlt2 c (mem_ownL.1 hm)).1; omega) (fun j hj => by have := (hlt2 j (mem_ownL.1 hj)).1; omega), HK2.out.trans kG (fun j hj => .inr (hlt2 j (mem_ownL.1 hj)).1)⟩)
        clear hown2 hgrow2 hat2 kG kW hlt2 ho2
        go_roundw
        case rel => exact ⟨k + 1, by omega, by go_num, HR.out⟩
        case measure => simp [intOf]; omega
      · have hj' : j ≤ 0 := by omega
        have HR := Lib.hid (show RyRel w v2 B c zs p (k + 1) (.slice A rd.length d) from ⟨A, d, rd, rfl, ho2, by omega, hC2, k2⟩)
        clear ho2 hC2 k2
        go_wp2_with fail
        go_roundw
        case rel => exact ⟨k + 1, by omega, by go_num, HR.out⟩
        case measure => simp [intOf]; omega
    · have hk5 : (5 : Int) ≤ (k : Int) := by omega
      have hk5' : k = 5 := by omega
      have g0 := nx_nonneg zs (p + k) 25
      have HN := Lib.hid (next_c (n := 25) hC (by omega) (by omega))
      have HOW := Lib.hid hown
      have HC := Lib.hid hc
      generalize nx zs (p + k) 25 = j at HN g0
      clear hC hown hc
      go_wp2_with fail
      refine HN.out.mono ?_
      rintro e v2 ⟨rfl, hC2, hc2⟩
      have ho2 := own_chg HOW.out hc2 (fun g hg => by have := (HOW.out.lt g hg).1; simp; omega)
      have k2 : Chg [c] w v2 := HC.out.trans hc2 (by simp)
      have hz2 := k2.size
      have hlt2 := ho2.lt
      clear hc2 HN HOW
      have HC2 := Lib.hid hC2
      have HK2 := Lib.hid k2
      clear hC2 k2
      by_cases hj0 : j = 0
      · subst hj0
        go_wp2_with (at_builtin; refine list_app (P := Try.prog) (t := 22) Try.underlying22 int_info rfl (by omega) (.tmp 20) (.tmp 21) w.heap.size (n := rd.length) (m := rd.length) (N := rd.length + rd.length) rfl (by omega) (ints_one rd) (by omega) ho2 (Reads.of_own ho2) (by omega) (by rfl) (by rfl) (by rfl) (by rfl) ?_; intro A2 d2 W2 hown2 hgrow2 hat2)
        go_ret
        exact ry_end (rd := rd ++ rd) (by simp) (by omega) (by simpa using hown2) HC2.out (by omega) HK2.out hgrow2 (fun g hg => (hlt2 g hg).1) hcl hB
      · have hj0' : (j == 0) = false := by rw [beq_eq_false_iff_ne]; exact hj0
        clear hj0
        by_cases hj1 : j = 1
        · subst hj1
          go_wp2_with (at_builtin; refine list_app (P := Try.prog) (t := 22) Try.underlying22 int_info rfl (by omega) (.tmp 25) (.tmp 26) w.heap.size (n := rd.length) (m := 1) (N := rd.length + 1) rfl (by omega) (by intro u hu; simp at hu; subst hu; rfl) (by omega) (own_chg ho2 ((Chg.refl [] v2).alloc _) (by simp)) (reads_lit1 v2 3 (.int .i64 16)) (by simp; omega) (by rfl) (by rfl) (by rfl) (by rfl) ?_; intro A2 d2 W2 hown2 hgrow2 hat2)
          go_ret
          exact ry_end (rd := rd ++ [16]) (by simp) (by omega) (by simpa using hown2) (HC2.out.chg ((Chg.refl [] v2).alloc _) (by simp) (by simp)) (by omega) (HK2.out.alloc _) hgrow2 (fun g hg => (hlt2 g hg).1) hcl hB
        · have hj1' : (j == 1) = false := by rw [beq_eq_false_iff_ne]; exact hj1
          clear hj1
          by_cases hj2 : j = 2
          · subst hj2
            go_wp2_with (at_builtin; refine list_app (P := Try.prog) (t := 22) Try.underlying22 int_info rfl (by omega) (.tmp 30) (.tmp 31) w.heap.size (n := 1) (m := rd.length) (N := 1 + rd.length) rfl (by omega) (ints_one rd) (by omega) (own_lit1 v2 3 w.heap.size hz2 (.int .i64 (-1))) (reads_alloc (Reads.of_own ho2) _) (by simp; omega) (by rfl) (by rfl) (by rfl) (by rfl) ?_; intro A2 d2 W2 hown2 hgrow2 hat2)
            go_ret
            exact ry_end (rd := -1 :: rd) (by simp; omega) (by omega) (by simpa using hown2) (HC2.out.chg ((Chg.refl [] v2).alloc _) (by simp) (by simp)) (by omega) (HK2.out.alloc _) hgrow2 (fun g hg => by simp [Value.ownBlock] at hg; omega) hcl hB
          · have hj2' : (j == 2) = false := by rw [beq_eq_false_iff_ne]; exact hj2
            clear hj2
            go_wp2_with fail
            go_ret
            obtain ⟨g, hgg, hR⟩ := own_rd ho2 (by omega)
            exact ⟨A, d, g, rd, rfl, hR, hgg, ⟨p + k + 1, HC2.out, by omega⟩, HK2.out⟩

end Go.Proofs.Ytmbmejobffpaoaa
