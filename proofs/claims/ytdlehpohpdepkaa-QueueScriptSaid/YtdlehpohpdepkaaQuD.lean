/- slices.Delete of one packet. -/
import Derived.Test.YtdlehpohpdepkaaQuC
import Derived.Test.YtdlehpohpdepkaaDel
namespace Go.Proofs.Ytdlehpohpdepkaa
open Go.RowKit
set_option linter.unusedVariables false
set_option linter.unusedSimpArgs false

theorem pk_zero (w : World) : (zeroValue 24).run Try.prog w = .ok (.agg #[.int .i64 0, .int .i64 0, .int .i64 0, .int .i64 0, .int .i64 0]) w := by kernel_rfl

set_option maxRecDepth 100000 in
set_option maxHeartbeats 2000000 in
theorem del_raw {w : World} {g k cap i : Nat} {cur : Array Value} (hb : Blk w g 24 cur) (hcs : cur.size = cap * 5) (hn : k + 1 ≤ cap) (hi : i < k + 1) (hn2 : k ≤ 1000) (hcap : cap ≤ 9223372036854775807) (hone : ∀ u ∈ cur.toList.take ((k + 1) * 5), u.oneCell' = true) :
    Calls Try.prog 29 #[.slice (some ⟨g, 0, none⟩) (k + 1) cap, .int .i64 (i : Nat), .int .i64 ((i : Int) + 1)] w fun e w' => e = .returned (.slice (some ⟨g, 0, none⟩) k cap) ∧
      ∃ cs', Blk w' g 24 cs' ∧ cs'.size = cap * 5 ∧ (∀ j, j < k * 5 → cs'[j]? = if j < i * 5 then cur[j]? else cur[j + 5]?) ∧ Chg [g] w w' := by
  have b1 : (0 : Int) ≤ (i : Int) := by omega
  have b2 : (i : Int) ≤ (i : Int) + 1 := by omega
  have b3 : (i : Int) + 1 ≤ (k : Int) + 1 := by omega
  have b4 : (k : Int) + 1 ≤ (cap : Int) := by omega
  have b5 : (i : Int) ≤ (cap : Int) := by omega
  have b6 : (0 : Int) ≤ (i : Int) + 1 := by omega
  have b7 : ((i : Int) == (i : Int) + 1) = false := by rw [beq_eq_false_iff_ne]; omega
  have b8 : ((i : Int) + 1).toNat = i + 1 := by omega
  have hread : Reads w w.heap.size 5 (some ⟨g, 0, none⟩) (k + 1) (cur.toList.take ((k + 1) * 5)) := by
    refine ⟨by rw [List.length_take, Array.length_toList, hcs]; exact Nat.min_eq_left (Nat.mul_le_mul_right _ hn), fun _ => ⟨_, rfl, hb.lt, fun j u hu => ?_⟩⟩
    rw [List.getElem?_take] at hu
    split at hu
    · have hadd : (⟨g, 0, none⟩ : Addr).add j = ⟨g, j, none⟩ := by
        unfold Addr.add
        split
        · subst_vars; rfl
        · simp
      rw [hadd, hb.cell, ← Array.getElem?_toList]
      exact hu
    · cases hu
  obtain ⟨A2, hA2, hr2, hs2⟩ : ∃ A2, (if cap = i + 1 then some ({ block := g, off := 0 } : Addr) else some { block := g, off := (i + 1) * 5 }) = A2 ∧ Reads w w.heap.size 5 A2 (k - i) ((cur.toList.take ((k + 1) * 5)).drop ((i + 1) * 5)) ∧ ∃ ad, A2 = some ad := by
    refine ⟨_, rfl, ?_, ?_⟩
    · have := hread.cut (k := i + 1) (cap := cap) (by omega) hn
      simpa [Addr.add] using this
    · split <;> exact ⟨_, rfl⟩
  have hone2 : ∀ u ∈ (cur.toList.take ((k + 1) * 5)).drop ((i + 1) * 5), u.oneCell' = true := fun u hu => hone u (List.mem_of_mem_drop hu)
  have b9 : ¬ cap = k := by omega
  have b10 : (k : Int) ≤ (k : Int) + 1 := by omega
  have b11 : (k : Int) ≤ (cap : Int) := by omega
  go_enter Try.func29, Try.ntmps29
  go_wp2_with fail
  go_region_held3 (fun w' => True) (trivial) ((refine step_room (P := Try.prog) (t := 42) Try.underlying42 pk_info (.tmp 22) (.tmp 25) (n := i) (m := k - i) (N := k) (by omega) hone2 hb.drew hcs (by omega) hr2.drew (by rfl) (by rfl) (by rfl) (by rfl) (.inr hs2) ?_))
  have hlen : ((cur.toList.take ((k + 1) * 5)).drop ((i + 1) * 5)).length = (k - i) * 5 := by
    rw [List.length_drop, List.length_take, Array.length_toList, hcs]
    omega
  obtain ⟨cs1, hb1, hs1, hc1⟩ := hb.setCells ((cur.toList.take ((k + 1) * 5)).drop ((i + 1) * 5)) (i * 5) (by rw [hlen, hcs]; omega)
  have HC1 := Lib.hid hc1
  have HS1 := Lib.hid hs1
  clear hc1 hs1
  go_wp2_with (refine list_clear (P := Try.prog) (t := 42) (c := cap - k) (.tmp 31) Try.underlying42 pk_zero (by intro u hu; simp [Value.cells] at hu; rcases hu with rfl | rfl | rfl | rfl | rfl <;> rfl) hb1.drew (off := k * 5) (by rw [HS1.out, hcs]; simp [Value.cells]; omega) (by rfl) (by rfl) (by rfl) ?_)
  go_ret
  have hs1 := HS1.out
  have hc1 := HC1.out
  obtain ⟨cs2, hb2, hs2, hc2⟩ := hb1.setCells (Value.agg #[.int .i64 0, .int .i64 0, .int .i64 0, .int .i64 0, .int .i64 0]).cells.toList (k * 5) (by rw [hs1, hcs]; simp [Value.cells]; omega)
  refine ⟨rfl, cs2, ?_, by omega, fun j hj => ?_, ?_⟩
  · exact hb2.drew
  · rw [hc2 j, if_neg (by omega), hc1 j, hlen]
    by_cases h1 : j < i * 5
    · rw [if_neg (by omega), if_pos h1]
    · rw [if_pos (by omega), if_neg h1, List.getElem?_drop, List.getElem?_take, if_pos (by omega), Array.getElem?_toList, show (i + 1) * 5 + (j - i * 5) = j + 5 from by omega]
  · exact (Chg.setCells (by simp) _ _ (Chg.setCells (by simp) _ _ (Chg.refl [g] w))).drew

end Go.Proofs.Ytdlehpohpdepkaa
