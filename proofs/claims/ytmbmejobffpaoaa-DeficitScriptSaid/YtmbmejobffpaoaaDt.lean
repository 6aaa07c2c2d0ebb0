/- The statement DeficitScript: what is compared after each call. -/
import Derived.Test.YtmbmejobffpaoaaDqb
import Derived.Test.YtmbmejobffpaoaaDk
import Derived.Test.YtmbmejobffpaoaaOff
namespace Go.Proofs.Ytmbmejobffpaoaa
open Go.RowKit
set_option linter.unusedVariables false
set_option linter.unusedSimpArgs false

theorem dfD_at {x : Int} {L : List Sd} {k : Nat} (h : sid x L = some k) (hk : k < L.length) : dfD x L = L[k].d := by rw [dfD, h]; simp [hk]
theorem dfT_at {x : Int} {L : List Sd} {k : Nat} (h : sid x L = some k) (hk : k < L.length) : dfT x L = L[k].t := by rw [dfT, h]; simp [hk]

set_option maxRecDepth 100000 in
set_option maxHeartbeats 16000000 in
theorem same_c {w : World} {B r s : Nat} {O O' : List Nat} {q now now' : Int} {L : List Sd} (hA : DA w B r O q L now) (hD : DR w B s O' q L now') (hl : L.length ≤ 1000) :
    Calls Try.prog 22 #[.pointer (some ⟨r, 0, none⟩), .pointer (some ⟨s, 0, none⟩)] w fun e w' => e = .returned (.bool true) ∧ Chg [] w w' := by
  obtain ⟨n, hn⟩ : ∃ n, L.length = n := ⟨_, rfl⟩
  obtain ⟨A, c, h9, h10⟩ := hD.split
  have HN := Lib.hid hn
  have HA := Lib.hid hA
  have HD := Lib.hid hD
  have H9 := Lib.hid h9
  have H10 := Lib.hid h10
  have hln : n ≤ 1000 := by omega
  clear h9 h10 hA hD hn
  go_enter Try.func22, Try.ntmps22
  go_wp2_with fail
  go_loopw [5, 6] (fun v i wr => ∃ k A' c', k ≤ n ∧ i = .int .i64 (k : Nat) ∧ v = .slice A' k c' ∧ wr.ownsRow w.heap.size 3 1 (.slice A' k c') k ((ids L).take k |>.map (Value.int .i64)) ∧ Chg [] w wr) (fun _ i _ => n - (intOf i).toNat)
  case atStart => exact ⟨0, none, 0, Nat.zero_le _, rfl, rfl, by simpa using World.ownsRow_nil _ _ _ _, Chg.refl _ _⟩
  case round =>
    obtain ⟨k, A', c', hk, rfl, rfl, hown, hc⟩ := hrel
    have h9 := H9.out.chg hc (by simp)
    rw [HN.out] at h9
    have e1 := (h9.cell 1).trans rfl
    have hz := hc.size
    by_cases hlt : k < n
    · have hkl : k < L.length := by have := HN.out; omega
      rcases H10.out with ⟨_, _, h0⟩ | ⟨g, rfl, hg, hgO, hgs, hrow⟩
      · exact absurd hkl (by rw [h0]; simp)
      · obtain ⟨c0, _, _, _⟩ := row_sd (hrow.chg hc (by simp)) hkl
        have HT := Lib.hid (show ((ids L).take (k + 1)).map (Value.int .i64) = ((ids L).take k).map (Value.int .i64) ++ [.int .i64 L[k].i] from by
          rw [List.take_succ_eq_append_getElem (by simp [ids]; exact hkl)]
          simp [ids])
        generalize L[k] = p at c0 HT
        have hI : (k : Int) < (n : Int) := by omega
        have hJ : (0 : Int) ≤ (k : Int) := by omega
        have HC := Lib.hid hc
        clear h9 hc
        go_wp2_with (at_builtin; refine list_app (P := Try.prog) (t := 22) Try.underlying22 int_info rfl (by omega) (.tmp 20) (.tmp 29) w.heap.size (n := k) (m := 1) (N := k + 1) rfl (by omega) (by intro u hu; simp at hu; subst hu; rfl) (by omega) (own_chg hown ((Chg.refl [] wr).alloc _) (by simp)) (reads_lit1 wr 3 (.int .i64 p.i)) (by simp; omega) (by rfl) (by rfl) (by rfl) (by rfl) ?_; intro A2 d2 W2 hown2 hgrow2 hat2)
        go_roundw
        case rel => exact ⟨k + 1, A2, d2, by omega, by go_num, rfl, by rw [HT.out]; exact hown2, (HC.out.alloc _).grown hgrow2 (fun j hj => .inr (hown.lt j hj).1)⟩
        case measure => simp [intOf]; omega
    · have hge : (n : Int) ≤ (k : Int) := by omega
      have hkn : k = n := by omega
      have hT : (ids L).take k = ids L := List.take_of_length_le (by have := HN.out; simp [ids]; omega)
      rw [hT] at hown
      obtain ⟨g1, hg1, hR1⟩ := own_rd hown (by simp [ids]; omega)
      have HR1 := Lib.hid hR1
      have HL := Lib.hid (show (ids L).length = k from by have := HN.out; simp [ids]; omega)
      have HO := Lib.hid (dorder_c (HA.out.chg hc (by simp) (by simp)) hl)
      have HC := Lib.hid hc
      clear hT hown hR1 h9 hc hkn
      go_wp2_with fail
      refine HO.out.mono ?_
      rintro e w2 ⟨A2, d2, g2, rfl, hg2, hR2, hc2⟩
      clear e1
      have HR2 := Lib.hid hR2
      have HC2 := Lib.hid (HC.out.trans hc2 (by simp))
      have HR3 := Lib.hid (HR1.out.chg hc2 (by simp))
      have HL2 := Lib.hid (show (ids L).length = L.length from by simp [ids])
      clear hR2 hc2
      go_wp2_with fail
      refine (equal_k HL2.out HL.out HR2.out HR3.out).mono ?_
      rintro e w3 ⟨rfl, hc3⟩
      rw [decide_eq_true rfl]
      have HC3 := Lib.hid (HC2.out.trans hc3 (by simp))
      clear hc3 HR1 HR2 HR3 HC2 HC HO hge hk hlt
      go_wp2_with fail
      go_loopw [7] (fun v wr => ∃ z : Int, -1 ≤ z ∧ z ≤ 6 ∧ v = .int .i64 z ∧ Chg [] w wr) (fun v _ => (6 - intOf v).toNat)
      case atStart => exact ⟨-1, by omega, by omega, rfl, HC3.out⟩
      case round =>
        clear HC3
        obtain ⟨z, hz0, hz1, rfl, hc⟩ := hrel
        by_cases hzl : z < 6
        · have HDf := Lib.hid (ddef_c (HA.out.chg hc (by simp) (by simp)) (by omega) z)
          have HC := Lib.hid hc
          have HAt := Lib.hid (fun (W : World) (k : Chg [] w W) => rrat_c (HD.out.chg k (by simp) (by simp)) hl z)
          have HTt := Lib.hid (fun (W : World) (k : Chg [] w W) => dturns_c (HA.out.chg k (by simp) (by simp)) (by omega) z)
          clear hc
          cases hs : sid z L with
          | none =>
            rw [show dfD z L = 0 from by rw [dfD, hs], show (sid z L).isSome = false from by rw [hs]; rfl] at HDf
            rw [sidI_none hs] at HAt
            rw [show dfT z L = 0 from by rw [dfT, hs]] at HTt
            clear hs
            go_wp2_with fail
            refine HDf.out.mono ?_
            rintro e w2 ⟨rfl, hc2⟩
            have HC1 := Lib.hid (HC.out.trans hc2 (by simp))
            clear hc2 HDf
            go_wp2_with fail
            refine (HAt.out _ HC1.out).mono ?_
            rintro e w4 ⟨rfl, hc4⟩
            have HC2 := Lib.hid (HC1.out.trans hc4 (by simp))
            have HT := HTt
            have HC2b := Lib.hid (fun (W : World) (h : Chg [] w4.drew W) => (HC2.out.drew.trans h (by simp) : Chg [] w W))
            clear hc4 HAt HC1 HTt
            go_wp2_with fail
            refine wp_region_any (by kernel_rfl) ?_
            try (change wpAny _ _ _ _ _ _ _ (World.drew _))
            refine wpAny_take (i := 0) (v := ?_) rfl (by kernel_rfl) (by kernel_rfl) (by kernel_rfl) (fun _ _ _ h => h) (Or.inl ⟨by rfl, by intro w; go_simp; with_reducible rfl⟩) ?_
            go_simp
            refine wpAny_take (i := 1) (v := ?_) rfl (by kernel_rfl) (by kernel_rfl) (by kernel_rfl) (fun _ _ _ h => h) (Or.inl ⟨by rfl, by intro w; go_simp; with_reducible rfl⟩) ?_
            go_simp
            refine wpAny_take (i := 2) (v := ?_) rfl (by kernel_rfl) (by kernel_rfl) (by kernel_rfl) (fun _ _ _ h => h) (Or.inl ⟨by rfl, by intro w; go_simp; with_reducible rfl⟩) ?_
            go_simp
            refine wpAny_take (i := 3) (v := ?_) rfl (by kernel_rfl) (by kernel_rfl) (by kernel_rfl) (fun _ _ _ h => h) (Or.inl ⟨by rfl, by intro w; go_simp; with_reducible rfl⟩) ?_
            go_simp
            refine wpAny_take (i := 4) (v := ?_) rfl (by kernel_rfl) (by kernel_rfl) (by kernel_rfl) (fun _ _ _ h => h) (Or.inl ⟨by rfl, by intro w; go_simp; with_reducible rfl⟩) ?_
            go_simp
            refine wpAny_take (i := 5) (v := ?_) rfl (by kernel_rfl) (by kernel_rfl) (by kernel_rfl) (fun _ _ _ h => h) (Or.inl ⟨by rfl, by intro w; go_simp; with_reducible rfl⟩) ?_
            go_simp
            refine wpAny_take (i := 6) (v := ?_) rfl (by kernel_rfl) (by kernel_rfl) (by kernel_rfl) (fun _ _ _ h => h) (Or.inl ⟨by rfl, by intro w; go_simp; with_reducible rfl⟩) ?_
            go_simp
            refine wpAny_take (i := 7) (v := ?_) rfl (by kernel_rfl) (by kernel_rfl) (by kernel_rfl) (fun _ _ _ h => h) (Or.inl ⟨by rfl, by intro w; go_simp; with_reducible rfl⟩) ?_
            go_simp
            refine wpAny_offs [8, 9, 10, 11, 12, 13, 14, 15, 16, 17, 18, 19, 20, 21, 22, 23, 24, 25, 26, 27, 28, 29, 30, 31] 16 [some 57, some 58, some 59, some 60, some 61, some 62, some 63, some 64, some 65, some 66, some 67, some 68, some 69, some 70, some 71, some 72, some 73, some 74, some 75, some 76, some 77, some 78, some 79, some 80] #[true, true, true, true, true, true, true, true, true, true, true, true, true, true, true, true, true, true, true, true, true, true, true, true, true, true, true, true, true, true, true, true, false, false, false, false, false, false, false, false, false, false, false, false, false, false, false, false] (by rfl) (by kernel_rfl) (by kernel_rfl) (fun _ _ _ _ h => h) (by rfl) (by rfl) ?_
            simp only [List.foldl_cons, List.foldl_nil]
            go_simp
            refine wpAny_take (i := 32) (v := ?_) rfl (by kernel_rfl) (by kernel_rfl) (by kernel_rfl) (fun _ _ _ h => h) (Or.inl ⟨by rfl, by intro w; go_simp; with_reducible rfl⟩) ?_
            go_simp
            refine wpAny_take (i := 33) (v := ?_) rfl (by kernel_rfl) (by kernel_rfl) (by kernel_rfl) (fun _ _ _ h => h) (Or.inl ⟨by rfl, by intro w; go_simp; with_reducible rfl⟩) ?_
            go_simp
            refine wpAny_take (i := 34) (v := ?_) rfl (by kernel_rfl) (by kernel_rfl) (by kernel_rfl) (fun _ _ _ h => h) (Or.inl ⟨by rfl, by intro w; go_simp; with_reducible rfl⟩) ?_
            go_simp
            refine wpAny_take (i := 35) (v := ?_) rfl (by kernel_rfl) (by kernel_rfl) (by kernel_rfl) (fun _ _ _ h => h) (Or.inl ⟨by rfl, by intro w; go_simp; with_reducible rfl⟩) ?_
            go_simp
            refine wpAny_take (i := 36) (v := ?_) rfl (by kernel_rfl) (by kernel_rfl) (by kernel_rfl) (fun _ _ _ h => h) (Or.inl ⟨by rfl, by intro w; go_simp; with_reducible rfl⟩) ?_
            go_simp
            refine wpAny_take (i := 37) (v := ?_) rfl (by kernel_rfl) (by kernel_rfl) (by kernel_rfl) (fun _ _ _ h => h) (Or.inl ⟨by rfl, by intro w; go_simp; with_reducible rfl⟩) ?_
            go_simp
            refine wpAny_take (i := 38) (v := ?_) rfl (by kernel_rfl) (by kernel_rfl) (by kernel_rfl) (fun _ _ _ h => h) (Or.inl ⟨by rfl, by intro w; go_simp; with_reducible rfl⟩) ?_
            go_simp
            refine wpAny_take (i := 39) (v := ?_) rfl (by kernel_rfl) (by kernel_rfl) (by kernel_rfl) (fun _ _ _ h => h) (Or.inl ⟨by rfl, by intro w; go_simp; with_reducible rfl⟩) ?_
            go_simp
            refine wpAny_take (i := 40) (v := ?_) rfl (by kernel_rfl) (by kernel_rfl) (by kernel_rfl) (fun _ _ _ h => h) (Or.inl ⟨by rfl, by intro w; go_simp; with_reducible rfl⟩) ?_
            go_simp
            refine wpAny_take (i := 41) (v := ?_) rfl (by kernel_rfl) (by kernel_rfl) (by kernel_rfl) (fun _ _ _ h => h) (Or.inl ⟨by rfl, by intro w; go_simp; with_reducible rfl⟩) ?_
            go_simp
            refine wpAny_take (i := 42) (v := ?_) rfl (by kernel_rfl) (by kernel_rfl) (by kernel_rfl) (fun _ _ _ h => h) (Or.inl ⟨by rfl, by intro w; go_simp; with_reducible rfl⟩) ?_
            go_simp
            refine wpAny_ready (rs := [43]) (by kernel_rfl) (by simp) ?_
            refine AllReady.cons rfl (fun K hK => ?_) AllReady.nil
            go_simp
            go_wp2_with (go_at_call 15; refine (HT.out _ (by repeat (first | exact HC2.out | apply Chg.drew | apply Chg.drewN))).mono ?_; rintro e w5 ⟨rfl, hc5⟩)
            refine wpAny_take (i := 44) (v := ?_) rfl (by kernel_rfl) (by kernel_rfl) (by kernel_rfl) (fun _ _ _ h => h) (Or.inl ⟨by rfl, by intro w; go_simp; with_reducible rfl⟩) ?_
            go_simp
            refine wpAny_take (i := 45) (v := ?_) rfl (by kernel_rfl) (by kernel_rfl) (by kernel_rfl) (fun _ _ _ h => h) (Or.inl ⟨by rfl, by intro w; go_simp; with_reducible rfl⟩) ?_
            go_simp
            refine wpAny_take (i := 46) (v := ?_) rfl (by kernel_rfl) (by kernel_rfl) (by kernel_rfl) (fun _ _ _ h => h) (Or.inl ⟨by rfl, by intro w; go_simp; with_reducible rfl⟩) ?_
            go_simp
            refine wpAny_take (i := 47) (v := ?_) rfl (by kernel_rfl) (by kernel_rfl) (by kernel_rfl) (fun _ _ _ h => h) (Or.inl ⟨by rfl, by intro w; go_simp; with_reducible rfl⟩) ?_
            go_simp
            refine wpAny_done (by kernel_rfl) ?_ _
            go_wp2_with fail
            go_roundw
            case rel => exact ⟨z + 1, by omega, by omega, rfl, HC2b.out _ hc5⟩
            case measure => simp [intOf]; omega
          | some k =>
            have hk := (sid_spec hs).1
            have hd1 := dfD_at hs hk
            have ht1 := dfT_at hs hk
            rw [hd1, show (sid z L).isSome = true from by rw [hs]; rfl] at HDf
            rw [sidI_some hs] at HAt
            rw [ht1] at HTt
            rcases H10.out with ⟨_, _, h0⟩ | ⟨g, rfl, hg, hgO, hgs, hrow⟩
            · exact absurd hk (by rw [h0]; simp)
            have hkn : k < n := by have := HN.out; omega
            have hI : (k : Int) < (n : Int) := by omega
            have hJ : (0 : Int) ≤ (k : Int) := by omega
            have HRow := Lib.hid (fun (W : World) (h : Chg [] w W) => row_sd (hrow.chg h (by simp)) hk)
            have H9b := Lib.hid (fun (W : World) (h : Chg [] w W) => ((H9.out.chg h (by simp)).cell 1).trans (show _ = some (Value.slice (some ⟨g, 0, none⟩) n c) from by rw [HN.out]; rfl))
            generalize L[k] = p at HRow HDf HTt hd1 ht1
            clear hs hd1 ht1 hrow
            go_wp2_with fail
            refine HDf.out.mono ?_
            rintro e w2 ⟨rfl, hc2⟩
            have HC1 := Lib.hid (HC.out.trans hc2 (by simp))
            clear hc2 HDf
            go_wp2_with fail
            refine (HAt.out _ HC1.out).mono ?_
            rintro e w4 ⟨rfl, hc4⟩
            have HC2 := Lib.hid (HC1.out.trans hc4 (by simp))
            have HT := HTt
            have HC2b := Lib.hid (fun (W : World) (h : Chg [] w4.drew W) => (HC2.out.drew.trans h (by simp) : Chg [] w W))
            have k1 := H9b.out _ HC2.out
            obtain ⟨_, _, k3, k4⟩ := HRow.out _ HC2.out
            have HE := Lib.hid (fun (W : World) (h : Chg [] w4.drew W) => (⟨H9b.out _ (HC2b.out _ h), (HRow.out _ (HC2b.out _ h)).2.2.2⟩ : W.cell? ⟨s, 1, none⟩ = some (Value.slice (some ⟨g, 0, none⟩) n c) ∧ W.cell? ⟨g, k * 4 + 3, none⟩ = some (.int .i64 p.t)))
            clear hc4 HAt HC1 HTt
            go_wp2_with fail
            refine wp_region_any (by kernel_rfl) ?_
            try (change wpAny _ _ _ _ _ _ _ (World.drew _))
            refine wpAny_take (i := 0) (v := ?_) rfl (by kernel_rfl) (by kernel_rfl) (by kernel_rfl) (fun _ _ _ h => h) (Or.inl ⟨by rfl, by intro w; go_simp; with_reducible rfl⟩) ?_
            go_simp
            refine wpAny_take (i := 1) (v := ?_) rfl (by kernel_rfl) (by kernel_rfl) (by kernel_rfl) (fun _ _ _ h => h) (Or.inl ⟨by rfl, by intro w; go_simp; with_reducible rfl⟩) ?_
            go_simp
            refine wpAny_take (i := 2) (v := ?_) rfl (by kernel_rfl) (by kernel_rfl) (by kernel_rfl) (fun _ _ _ h => h) (Or.inl ⟨by rfl, by intro w; go_simp; with_reducible rfl⟩) ?_
            go_simp
            refine wpAny_take (i := 3) (v := ?_) rfl (by kernel_rfl) (by kernel_rfl) (by kernel_rfl) (fun _ _ _ h => h) (Or.inl ⟨by rfl, by intro w; go_simp; with_reducible rfl⟩) ?_
            go_simp
            refine wpAny_take (i := 4) (v := ?_) rfl (by kernel_rfl) (by kernel_rfl) (by kernel_rfl) (fun _ _ _ h => h) (Or.inl ⟨by rfl, by intro w; go_simp; with_reducible rfl⟩) ?_
            go_simp
            refine wpAny_take (i := 5) (v := ?_) rfl (by kernel_rfl) (by kernel_rfl) (by kernel_rfl) (fun _ _ _ h => h) (Or.inl ⟨by rfl, by intro w; go_simp; with_reducible rfl⟩) ?_
            go_simp
            refine wpAny_take (i := 6) (v := ?_) rfl (by kernel_rfl) (by kernel_rfl) (by kernel_rfl) (fun _ _ _ h => h) (Or.inl ⟨by rfl, by intro w; go_simp; with_reducible rfl⟩) ?_
            go_simp
            refine wpAny_take (i := 7) (v := ?_) rfl (by kernel_rfl) (by kernel_rfl) (by kernel_rfl) (fun _ _ _ h => h) (Or.inl ⟨by rfl, by intro w; go_simp; with_reducible rfl⟩) ?_
            go_simp
            refine wpAny_take (i := 8) (v := ?_) rfl (by kernel_rfl) (by kernel_rfl) (by kernel_rfl) (fun _ _ _ h => h) (Or.inl ⟨by rfl, by intro w; go_simp; with_reducible rfl⟩) ?_
            go_simp
            refine wpAny_take (i := 9) (v := ?_) rfl (by kernel_rfl) (by kernel_rfl) (by kernel_rfl) (fun _ _ _ h => h) (Or.inl ⟨by rfl, by intro w; go_simp; with_reducible rfl⟩) ?_
            go_simp
            refine wpAny_take (i := 10) (v := ?_) rfl (by kernel_rfl) (by kernel_rfl) (by kernel_rfl) (fun _ _ _ h => h) (Or.inl ⟨by rfl, by intro w; go_simp; with_reducible rfl⟩) ?_
            go_simp
            refine wpAny_take (i := 11) (v := ?_) rfl (by kernel_rfl) (by kernel_rfl) (by kernel_rfl) (fun _ _ _ h => h) (Or.inl ⟨by rfl, by intro w; go_simp; with_reducible rfl⟩) ?_
            go_simp
            refine wpAny_take (i := 13) (v := ?_) rfl (by kernel_rfl) (by kernel_rfl) (by kernel_rfl) (fun _ _ _ h => h) (Or.inl ⟨by rfl, by intro w; go_simp; with_reducible rfl⟩) ?_
            go_simp
            refine wpAny_ready (rs := [12]) (by kernel_rfl) (by simp) ?_
            refine AllReady.cons rfl (fun K hK => ?_) AllReady.nil
            go_simp
            refine hK _ _ ?_
            clear hK K
            refine wpAny_take (i := 14) (v := ?_) rfl (by kernel_rfl) (by kernel_rfl) (by kernel_rfl) (fun _ _ _ h => h) (Or.inl ⟨by rfl, by intro w; go_simp; with_reducible rfl⟩) ?_
            go_simp
            refine wpAny_take (i := 15) (v := ?_) rfl (by kernel_rfl) (by kernel_rfl) (by kernel_rfl) (fun _ _ _ h => h) (Or.inl ⟨by rfl, by intro w; go_simp; with_reducible rfl⟩) ?_
            go_simp
            refine wpAny_ready (rs := [16]) (by kernel_rfl) (by simp) ?_
            refine AllReady.cons rfl (fun K hK => ?_) AllReady.nil
            go_simp
            refine hK _ _ ?_
            clear hK K
            refine wpAny_take (i := 17) (v := ?_) rfl (by kernel_rfl) (by kernel_rfl) (by kernel_rfl) (fun _ _ _ h => h) (Or.inl ⟨by rfl, by intro w; go_simp; with_reducible rfl⟩) ?_
            go_simp
            refine wpAny_take (i := 18) (v := ?_) rfl (by kernel_rfl) (by kernel_rfl) (by kernel_rfl) (fun _ _ _ h => h) (Or.inl ⟨by rfl, by intro w; go_simp; with_reducible rfl⟩) ?_
            go_simp
            refine wpAny_take (i := 19) (v := ?_) rfl (by kernel_rfl) (by kernel_rfl) (by kernel_rfl) (fun _ _ _ h => h) (Or.inl ⟨by rfl, by intro w; go_simp; with_reducible rfl⟩) ?_
            go_simp
            refine wpAny_take (i := 20) (v := ?_) rfl (by kernel_rfl) (by kernel_rfl) (by kernel_rfl) (fun _ _ _ h => h) (Or.inl ⟨by rfl, by intro w; go_simp; with_reducible rfl⟩) ?_
            go_simp
            refine wpAny_take (i := 22) (v := ?_) rfl (by kernel_rfl) (by kernel_rfl) (by kernel_rfl) (fun _ _ _ h => h) (Or.inl ⟨by rfl, by intro w; go_simp; with_reducible rfl⟩) ?_
            go_simp
            refine wpAny_take (i := 23) (v := ?_) rfl (by kernel_rfl) (by kernel_rfl) (by kernel_rfl) (fun _ _ _ h => h) (Or.inl ⟨by rfl, by intro w; go_simp; with_reducible rfl⟩) ?_
            go_simp
            refine wpAny_take (i := 24) (v := ?_) rfl (by kernel_rfl) (by kernel_rfl) (by kernel_rfl) (fun _ _ _ h => h) (Or.inl ⟨by rfl, by intro w; go_simp; with_reducible rfl⟩) ?_
            go_simp
            refine wpAny_take (i := 26) (v := ?_) rfl (by kernel_rfl) (by kernel_rfl) (by kernel_rfl) (fun _ _ _ h => h) (Or.inl ⟨by rfl, by intro w; go_simp; with_reducible rfl⟩) ?_
            go_simp
            refine wpAny_ready (rs := [21, 25]) (by kernel_rfl) (by simp) ?_
            refine AllReady.cons rfl (fun K hK => ?_) (AllReady.cons rfl (fun K hK => ?_) AllReady.nil)
            · go_simp
              go_wp2_with (go_at_call 15; refine (HT.out _ (by repeat (first | exact HC2.out | apply Chg.drew | apply Chg.drewN))).mono ?_; rintro e w5 ⟨rfl, hc5⟩; have k5 := (HE.out _ hc5).1; have k6 := (HE.out _ hc5).2)
              refine wpAny_ready (rs := [25]) (by kernel_rfl) (by simp) ?_
              refine AllReady.cons rfl (fun K hK => ?_) AllReady.nil
              go_simp
              refine hK _ _ ?_
              clear hK K
              refine wpAny_take (i := 27) (v := ?_) rfl (by kernel_rfl) (by kernel_rfl) (by kernel_rfl) (fun _ _ _ h => h) (Or.inl ⟨by rfl, by intro w; go_simp; with_reducible rfl⟩) ?_
              go_simp
              refine wpAny_take (i := 28) (v := ?_) rfl (by kernel_rfl) (by kernel_rfl) (by kernel_rfl) (fun _ _ _ h => h) (Or.inl ⟨by rfl, by intro w; go_simp; with_reducible rfl⟩) ?_
              go_simp
              refine wpAny_ready (rs := [29]) (by kernel_rfl) (by simp) ?_
              refine AllReady.cons rfl (fun K hK => ?_) AllReady.nil
              go_simp
              refine hK _ _ ?_
              clear hK K
              refine wpAny_take (i := 30) (v := ?_) rfl (by kernel_rfl) (by kernel_rfl) (by kernel_rfl) (fun _ _ _ h => h) (Or.inl ⟨by rfl, by intro w; go_simp; with_reducible rfl⟩) ?_
              go_simp
              refine wpAny_take (i := 31) (v := ?_) rfl (by kernel_rfl) (by kernel_rfl) (by kernel_rfl) (fun _ _ _ h => h) (Or.inl ⟨by rfl, by intro w; go_simp; with_reducible rfl⟩) ?_
              go_simp
              refine wpAny_take (i := 32) (v := ?_) rfl (by kernel_rfl) (by kernel_rfl) (by kernel_rfl) (fun _ _ _ h => h) (Or.inl ⟨by rfl, by intro w; go_simp; with_reducible rfl⟩) ?_
              go_simp
              refine wpAny_take (i := 33) (v := ?_) rfl (by kernel_rfl) (by kernel_rfl) (by kernel_rfl) (fun _ _ _ h => h) (Or.inl ⟨by rfl, by intro w; go_simp; with_reducible rfl⟩) ?_
              go_simp
              refine wpAny_take (i := 34) (v := ?_) rfl (by kernel_rfl) (by kernel_rfl) (by kernel_rfl) (fun _ _ _ h => h) (Or.inl ⟨by rfl, by intro w; go_simp; with_reducible rfl⟩) ?_
              go_simp
              refine wpAny_take (i := 35) (v := ?_) rfl (by kernel_rfl) (by kernel_rfl) (by kernel_rfl) (fun _ _ _ h => h) (Or.inl ⟨by rfl, by intro w; go_simp; with_reducible rfl⟩) ?_
              go_simp
              refine wpAny_take (i := 36) (v := ?_) rfl (by kernel_rfl) (by kernel_rfl) (by kernel_rfl) (fun _ _ _ h => h) (Or.inl ⟨by rfl, by intro w; go_simp; with_reducible rfl⟩) ?_
              go_simp
              refine wpAny_take (i := 37) (v := ?_) rfl (by kernel_rfl) (by kernel_rfl) (by kernel_rfl) (fun _ _ _ h => h) (Or.inl ⟨by rfl, by intro w; go_simp; with_reducible rfl⟩) ?_
              go_simp
              refine wpAny_offs [38, 39, 40, 41, 42, 43, 44, 45] 2 [some 87, some 88, some 89, some 90, some 91, some 92, some 93, some 94] #[true, true, true, true, true, true, true, true, true, true, true, true, true, true, true, true, true, true, true, true, true, true, true, true, true, true, true, true, true, true, true, true, true, true, true, true, true, true, true, true, true, true, true, true, true, true, false, false] (by rfl) (by kernel_rfl) (by kernel_rfl) (fun _ _ _ _ h => h) (by rfl) (by rfl) ?_
              simp only [List.foldl_cons, List.foldl_nil]
              go_simp
              refine wpAny_take (i := 46) (v := ?_) rfl (by kernel_rfl) (by kernel_rfl) (by kernel_rfl) (fun _ _ _ h => h) (Or.inl ⟨by rfl, by intro w; go_simp; with_reducible rfl⟩) ?_
              go_simp
              refine wpAny_take (i := 47) (v := ?_) rfl (by kernel_rfl) (by kernel_rfl) (by kernel_rfl) (fun _ _ _ h => h) (Or.inl ⟨by rfl, by intro w; go_simp; with_reducible rfl⟩) ?_
              go_simp
              refine wpAny_done (by kernel_rfl) ?_ _
              go_wp2_with fail
              go_roundw
              case rel => exact ⟨z + 1, by omega, by omega, rfl, HC2b.out _ hc5⟩
              case measure => simp [intOf]; omega
            · go_simp
              refine hK _ _ ?_
              clear hK K
              refine wpAny_take (i := 27) (v := ?_) rfl (by kernel_rfl) (by kernel_rfl) (by kernel_rfl) (fun _ _ _ h => h) (Or.inl ⟨by rfl, by intro w; go_simp; with_reducible rfl⟩) ?_
              go_simp
              refine wpAny_take (i := 28) (v := ?_) rfl (by kernel_rfl) (by kernel_rfl) (by kernel_rfl) (fun _ _ _ h => h) (Or.inl ⟨by rfl, by intro w; go_simp; with_reducible rfl⟩) ?_
              go_simp
              refine wpAny_ready (rs := [21, 29]) (by kernel_rfl) (by simp) ?_
              refine AllReady.cons rfl (fun K hK => ?_) (AllReady.cons rfl (fun K hK => ?_) AllReady.nil)
              · go_simp
                go_wp2_with (go_at_call 15; refine (HT.out _ (by repeat (first | exact HC2.out | apply Chg.drew | apply Chg.drewN))).mono ?_; rintro e w5 ⟨rfl, hc5⟩; have k5 := (HE.out _ hc5).1; have k6 := (HE.out _ hc5).2)
                refine wpAny_ready (rs := [29]) (by kernel_rfl) (by simp) ?_
                refine AllReady.cons rfl (fun K hK => ?_) AllReady.nil
                go_simp
                refine hK _ _ ?_
                clear hK K
                refine wpAny_take (i := 30) (v := ?_) rfl (by kernel_rfl) (by kernel_rfl) (by kernel_rfl) (fun _ _ _ h => h) (Or.inl ⟨by rfl, by intro w; go_simp; with_reducible rfl⟩) ?_
                go_simp
                refine wpAny_take (i := 31) (v := ?_) rfl (by kernel_rfl) (by kernel_rfl) (by kernel_rfl) (fun _ _ _ h => h) (Or.inl ⟨by rfl, by intro w; go_simp; with_reducible rfl⟩) ?_
                go_simp
                refine wpAny_take (i := 32) (v := ?_) rfl (by kernel_rfl) (by kernel_rfl) (by kernel_rfl) (fun _ _ _ h => h) (Or.inl ⟨by rfl, by intro w; go_simp; with_reducible rfl⟩) ?_
                go_simp
                refine wpAny_take (i := 33) (v := ?_) rfl (by kernel_rfl) (by kernel_rfl) (by kernel_rfl) (fun _ _ _ h => h) (Or.inl ⟨by rfl, by intro w; go_simp; with_reducible rfl⟩) ?_
                go_simp
                refine wpAny_take (i := 34) (v := ?_) rfl (by kernel_rfl) (by kernel_rfl) (by kernel_rfl) (fun _ _ _ h => h) (Or.inl ⟨by rfl, by intro w; go_simp; with_reducible rfl⟩) ?_
                go_simp
                refine wpAny_take (i := 35) (v := ?_) rfl (by kernel_rfl) (by kernel_rfl) (by kernel_rfl) (fun _ _ _ h => h) (Or.inl ⟨by rfl, by intro w; go_simp; with_reducible rfl⟩) ?_
                go_simp
                refine wpAny_take (i := 36) (v := ?_) rfl (by kernel_rfl) (by kernel_rfl) (by kernel_rfl) (fun _ _ _ h => h) (Or.inl ⟨by rfl, by intro w; go_simp; with_reducible rfl⟩) ?_
                go_simp
                refine wpAny_take (i := 37) (v := ?_) rfl (by kernel_rfl) (by kernel_rfl) (by kernel_rfl) (fun _ _ _ h => h) (Or.inl ⟨by rfl, by intro w; go_simp; with_reducible rfl⟩) ?_
                go_simp
                refine wpAny_offs [38, 39, 40, 41, 42, 43, 44, 45] 2 [some 87, some 88, some 89, some 90, some 91, some 92, some 93, some 94] #[true, true, true, true, true, true, true, true, true, true, true, true, true, true, true, true, true, true, true, true, true, true, true, true, true, true, true, true, true, true, true, true, true, true, true, true, true, true, true, true, true, true, true, true, true, true, false, false] (by rfl) (by kernel_rfl) (by kernel_rfl) (fun _ _ _ _ h => h) (by rfl) (by rfl) ?_
                simp only [List.foldl_cons, List.foldl_nil]
                go_simp
                refine wpAny_take (i := 46) (v := ?_) rfl (by kernel_rfl) (by kernel_rfl) (by kernel_rfl) (fun _ _ _ h => h) (Or.inl ⟨by rfl, by intro w; go_simp; with_reducible rfl⟩) ?_
                go_simp
                refine wpAny_take (i := 47) (v := ?_) rfl (by kernel_rfl) (by kernel_rfl) (by kernel_rfl) (fun _ _ _ h => h) (Or.inl ⟨by rfl, by intro w; go_simp; with_reducible rfl⟩) ?_
                go_simp
                refine wpAny_done (by kernel_rfl) ?_ _
                go_wp2_with fail
                go_roundw
                case rel => exact ⟨z + 1, by omega, by omega, rfl, HC2b.out _ hc5⟩
                case measure => simp [intOf]; omega
              · go_simp
                refine hK _ _ ?_
                clear hK K
                refine wpAny_ready (rs := [21]) (by kernel_rfl) (by simp) ?_
                refine AllReady.cons rfl (fun K hK => ?_) AllReady.nil
                go_simp
                go_wp2_with (go_at_call 15; refine (HT.out _ (by repeat (first | exact HC2.out | apply Chg.drew | apply Chg.drewN))).mono ?_; rintro e w5 ⟨rfl, hc5⟩; have k5 := (HE.out _ hc5).1; have k6 := (HE.out _ hc5).2)
                refine wpAny_take (i := 30) (v := ?_) rfl (by kernel_rfl) (by kernel_rfl) (by kernel_rfl) (fun _ _ _ h => h) (Or.inl ⟨by rfl, by intro w; go_simp; with_reducible rfl⟩) ?_
                go_simp
                refine wpAny_take (i := 31) (v := ?_) rfl (by kernel_rfl) (by kernel_rfl) (by kernel_rfl) (fun _ _ _ h => h) (Or.inl ⟨by rfl, by intro w; go_simp; with_reducible rfl⟩) ?_
                go_simp
                refine wpAny_take (i := 32) (v := ?_) rfl (by kernel_rfl) (by kernel_rfl) (by kernel_rfl) (fun _ _ _ h => h) (Or.inl ⟨by rfl, by intro w; go_simp; with_reducible rfl⟩) ?_
                go_simp
                refine wpAny_take (i := 33) (v := ?_) rfl (by kernel_rfl) (by kernel_rfl) (by kernel_rfl) (fun _ _ _ h => h) (Or.inl ⟨by rfl, by intro w; go_simp; with_reducible rfl⟩) ?_
                go_simp
                refine wpAny_take (i := 34) (v := ?_) rfl (by kernel_rfl) (by kernel_rfl) (by kernel_rfl) (fun _ _ _ h => h) (Or.inl ⟨by rfl, by intro w; go_simp; with_reducible rfl⟩) ?_
                go_simp
                refine wpAny_take (i := 35) (v := ?_) rfl (by kernel_rfl) (by kernel_rfl) (by kernel_rfl) (fun _ _ _ h => h) (Or.inl ⟨by rfl, by intro w; go_simp; with_reducible rfl⟩) ?_
                go_simp
                refine wpAny_take (i := 36) (v := ?_) rfl (by kernel_rfl) (by kernel_rfl) (by kernel_rfl) (fun _ _ _ h => h) (Or.inl ⟨by rfl, by intro w; go_simp; with_reducible rfl⟩) ?_
                go_simp
                refine wpAny_take (i := 37) (v := ?_) rfl (by kernel_rfl) (by kernel_rfl) (by kernel_rfl) (fun _ _ _ h => h) (Or.inl ⟨by rfl, by intro w; go_simp; with_reducible rfl⟩) ?_
                go_simp
                refine wpAny_offs [38, 39, 40, 41, 42, 43, 44, 45] 2 [some 87, some 88, some 89, some 90, some 91, some 92, some 93, some 94] #[true, true, true, true, true, true, true, true, true, true, true, true, true, true, true, true, true, true, true, true, true, true, true, true, true, true, true, true, true, true, true, true, true, true, true, true, true, true, true, true, true, true, true, true, true, true, false, false] (by rfl) (by kernel_rfl) (by kernel_rfl) (fun _ _ _ _ h => h) (by rfl) (by rfl) ?_
                simp only [List.foldl_cons, List.foldl_nil]
                go_simp
                refine wpAny_take (i := 46) (v := ?_) rfl (by kernel_rfl) (by kernel_rfl) (by kernel_rfl) (fun _ _ _ h => h) (Or.inl ⟨by rfl, by intro w; go_simp; with_reducible rfl⟩) ?_
                go_simp
                refine wpAny_take (i := 47) (v := ?_) rfl (by kernel_rfl) (by kernel_rfl) (by kernel_rfl) (fun _ _ _ h => h) (Or.inl ⟨by rfl, by intro w; go_simp; with_reducible rfl⟩) ?_
                go_simp
                refine wpAny_done (by kernel_rfl) ?_ _
                go_wp2_with fail
                go_roundw
                case rel => exact ⟨z + 1, by omega, by omega, rfl, HC2b.out _ hc5⟩
                case measure => simp [intOf]; omega
        · have hz6 : (6 : Int) ≤ z := by omega
          go_wp2_with fail
          go_ret
          exact ⟨rfl, hc⟩

end Go.Proofs.Ytmbmejobffpaoaa
