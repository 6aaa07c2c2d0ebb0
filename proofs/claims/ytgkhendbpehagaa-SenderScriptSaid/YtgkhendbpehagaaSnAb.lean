/- The sender: an acknowledgement that is not taken. -/
import Derived.Test.YtgkhendbpehagaaSnA
namespace Go.Proofs.Ytgkhendbpehagaa
open Go.RowKit
set_option linter.unusedVariables false
set_option linter.unusedSimpArgs false

set_option maxRecDepth 100000 in
set_option maxHeartbeats 2000000 in
theorem sack_bad {w : World} {B s : Nat} {O : List Nat} {wd tr nx : Int} {ps : List Sn} (h : SA w B s O wd tr nx ps) (base bits : Int) (hb : ¬ ackOk nx base ps) :
    Calls Try.prog 12 #[.pointer (some ⟨s, 0, none⟩), .agg #[.int .i64 base, .int .u64 bits]] w fun e w' => e = .returned (.slice none 0 0) ∧ Chg [] w w' := by
  have HV := Lib.hid (fun W : World => bvalid_raw base bits W)
  by_cases hv : 0 ≤ base ∧ base < 65536
  · rw [show seqB base = true from decide_eq_true hv] at HV
    have hn := h.hn
    have HQ := Lib.hid (fun (W : World) (hW : Chg [] w W) (q : Int) (h1 : 0 ≤ q) (h2 : q < 65536) => ssteps_c (h.chg hW (by simp) (by simp)) q h1 h2)
    have HQB := Lib.hid (fun (W : World) (hW : Chg [] w W) => ssteps_c (h.chg hW (by simp) (by simp)) base hv.1 hv.2)
    have hsl := h.lt
    obtain ⟨A, c, hrow, _⟩ := h.row
    clear h
    have fac : ∀ w1, Chg [] ((w.alloc (.cells #[.int .i64 base, .int .u64 bits] 37)).drew) w1 → (w1.cell? ⟨w.heap.size, 0, none⟩ = some (.int .i64 base) ∧ w1.cell? ⟨w.heap.size, 1, none⟩ = some (.int .u64 bits) ∧ w1.cell? ⟨s, 2, none⟩ = some (.int .i64 nx)) ∧ Chg [] w w1 := fun w1 hc1 => by
      have k1 : Chg [] w w1 := (((Chg.refl [] w).alloc _).drew).trans hc1 (by simp)
      have hm1 := ((Blk.new w 37 #[.int .i64 base, .int .u64 bits]).drew).chg hc1 (by simp)
      exact ⟨⟨(hm1.cell 0).trans rfl, (hm1.cell 1).trans rfl, ((hrow.chg k1 (by simp)).cell 2).trans rfl⟩, k1⟩
    have FAC := Lib.hid fac
    have hS0 : ((w.alloc (.cells #[.int .i64 base, .int .u64 bits] 37)).drew).cell? ⟨w.heap.size, 0, none⟩ = some (.int .i64 base) ∧ ((w.alloc (.cells #[.int .i64 base, .int .u64 bits] 37)).drew).cell? ⟨w.heap.size, 1, none⟩ = some (.int .u64 bits) ∧ ((w.alloc (.cells #[.int .i64 base, .int .u64 bits] 37)).drew).cell? ⟨s, 2, none⟩ = some (.int .i64 nx) := (fac _ (Chg.refl _ _)).1
    clear fac hrow
    by_cases h1 : dst (bs nx ps) base < 32768
    · have g1 : decide (32768 ≤ dst (bs nx ps) base) = false := decide_eq_false (by omega)
      have g2 : decide (dst (bs nx ps) nx < dst (bs nx ps) base) = true := decide_eq_true (by
        rcases Int.lt_or_le (dst (bs nx ps) nx) (dst (bs nx ps) base) with h | h
        · exact h
        · exact absurd ⟨hv, h1, h⟩ hb)
      clear hb
      go_enter Try.func12, Try.ntmps12
      go_upto_region 1 with fail
      go_region_held3 (fun w' => w'.cell? ⟨w.heap.size, 0, none⟩ = some (.int .i64 base) ∧ w'.cell? ⟨w.heap.size, 1, none⟩ = some (.int .u64 bits) ∧ w'.cell? ⟨s, 2, none⟩ = some (.int .i64 nx)) (first | exact hS1 | exact hS0 | go_keep)
        (first
          | (go_at_call 27; refine (HV.out _).mono ?_; rintro e w1 ⟨rfl, hc1⟩; have hS1 := (FAC.out w1 hc1).1; have k1 := (FAC.out w1 hc1).2)
          | (go_at_call 28; refine (HQ.out _ (by repeat (first | exact k1 | (refine Chg.drewN ?_ _) | (refine Chg.drew ?_))) _ (by omega) (by omega)).mono ?_; rintro e w' ⟨rfl, m, rfl⟩))
      all_goals
        go_wp2_with fail
        go_ret
        exact ⟨rfl, by repeat (first | exact k1 | (refine Chg.drewN ?_ _) | (refine Chg.drew ?_))⟩
    · have h2 : 32768 ≤ dst (bs nx ps) base := by omega
      clear hb hS0 h1 HQ
      generalize dst (bs nx ps) base = d at h2 HQB
      go_enter Try.func12, Try.ntmps12
      go_upto_region 1 with fail
      refine wp_region_any (by kernel_rfl) ?_
      try (change wpAny _ _ _ _ _ _ _ (World.drew _))
      refine wpAny_ready (rs := [0]) (by kernel_rfl) (by simp) ?_
      refine AllReady.cons rfl (fun K hK => ?_) AllReady.nil
      go_simp
      refine hK _ _ ?_
      clear hK K
      refine wpAny_ready (rs := [1]) (by kernel_rfl) (by simp) ?_
      refine AllReady.cons rfl (fun K hK => ?_) AllReady.nil
      go_simp
      go_wp2_with (go_at_call 27; refine (HV.out _).mono ?_; rintro e w1 ⟨rfl, hc1⟩; obtain ⟨⟨b0, b1, b2⟩, k1⟩ := FAC.out w1 hc1)
      refine wpAny_take (i := 2) (v := ?_) rfl (by kernel_rfl) (by kernel_rfl) (by kernel_rfl) (fun _ _ _ h => h) (Or.inl ⟨by rfl, by intro w; go_simp; with_reducible rfl⟩) ?_
      go_simp
      refine wpAny_take (i := 3) (v := ?_) rfl (by kernel_rfl) (by kernel_rfl) (by kernel_rfl) (fun _ _ _ h => h) (Or.inl ⟨by rfl, by intro w; go_simp; with_reducible rfl⟩) ?_
      go_simp
      refine wpAny_take (i := 4) (v := ?_) rfl (by kernel_rfl) (by kernel_rfl) (by kernel_rfl) (fun _ _ _ h => h) (Or.inl ⟨by rfl, by intro w; go_simp; with_reducible rfl⟩) ?_
      go_simp
      refine wpAny_take (i := 5) (v := ?_) rfl (by kernel_rfl) (by kernel_rfl) (by kernel_rfl) (fun _ _ _ h => h) (Or.inl ⟨by rfl, by intro w; go_simp; with_reducible rfl⟩) ?_
      go_simp
      refine wpAny_ready (rs := [6]) (by kernel_rfl) (by simp) ?_
      refine AllReady.cons rfl (fun K hK => ?_) AllReady.nil
      go_simp
      refine hK _ _ ?_
      clear hK K
      refine wpAny_ready (rs := [7]) (by kernel_rfl) (by simp) ?_
      refine AllReady.cons rfl (fun K hK => ?_) AllReady.nil
      go_simp
      go_wp2_with (go_at_call 28; refine (HQB.out _ k1).mono ?_; rintro e w' ⟨rfl, m, rfl⟩)
      refine wpAny_take (i := 8) (v := ?_) rfl (by kernel_rfl) (by kernel_rfl) (by kernel_rfl) (fun _ _ _ h => h) (Or.inl ⟨by rfl, by intro w; go_simp; with_reducible rfl⟩) ?_
      go_simp
      refine wpAny_take (i := 9) (v := ?_) rfl (by kernel_rfl) (by kernel_rfl) (by kernel_rfl) (fun _ _ _ h => h) (Or.inl ⟨by rfl, by intro w; go_simp; with_reducible rfl⟩) ?_
      go_simp
      refine wpAny_take (i := 10) (v := ?_) rfl (by kernel_rfl) (by kernel_rfl) (by kernel_rfl) (fun _ _ _ h => h) (Or.inl ⟨by rfl, by intro w; go_simp; with_reducible rfl⟩) ?_
      go_simp
      refine wpAny_take (i := 11) (v := undef) rfl (by kernel_rfl) (by kernel_rfl) (by kernel_rfl) (fun _ _ _ h => h) (Or.inr ⟨by rfl, rfl⟩) ?_
      go_simp
      refine wpAny_take (i := 12) (v := undef) rfl (by kernel_rfl) (by kernel_rfl) (by kernel_rfl) (fun _ _ _ h => h) (Or.inr ⟨by rfl, rfl⟩) ?_
      go_simp
      refine wpAny_take (i := 13) (v := undef) rfl (by kernel_rfl) (by kernel_rfl) (by kernel_rfl) (fun _ _ _ h => h) (Or.inr ⟨by rfl, rfl⟩) ?_
      go_simp
      refine wpAny_take (i := 14) (v := undef) rfl (by kernel_rfl) (by kernel_rfl) (by kernel_rfl) (fun _ _ _ h => h) (Or.inr ⟨by rfl, rfl⟩) ?_
      go_simp
      refine wpAny_take (i := 15) (v := undef) rfl (by kernel_rfl) (by kernel_rfl) (by kernel_rfl) (fun _ _ _ h => h) (Or.inr ⟨by rfl, rfl⟩) ?_
      go_simp
      refine wpAny_take (i := 16) (v := undef) rfl (by kernel_rfl) (by kernel_rfl) (by kernel_rfl) (fun _ _ _ h => h) (Or.inr ⟨by rfl, rfl⟩) ?_
      go_simp
      refine wpAny_take (i := 17) (v := undef) rfl (by kernel_rfl) (by kernel_rfl) (by kernel_rfl) (fun _ _ _ h => h) (Or.inr ⟨by rfl, rfl⟩) ?_
      go_simp
      refine wpAny_take (i := 18) (v := undef) rfl (by kernel_rfl) (by kernel_rfl) (by kernel_rfl) (fun _ _ _ h => h) (Or.inr ⟨by rfl, rfl⟩) ?_
      go_simp
      refine wpAny_take (i := 19) (v := undef) rfl (by kernel_rfl) (by kernel_rfl) (by kernel_rfl) (fun _ _ _ h => h) (Or.inr ⟨by rfl, rfl⟩) ?_
      go_simp
      refine wpAny_take (i := 20) (v := undef) rfl (by kernel_rfl) (by kernel_rfl) (by kernel_rfl) (fun _ _ _ h => h) (Or.inr ⟨by rfl, rfl⟩) ?_
      go_simp
      refine wpAny_take (i := 21) (v := undef) rfl (by kernel_rfl) (by kernel_rfl) (by kernel_rfl) (fun _ _ _ h => h) (Or.inr ⟨by rfl, rfl⟩) ?_
      go_simp
      refine wpAny_take (i := 22) (v := ?_) rfl (by kernel_rfl) (by kernel_rfl) (by kernel_rfl) (fun _ _ _ h => h) (Or.inl ⟨by rfl, by intro w; go_simp; with_reducible rfl⟩) ?_
      go_simp
      refine wpAny_done (by kernel_rfl) ?_ _
      go_wp2_with fail
      go_ret
      exact ⟨rfl, by repeat (first | exact k1 | (refine Chg.drewN ?_ _) | (refine Chg.drew ?_))⟩
  · rw [show seqB base = false from decide_eq_false hv] at HV
    clear hb h
    go_enter Try.func12, Try.ntmps12
    go_upto_region 1 with fail
    refine wp_region_any (by kernel_rfl) ?_
    try (change wpAny _ _ _ _ _ _ _ (World.drew _))
    refine wpAny_ready (rs := [0]) (by kernel_rfl) (by simp) ?_
    refine AllReady.cons rfl (fun K hK => ?_) AllReady.nil
    go_simp
    refine hK _ _ ?_
    clear hK K
    refine wpAny_ready (rs := [1]) (by kernel_rfl) (by simp) ?_
    refine AllReady.cons rfl (fun K hK => ?_) AllReady.nil
    go_simp
    go_wp2_with (go_at_call 27; refine (HV.out _).mono ?_; rintro e w1 ⟨rfl, hc1⟩)
    refine wpAny_take (i := 2) (v := ?_) rfl (by kernel_rfl) (by kernel_rfl) (by kernel_rfl) (fun _ _ _ h => h) (Or.inl ⟨by rfl, by intro w; go_simp; with_reducible rfl⟩) ?_
    go_simp
    refine wpAny_take (i := 3) (v := ?_) rfl (by kernel_rfl) (by kernel_rfl) (by kernel_rfl) (fun _ _ _ h => h) (Or.inl ⟨by rfl, by intro w; go_simp; with_reducible rfl⟩) ?_
    go_simp
    refine wpAny_take (i := 4) (v := undef) rfl (by kernel_rfl) (by kernel_rfl) (by kernel_rfl) (fun _ _ _ h => h) (Or.inr ⟨by rfl, rfl⟩) ?_
    go_simp
    refine wpAny_take (i := 5) (v := undef) rfl (by kernel_rfl) (by kernel_rfl) (by kernel_rfl) (fun _ _ _ h => h) (Or.inr ⟨by rfl, rfl⟩) ?_
    go_simp
    refine wpAny_take (i := 6) (v := undef) rfl (by kernel_rfl) (by kernel_rfl) (by kernel_rfl) (fun _ _ _ h => h) (Or.inr ⟨by rfl, rfl⟩) ?_
    go_simp
    refine wpAny_take (i := 7) (v := undef) rfl (by kernel_rfl) (by kernel_rfl) (by kernel_rfl) (fun _ _ _ h => h) (Or.inr ⟨by rfl, rfl⟩) ?_
    go_simp
    refine wpAny_take (i := 8) (v := undef) rfl (by kernel_rfl) (by kernel_rfl) (by kernel_rfl) (fun _ _ _ h => h) (Or.inr ⟨by rfl, rfl⟩) ?_
    go_simp
    refine wpAny_take (i := 9) (v := ?_) rfl (by kernel_rfl) (by kernel_rfl) (by kernel_rfl) (fun _ _ _ h => h) (Or.inl ⟨by rfl, by intro w; go_simp; with_reducible rfl⟩) ?_
    go_simp
    refine wpAny_take (i := 10) (v := ?_) rfl (by kernel_rfl) (by kernel_rfl) (by kernel_rfl) (fun _ _ _ h => h) (Or.inl ⟨by rfl, by intro w; go_simp; with_reducible rfl⟩) ?_
    go_simp
    refine wpAny_take (i := 11) (v := undef) rfl (by kernel_rfl) (by kernel_rfl) (by kernel_rfl) (fun _ _ _ h => h) (Or.inr ⟨by rfl, rfl⟩) ?_
    go_simp
    refine wpAny_take (i := 12) (v := undef) rfl (by kernel_rfl) (by kernel_rfl) (by kernel_rfl) (fun _ _ _ h => h) (Or.inr ⟨by rfl, rfl⟩) ?_
    go_simp
    refine wpAny_take (i := 13) (v := undef) rfl (by kernel_rfl) (by kernel_rfl) (by kernel_rfl) (fun _ _ _ h => h) (Or.inr ⟨by rfl, rfl⟩) ?_
    go_simp
    refine wpAny_take (i := 14) (v := undef) rfl (by kernel_rfl) (by kernel_rfl) (by kernel_rfl) (fun _ _ _ h => h) (Or.inr ⟨by rfl, rfl⟩) ?_
    go_simp
    refine wpAny_take (i := 15) (v := undef) rfl (by kernel_rfl) (by kernel_rfl) (by kernel_rfl) (fun _ _ _ h => h) (Or.inr ⟨by rfl, rfl⟩) ?_
    go_simp
    refine wpAny_take (i := 16) (v := undef) rfl (by kernel_rfl) (by kernel_rfl) (by kernel_rfl) (fun _ _ _ h => h) (Or.inr ⟨by rfl, rfl⟩) ?_
    go_simp
    refine wpAny_take (i := 17) (v := undef) rfl (by kernel_rfl) (by kernel_rfl) (by kernel_rfl) (fun _ _ _ h => h) (Or.inr ⟨by rfl, rfl⟩) ?_
    go_simp
    refine wpAny_take (i := 18) (v := undef) rfl (by kernel_rfl) (by kernel_rfl) (by kernel_rfl) (fun _ _ _ h => h) (Or.inr ⟨by rfl, rfl⟩) ?_
    go_simp
    refine wpAny_take (i := 19) (v := undef) rfl (by kernel_rfl) (by kernel_rfl) (by kernel_rfl) (fun _ _ _ h => h) (Or.inr ⟨by rfl, rfl⟩) ?_
    go_simp
    refine wpAny_take (i := 20) (v := undef) rfl (by kernel_rfl) (by kernel_rfl) (by kernel_rfl) (fun _ _ _ h => h) (Or.inr ⟨by rfl, rfl⟩) ?_
    go_simp
    refine wpAny_take (i := 21) (v := undef) rfl (by kernel_rfl) (by kernel_rfl) (by kernel_rfl) (fun _ _ _ h => h) (Or.inr ⟨by rfl, rfl⟩) ?_
    go_simp
    refine wpAny_take (i := 22) (v := ?_) rfl (by kernel_rfl) (by kernel_rfl) (by kernel_rfl) (fun _ _ _ h => h) (Or.inl ⟨by rfl, by intro w; go_simp; with_reducible rfl⟩) ?_
    go_simp
    refine wpAny_done (by kernel_rfl) ?_ _
    go_wp2_with fail
    go_ret
    exact ⟨rfl, (((Chg.refl [] w).alloc _).drew).trans hc1 (by simp)⟩

end Go.Proofs.Ytgkhendbpehagaa
