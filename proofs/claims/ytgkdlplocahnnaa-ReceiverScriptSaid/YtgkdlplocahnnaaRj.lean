/- The receiver: Holding. -/
import Derived.Test.YtgkdlplocahnnaaRs
import Derived.Test.YtgkdlplocahnnaaRn
namespace Go.Proofs.Ytgkdlplocahnnaa
open Go.RowKit Go.Maps
set_option linter.unusedVariables false
set_option linter.unusedSimpArgs false

/-- The ids held at the first k numbers from x on. -/
def hl (x : Int) (H : Int → Option Int) (k : Nat) : List Int := (List.range k).filterMap fun d => H (stp x d)
theorem hl_snoc (x : Int) (H : Int → Option Int) (k : Nat) : hl x H (k + 1) = hl x H k ++ (H (stp x k)).toList := by
  unfold hl
  rw [List.range_succ, List.filterMap_append]
  cases hh : H (stp x k) <;> simp [hh]
theorem hl_le (x : Int) (H : Int → Option Int) (k : Nat) : (hl x H k).length ≤ k := by
  have := List.length_filterMap_le (fun d => H (stp x d)) (List.range k)
  unfold hl
  simpa using this
theorem hl_lst {x wd : Int} {H : Int → Option Int} (hB : Bd x wd H) (hx : 0 ≤ x ∧ x < 65536) (hw : wd ≤ 64) : hl x H 128 = (lst x H).map Hd.i := by
  unfold hl lst
  rw [show (128 : Nat) = 64 + 64 from rfl, List.range_add, List.filterMap_append]
  have h2 : ((List.range 64).map (fun j => 64 + j)).filterMap (fun d => H (stp x d)) = [] := by
    rw [List.filterMap_eq_nil_iff]
    intro d hd
    obtain ⟨j, hj, rfl⟩ := List.mem_map.1 hd
    have hj := List.mem_range.1 hj
    have := elt_end hB hx hw (d := 64 + j) (by omega) (by omega)
    unfold elt at this
    cases hh : H (stp x (64 + j)) with
    | none => rfl
    | some v => rw [hh] at this; cases this
  rw [h2, List.append_nil, List.map_filterMap]
  refine fmap_congr fun d _ => ?_
  unfold elt
  cases H (stp x d) <;> rfl

set_option maxHeartbeats 400000 in
theorem bnextk (a n : Int) (w : World) (h1 : 0 ≤ a ∧ a < 65536) (h3 : 0 ≤ n) (h4 : n ≤ 65536) :
    Calls Try.prog 44 #[.int .i64 a, .int .i64 n] w fun e w' => e = .returned (.tuple #[.int .i64 ((a + n + 65536) % 65536), .int .i64 0]) ∧ w = w' := by
  obtain ⟨h1, h2⟩ := h1
  go_enter Try.func44, Try.ntmps44
  go_wp2
  go_ret2
  exact ⟨rfl, rfl⟩
theorem bnextd (a : Int) (k : Nat) (w : World) (h1 : 0 ≤ a ∧ a < 65536) (h4 : k ≤ 65536) :
    Calls Try.prog 44 #[.int .i64 a, .int .i64 k] w fun e w' => e = .returned (.tuple #[.int .i64 (stp a k), .int .i64 0]) ∧ w = w' := by
  have h := bnextk a k w h1 (by omega) (by omega)
  rw [show (a + (k : Int) + 65536) % 65536 = stp a k from by unfold stp; omega] at h
  exact h

set_option maxRecDepth 100000 in
set_option maxHeartbeats 4000000 in
theorem holding_c {w : World} {B r m n : Nat} {wd x : Int} {H : Int → Option Int} (h : RV w B r m n wd x H) (hBd : Bd x wd H) :
    Calls Try.prog 37 #[.pointer (some ⟨r, 0, none⟩)] w fun e w' => ∃ A N c, e = .returned (.slice A N c) ∧ w'.ownsRow w.heap.size 3 1 (.slice A N c) N (((lst x H).map Hd.i).map (Value.int .i64)) ∧ Chg [] w w' := by
  have hx := h.hx
  have hlst := hl_lst hBd hx h.hw.2
  have HL := Lib.hid hlst
  have HH := Lib.hid h
  have hrl := h.lt
  have hml := h.mlt
  obtain ⟨base, hbase⟩ : ∃ base, w.heap.size = base := ⟨_, rfl⟩
  have HBase := Lib.hid hbase
  have hbz : base ≤ w.heap.size := by omega
  clear h hlst hBd hbase
  go_enter Try.func37, Try.ntmps37
  go_wp2_with fail
  go_loopw [3, 9] (fun v3 v9 wr => ∃ (k N : Nat) (A : Option Addr) (c : Nat), k ≤ 128 ∧ v9 = .int .i64 k ∧ v3 = .slice A N c ∧ N ≤ k ∧ Hid (wr.ownsRow base 3 1 (.slice A N c) N ((hl x H k).map (Value.int .i64))) ∧ Chg [] w wr) (fun _ v _ => 128 - (intOf v).toNat)
  case atStart => exact ⟨0, 0, none, 0, by omega, rfl, rfl, by omega, Lib.hid (World.ownsRow_nil _ _ _ _), Chg.refl _ _⟩
  case round =>
    obtain ⟨k, N, A, c, hk, rfl, rfl, hN, HO, hc⟩ := hrel
    have hV := HH.out.chg hc (by simp) (by simp)
    have e1 := (hV.hr.cell 1).trans rfl
    have e2 := (hV.hr.cell 2).trans rfl
    have HC := Lib.hid hc
    have HV := Lib.hid hV
    have hz := hc.size
    by_cases hlt : k < 128
    · have hlk : (k : Int) < 128 := by omega
      have hlk0 : (0 : Int) ≤ (k : Int) := by omega
      have HNx := Lib.hid (fun W : World => bnextd x k W hx (by omega))
      have HS := Lib.hid (hl_snoc x H k)
      have hsb := stp_bd x k
      generalize hsk : stp x k = sk at HNx HS hsb
      have hlk' := hV.hm.look (wf_seq hsb)
      clear hV hc hsk
      cases hH : H sk with
      | none =>
        rw [hH] at hlk' HS
        have HH2 := Lib.hid hH
        clear hH
        go_wp2_with fail
        refine (HNx.out _).mono ?_
        rintro e w' ⟨rfl, rfl⟩
        go_wp2_with fail
        go_roundw
        case rel => exact ⟨k + 1, N, A, c, by omega, by go_num, rfl, by omega, Lib.hid (by rw [HS.out]; simpa using HO.out), HC.out⟩
        case measure => simp [intOf]; omega
      | some v =>
        rw [hH] at hlk' HS
        have HH2 := Lib.hid hH
        clear hH
        go_wp2_with fail
        refine (HNx.out _).mono ?_
        rintro e w' ⟨rfl, rfl⟩
        go_wp2_with (at_builtin; refine list_app (P := Try.prog) (t := 22) Try.underlying22 rint_info rfl (by omega) (.tmp 31) (.tmp 33) base (n := N) (m := 1) (N := N + 1) rfl (by omega) (rint_one v) (by omega) (own_chg HO.out ((Chg.refl [] wr).alloc _) (by simp)) (reads_lit1 wr 3 (.int .i64 v)) (by simp; omega) (by rfl) (by rfl) (by rfl) (by rfl) ?_; intro A2 d2 W2 hown2 hgrow2 hat2; have HQ2 := Lib.hid (((Chg.refl (ownL (.slice A N c)) wr).alloc (.cells #[.int .i64 v] 3)).grown hgrow2 (fun j hj => .inl (mem_ownL.2 hj))); have HO3 := Lib.hid hown2; clear hown2 hgrow2 hat2)
        go_roundw
        case rel => exact ⟨k + 1, N + 1, A2, d2, by omega, by go_num, rfl, by omega, Lib.hid (by rw [HS.out]; simpa using HO3.out), HC.out.trans HQ2.out (fun j hj => .inr (by have := (ownL_lt HO.out j hj).1; have := HBase.out; omega))⟩
        case measure => simp [intOf]; omega
    · have hge : (128 : Int) ≤ (k : Int) := by omega
      obtain rfl : k = 128 := by omega
      clear hV hc
      go_wp2_with fail
      go_ret
      exact ⟨A, N, c, rfl, by rw [← HL.out, HBase.out]; exact HO.out, HC.out⟩

end Go.Proofs.Ytgkdlplocahnnaa
