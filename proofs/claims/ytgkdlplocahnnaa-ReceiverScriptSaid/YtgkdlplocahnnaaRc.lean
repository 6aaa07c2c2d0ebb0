/- The comparison of a receiver and its reference: same. -/
import Derived.Test.YtgkdlplocahnnaaRi
import Derived.Test.YtgkdlplocahnnaaRj
import Derived.Test.YtgkdlplocahnnaaRr
import Derived.Deep.RegionHeld3
import Derived.Deep.DrawnRows
import Derived.WalkSpells
namespace Go.Proofs.Ytgkdlplocahnnaa
open Go.RowKit Go.Maps
set_option linter.unusedVariables false
set_option linter.unusedSimpArgs false

theorem bm_eql (a b a' b' : Int) (w : World) : (binOp .eql 39 (.agg #[.int .i64 a, .int .u64 b]) (.agg #[.int .i64 a', .int .u64 b'])).run Try.prog w = .ok (.bool (a == a' && b == b')) w := by
  have u3 := Try.underlying3
  have a3 := Try.isAgg3
  have z3 := Try.sizeOf3
  have u4 := Try.underlying37
  have a4 := Try.isAgg37
  have z4 := Try.sizeOf37
  have hS : Try.prog.underlying 39 = some (.struct (Try.prog.fieldsOf 39)) := by kernel_rfl
  have hp : Try.prog.stoodInHeld 39 = false := by kernel_rfl
  rw [run_eql_struct, show (10000 : Nat) = 9999 + 1 from rfl, run_equalIn_agg w 9999 39 _ _ hS hp]
  simp only [Program.fieldsOf, Try.underlying39]
  go_simp
  by_cases h1 : a = a' <;> by_cases h2 : b = b' <;> simp [h1, h2]
theorem bm_neq (a b a' b' : Int) (w : World) : (binOp .neq 39 (.agg #[.int .i64 a, .int .u64 b]) (.agg #[.int .i64 a', .int .u64 b'])).run Try.prog w = .ok (.bool (!(a == a' && b == b'))) w := by
  have h := bm_eql a b a' b' w
  rw [run_eql_struct] at h
  rw [run_neq_struct]
  revert h
  cases (Op.equalIn 10000 39 (.agg #[.int .i64 a, .int .u64 b]) (.agg #[.int .i64 a', .int .u64 b'])).run Try.prog w with
  | ok b w' => intro h; simp at h ⊢; obtain ⟨h1, h2⟩ := h; simp [h1, h2]
  | _ => intro h; simp at h

theorem bits_some (x : Int) (H : Int → Option Int) : ∃ b0, ∀ b, BitsP b (hldP x H) → b = b0 := by
  by_cases h : ∃ b, BitsP b (hldP x H)
  · obtain ⟨b1, h1⟩ := h
    exact ⟨b1, fun b hb => hb.uniq h1⟩
  · exact ⟨0, fun b hb => absurd ⟨b, hb⟩ h⟩
theorem bd_acks {x wd : Int} {H : Int → Option Int} (hB : Bd x wd H) (hw : wd ≤ 64) : ∀ k, H k ≠ none → 0 ≤ k ∧ k < 65536 ∧ dst x k < 64 := fun k hk => by
  cases hh : H k with
  | none => exact absurd hh hk
  | some v => have := hB k v hh; omega
theorem holds_any {x wd id : Int} {H : Int → Option Int} (hB : Bd x wd H) (hx : 0 ≤ x ∧ x < 65536) (hw : wd ≤ 64) {b : Bool} (h : b = true ↔ ∃ k, wfI k ∧ H k = some id) : b = (lst x H).any fun p => p.i == id := by
  rw [Bool.eq_iff_iff, h, List.any_eq_true]
  constructor
  · rintro ⟨k, _, hk⟩
    exact ⟨⟨k, id⟩, (mem_lst hB hx hw _).2 hk, by simp⟩
  · rintro ⟨p, hp, he⟩
    have h1 := (mem_lst hB hx hw p).1 hp
    rw [show p.i = id from by simpa using he] at h1
    have := (hB _ _ h1).1
    exact ⟨p.q, wfI_of (by omega) (by omega), h1⟩

set_option maxRecDepth 100000 in
set_option maxHeartbeats 16000000 in
theorem same_c {w : World} {B r m n s : Nat} {O : List Nat} {wd x : Int} {H : Int → Option Int} (hV : RV w B r m n wd x H) (hF : RF w B s O wd x (lst x H)) (hBd : Bd x wd H) (id : Int) :
    Calls Try.prog 23 #[.pointer (some ⟨r, 0, none⟩), .pointer (some ⟨s, 0, none⟩), .int .i64 id] w fun e w' => e = .returned (.bool true) ∧ Chg [] w w' := by
  have hx := hV.hx
  have hw64 := hV.hw.2
  obtain ⟨A, c, h9, h10⟩ := hF.split
  obtain ⟨n0, hn⟩ : ∃ n0, (lst x H).length = n0 := ⟨_, rfl⟩
  have hn64 : n0 ≤ 64 := by have := lst_le x H; omega
  have HN := Lib.hid hn
  rw [hn] at h9
  have e1 := (h9.cell 1).trans rfl
  have e2 := (h9.cell 2).trans rfl
  have hsl := h9.lt
  obtain ⟨b0, hb0⟩ := bits_some x H
  have HAk := Lib.hid (fun (W : World) (hW : Chg [] w W) => (acks_c (hV.chg hW (by simp) (by simp)) (bd_acks hBd hw64)).mono (R' := fun e w' => e = .returned (.agg #[.int .i64 x, .int .u64 b0]) ∧ Chg [] W w') (by rintro e w' ⟨b, rfl, hb, hc⟩; exact ⟨by rw [hb0 b hb], hc⟩))
  have HRk := Lib.hid (fun (W : World) (hW : Chg [] w W) => (racks_c (hF.chg hW (by simp) (by simp)) hBd).mono (R' := fun e w' => e = .returned (.agg #[.int .i64 x, .int .u64 b0]) ∧ Chg [] W w') (by rintro e w' ⟨b, rfl, hb, hc⟩; exact ⟨by rw [hb0 b hb], hc⟩))
  have HEx := Lib.hid (fun (W : World) (hW : Chg [] w W) => expected_c (hV.chg hW (by simp) (by simp)))
  have HHg := Lib.hid (fun (W : World) (hW : Chg [] w W) => holding_c (hV.chg hW (by simp) (by simp)) hBd)
  have HHd := Lib.hid (fun (W : World) (hW : Chg [] w W) => (holds_c (hV.chg hW (by simp) (by simp)) id).mono (R' := fun e w' => e = .returned (.bool ((lst x H).any fun p => p.i == id)) ∧ Chg [] W w') (by rintro e w' ⟨b, rfl, hb, hc⟩; exact ⟨ret_bool (holds_any hBd hx hw64 hb), hc⟩))
  have HRh := Lib.hid (fun (W : World) (hW : Chg [] w W) => rholds_c (hF.chg hW (by simp) (by simp)) id)
  obtain ⟨t, ht⟩ : ∃ t, ((lst x H).any fun p => p.i == id) = t := ⟨_, rfl⟩
  rw [ht] at HHd HRh
  have hbe := bm_eql x b0 x b0
  rw [show (x == x && b0 == b0) = true from by simp] at hbe
  have htt : (t == t) = true := by simp
  clear h9 hn hb0 ht hF hV hBd
  go_enter Try.func23, Try.ntmps23
  go_wp2_with fail
  go_loopw [7, 8] (fun v7 v8 wr => ∃ (k : Nat) (A2 : Option Addr) (c2 : Nat), k ≤ n0 ∧ v8 = .int .i64 k ∧ v7 = .slice A2 k c2 ∧ Hid (wr.ownsRow w.heap.size 3 1 (.slice A2 k c2) k ((((lst x H).take k).map Hd.i).map (Value.int .i64))) ∧ Chg [] w wr) (fun _ v _ => n0 - (intOf v).toNat)
  case atStart => exact ⟨0, none, 0, by omega, rfl, rfl, Lib.hid (by simpa using World.ownsRow_nil _ _ _ _), Chg.refl _ _⟩
  case round =>
    obtain ⟨k, A2, c2, hk, rfl, rfl, HO, hc⟩ := hrel
    have e3 := (hc.cell (p := ⟨s, 2, none⟩) (block_lt_of_cell e2) (by simp)).trans e2
    have HC := Lib.hid hc
    have hz := hc.size
    by_cases hlt : k < n0
    · have hkl : k < (lst x H).length := by have := HN.out; omega
      rcases h10 with ⟨_, _, h0⟩ | ⟨g, rfl, hg, hgO, hgs, hr⟩
      · exact absurd hkl (by rw [h0]; simp)
      · obtain ⟨c0, c1⟩ := row_hd (hr.chg hc (by simp)) hkl
        have HS := Lib.hid (show (((lst x H).take (k + 1)).map Hd.i).map (Value.int .i64) = (((lst x H).take k).map Hd.i).map (Value.int .i64) ++ [.int .i64 (lst x H)[k].i] from by rw [List.take_succ_eq_append_getElem hkl, List.map_append, List.map_append]; rfl)
        generalize (lst x H)[k] = p at c0 c1 HS
        have hI : (k : Int) < (n0 : Int) := by omega
        have hJ : (0 : Int) ≤ (k : Int) := by omega
        clear hr hc
        go_wp2_with (at_builtin; refine list_app (P := Try.prog) (t := 22) Try.underlying22 rint_info rfl (by omega) (.tmp 18) (.tmp 27) w.heap.size (n := k) (m := 1) (N := k + 1) rfl (by omega) (rint_one p.i) (by omega) (own_chg HO.out ((Chg.refl [] wr).alloc _) (by simp)) (reads_lit1 wr 3 (.int .i64 p.i)) (by simp; omega) (by rfl) (by rfl) (by rfl) (by rfl) ?_; intro A3 d3 W2 hown2 hgrow2 hat2; have HQ2 := Lib.hid (((Chg.refl (ownL (.slice A2 k c2)) wr).alloc (.cells #[.int .i64 p.i] 3)).grown hgrow2 (fun j hj => .inl (mem_ownL.2 hj))); have HO3 := Lib.hid hown2; clear hown2 hgrow2 hat2)
        go_roundw
        case rel => exact ⟨k + 1, A3, d3, by omega, by go_num, rfl, Lib.hid (by rw [HS.out]; exact HO3.out), HC.out.trans HQ2.out (fun j hj => .inr (ownL_lt HO.out j hj).1)⟩
        case measure => simp [intOf]; omega
    · have hge : (n0 : Int) ≤ (k : Int) := by omega
      obtain rfl : k = n0 := by omega
      have hO := HO.out
      rw [List.take_of_length_le (by have := HN.out; omega)] at hO
      have hS0 : wr.drew.cell? ⟨s, 1, none⟩ = some (.int .i64 x) := (hc.cell (p := ⟨s, 1, none⟩) (block_lt_of_cell e1) (by simp)).trans e1
      obtain ⟨hLl, gL, hgL, hRL, _⟩ := own_rdr hO (by simp; have := HN.out; omega)
      have HRL := Lib.hid hRL
      have HLl := Lib.hid hLl
      have C0 := Lib.hid (HC.out.drew)
      have hK := fun (W : World) (hW : Chg [] w W) => (hW.cell (p := ⟨s, 1, none⟩) (block_lt_of_cell e1) (by simp)).trans e1
      have HK := Lib.hid hK
      have HEq := Lib.hid (fun (W : World) (A5 : Option Addr) (N5 c5 g5 : Nat) (h1 : ((lst x H).map Hd.i).length = N5) (h2 : Rd W g5 A5 ((lst x H).map Hd.i)) (hW : Chg [] wr W) => equal_q (c := c5) (d := c2) h1 hLl h2 (hRL.chg hW (by simp)))
      rw [decide_eq_true rfl] at HEq
      clear hO hRL hLl HO hK hc HN h10 HC
      go_wp2_with fail
      go_region_held3 (fun w' => w'.cell? ⟨s, 1, none⟩ = some (.int .i64 x)) (first | exact hS6 | exact hS5 | exact hS4 | exact hS3 | exact hS2 | exact hS1 | exact hS0 | go_keep) (first
        | (go_at_call 15; refine (HAk.out _ C0.out).mono ?_; rintro e w1 ⟨rfl, hc1⟩; have D1 := Lib.hid (hc1); have C1 := Lib.hid (C0.out.trans hc1 (by simp)); have hS1 := HK.out _ C1.out; clear hc1)
        | (go_at_call 36; refine (HRk.out _ C1.out).mono ?_; rintro e w2 ⟨rfl, hc2⟩; have D2 := Lib.hid (D1.out.trans hc2 (by simp)); have C2 := Lib.hid (C1.out.trans hc2 (by simp)); have hS2 := HK.out _ C2.out; clear hc2)
        | (go_at_call 11; refine (HEx.out _ C2.out).mono ?_; rintro e w3 ⟨rfl, hc3⟩; have D3 := Lib.hid (D2.out.trans hc3 (by simp)); have C3 := Lib.hid (C2.out.trans hc3 (by simp)); have hS3 := HK.out _ C3.out; clear hc3)
        | (go_at_call 37; refine (HHg.out _ C3.out).mono ?_; rintro e w4 ⟨A5, N5, c5, rfl, ho5, hc4⟩; have D4 := Lib.hid (D3.out.trans hc4 (by simp)); have C4 := Lib.hid (C3.out.trans hc4 (by simp)); have hS4 := HK.out _ C4.out; obtain ⟨hl5, g5, hg5, hR5, _⟩ := own_rdr ho5 (by have := ho5.1; have := lst_le x H; simp; omega); have HL5 := Lib.hid hl5; have HR5 := Lib.hid hR5; clear hc4 ho5 hl5 hR5)
        | (go_at_call 21; refine (HEq.out _ _ _ _ _ HL5.out HR5.out (((Chg.refl [] wr).drew).trans D4.out (by simp))).mono ?_; rintro e w5 ⟨rfl, hc5⟩; have C5 := Lib.hid (C4.out.trans hc5 (by simp)); have hS5 := HK.out _ C5.out; clear hc5)
        | (go_at_call 12; refine (HHd.out _ C5.out).mono ?_; rintro e w6 ⟨rfl, hc6⟩; have C6 := Lib.hid (C5.out.trans hc6 (by simp)); have hS6 := HK.out _ C6.out; clear hc6)
        | (go_at_call 38; refine (HRh.out _ C6.out).mono ?_; rintro e w7 ⟨rfl, hc7⟩; have C7 := Lib.hid (C6.out.trans hc7 (by simp)); have hS6 := HK.out _ C7.out; clear hc7))
      all_goals
        go_wp2_with fail
        go_ret
        exact ⟨rfl, C7.out⟩

end Go.Proofs.Ytgkdlplocahnnaa
