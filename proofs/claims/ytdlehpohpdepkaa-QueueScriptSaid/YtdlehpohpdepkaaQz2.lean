/- QueueScript: act. Printed by gen/xqk.py. -/
import Derived.Test.YtdlehpohpdepkaaQj
import Derived.Test.YtdlehpohpdepkaaSome
import Derived.Deep.CutBlock
import Derived.Deep.RegionWith
namespace Go.Proofs.Ytdlehpohpdepkaa
open Go.RowKit
set_option linter.unusedVariables false
set_option linter.unusedSimpArgs false

/-- What act leaves. -/
def ActPost (w0 : World) (B0 q r c : Nat) (zs : List Int) (k : Nat) (e : Ending) (w' : World) : Prop :=
  e = .returned (.bool true) ∧ ∃ k' most mb ps, Pz w0 w' B0 q r c [] zs k' most mb ps most mb ps ∧ k' ≤ k + 12

theorem pz_head {w0 w : World} {B0 q r c k : Nat} {G : List Nat} {zs : List Int} {most mb most' mb' : Int} {ps ps' : List Pk} (h : Pz w0 w B0 q r c G zs k most mb ps most' mb' ps') :
    Calls Try.prog 28 #[.pointer (some ⟨q, 0, none⟩)] w fun e w' => e = .returned (.tuple #[.agg #[.int .i64 (popP ps).i, .int .i64 (popP ps).f, .int .i64 (popP ps).l, .int .i64 (popP ps).a, .int .i64 (popP ps).d], .bool (!ps.isEmpty)]) ∧ Chg [] w w' := by
  obtain ⟨O, O', h1, _, _, _⟩ := h.SR
  obtain ⟨s1, s2, s3, s4, s5, A, cc, s6, s7, s8⟩ := h1
  cases ps with
  | nil => exact head_none q A cc w ((s6.cell 2).trans rfl)
  | cons p t =>
    obtain ⟨hR, _, _, _⟩ := RdP.of_own s7
    rcases s7.2 with ⟨_, h0⟩ | ⟨g, cap, cur, hv, hg, hh, n1, n2, n3, n4⟩
    · simp at h0
    · injection hv with hv1 hv2 hv3
      subst hv1
      have hb : Blk w g _ cur := hh
      have hat : ∀ j, j < 5 → cur[j]? = (pkC p)[j]? := fun j hj => by
        have h5 := flat_at (p :: t) 0 (by simp) j hj
        rw [← n4, List.getElem?_take, if_pos (by simp; omega), Array.getElem?_toList] at h5
        simpa [pkAt] using h5
      exact head_some q g t.length cc p.i p.f p.l p.a p.d w ((s6.cell 2).trans rfl) ((hb.cell 0).trans (hat 0 (by omega))) ((hb.cell 1).trans (hat 1 (by omega))) ((hb.cell 2).trans (hat 2 (by omega))) ((hb.cell 3).trans (hat 3 (by omega))) ((hb.cell 4).trans (hat 4 (by omega)))
theorem pz_head_nil {w0 w : World} {B0 q r c k : Nat} {G : List Nat} {zs : List Int} {most mb most' mb' : Int} {ps' : List Pk} (h : Pz w0 w B0 q r c G zs k most mb [] most' mb' ps') :
    Calls Try.prog 28 #[.pointer (some ⟨q, 0, none⟩)] w fun e w' => e = .returned (.tuple #[.agg #[.int .i64 0, .int .i64 0, .int .i64 0, .int .i64 0, .int .i64 0], .bool false]) ∧ Chg [] w w' := pz_head h
theorem pz_head_cons {w0 w : World} {B0 q r c k : Nat} {G : List Nat} {zs : List Int} {most mb most' mb' : Int} {p : Pk} {t ps' : List Pk} (h : Pz w0 w B0 q r c G zs k most mb (p :: t) most' mb' ps') :
    Calls Try.prog 28 #[.pointer (some ⟨q, 0, none⟩)] w fun e w' => e = .returned (.tuple #[.agg #[.int .i64 p.i, .int .i64 p.f, .int .i64 p.l, .int .i64 p.a, .int .i64 p.d], .bool true]) ∧ Chg [] w w' := pz_head h
/-- What the reference's queue reads as, where the program's is as the reference's. -/
theorem pz_row {w0 w : World} {B0 q r c k : Nat} {G : List Nat} {zs : List Int} {most mb most' mb' : Int} {ps ps' : List Pk} (h : Pz w0 w B0 q r c G zs k most' mb' ps' most mb ps) :
    ∃ A cc O', (∀ W, Chg [] w W → W.cell? ⟨r, 2, none⟩ = some (.slice A ps.length cc)) ∧ RdP w O' A ps ∧ r < w.heap.size ∧ ps.length ≤ 64 := by
  obtain ⟨O, O', h1, h2, _, _⟩ := h.SR
  obtain ⟨A, cc, h9, h10, h11, h12⟩ := h2.row
  exact ⟨A, cc, O', fun W hW => ((h9.chg hW (by simp)).cell 2).trans rfl, h12, h9.lt, h2.hl⟩

theorem uchgq {c : Nat} {W w4 : World} (h : Chg [c] W w4) : ∀ b o, b < W.heap.size → ¬ b = c → w4.cell? ⟨b, o, none⟩ = W.cell? ⟨b, o, none⟩ := fun b o hb hn => h.cell (p := ⟨b, o, none⟩) hb (by simpa using hn)
theorem tabq {j : Nat} (h : j < 4) : ∃ y : Int, (#[.int .i64 0, .int .i64 60, .int .i64 262144, .int .i64 262145] : Array Value)[j]? = some (.int .i64 y) := by
  rcases j with _ | _ | _ | _ | j
  · exact ⟨_, rfl⟩
  · exact ⟨_, rfl⟩
  · exact ⟨_, rfl⟩
  · exact ⟨_, rfl⟩
  · omega

set_option maxRecDepth 100000 in
set_option maxHeartbeats 32000000 in
theorem qact_c {w0 w : World} {B0 q r c k : Nat} {zs : List Int} {most mb : Int} {ps : List Pk} (h : Pz w0 w B0 q r c [] zs k most mb ps most mb ps) (hk : k ≤ 700000) (id : Int) :
    Calls Try.prog 23 #[.pointer (some ⟨c, 0, none⟩), .pointer (some ⟨q, 0, none⟩), .pointer (some ⟨r, 0, none⟩), .int .i64 id] w (ActPost w0 B0 q r c zs k) := by
  have HP := Lib.hid h
  have HN9 := Lib.hid (next_c (n := 9) h.C (by omega) (by omega))
  have l0 := nx_nonneg zs k 9
  have l1 := nx_lt zs k 9 (by omega)
  generalize nx zs k 9 = v at HN9 l0 l1
  clear h
  go_enter Try.func23, Try.ntmps23
  go_wp2_with fail
  refine HN9.out.mono ?_
  rintro e w3 ⟨rfl, hC3, hc3⟩
  have HP3 := Lib.hid (HP.out.drawn hc3 hC3)
  have HPop := Lib.hid (fun (W : World) (k2 : Nat) (hW : Pz w0 W B0 q r c [] zs k2 most mb ps most mb ps) => pz_pop hW)
  have HRPop := Lib.hid (fun (W : World) (k2 : Nat) (hW : Pz w0 W B0 q r c [] zs k2 most mb ps.tail most mb ps) => pz_rpop hW)
  obtain ⟨p, hp⟩ : ∃ p, popP ps = p := ⟨_, rfl⟩
  obtain ⟨pe, hpe⟩ : ∃ pe, popE ps = pe := ⟨_, rfl⟩
  rw [hp, hpe] at HPop HRPop
  clear hC3 hc3 HN9 HP hp hpe
  rcases (show (v = 0 ∨ v = 1 ∨ v = 2 ∨ v = 3) ∨ v = 4 ∨ v = 5 ∨ v = 6 ∨ v = 7 ∨ v = 8 from by omega) with h3 | h3 | h3 | h3 | h3 | h3
  · clear HPop HRPop
    have HSm := Lib.hid (some_c (id := id) HP3.out.C (by omega))
    rcases h3 with rfl | rfl | rfl | rfl
    all_goals
      go_wp2_with fail
      refine HSm.out.mono ?_
      rintro e w4 ⟨i, f, l, a, d, k4, rfl, _, _, _, _, _, _, _, _, _, hC4, hk4, hc4⟩
      have HP4 := Lib.hid (HP3.out.drawn hc4 hC4)
      have HP5 := Lib.hid (HP4.out.add (.cells #[.int .i64 i, .int .i64 f, .int .i64 l, .int .i64 a, .int .i64 d] 24))
      have HB5 := Lib.hid (Blk.new w4 24 #[.int .i64 i, .int .i64 f, .int .i64 l, .int .i64 a, .int .i64 d])
      obtain ⟨mm, hmm⟩ : ∃ mm, w4.heap.size = mm := ⟨_, rfl⟩
      rw [hmm] at HB5 HP5
      clear hC4 hc4 HP4 HSm HP3
      go_upto_region 7 with fail
      clear hmm
      generalize w4.alloc (.cells #[.int .i64 i, .int .i64 f, .int .i64 l, .int .i64 a, .int .i64 d] 24) = w5 at HP5 HB5 ⊢
      have hrm : ¬ mm = r := by have := (HP5.out.gB mm (by simp)).1; have := HP5.out.rB; omega
      have HV := Lib.hid (fun W : World => valid_raw i f l a d W)
      have HRV := Lib.hid (fun W : World => rvalid_raw i f l a d W)
      obtain ⟨vb, hvb⟩ : ∃ vb, validB i f l a d = vb := ⟨_, rfl⟩
      rw [hvb] at HV HRV
      have HPu := Lib.hid (fun (W : World) (hW : Pz w0 W B0 q r c [mm] zs k4 most mb ps most mb ps) => pz_push hW i f l a d)
      have HRPu := Lib.hid (fun (W : World) (hW : Pz w0 W B0 q r c [mm] zs k4 most mb (qpL most mb ps ⟨i, f, l, a, d⟩) most mb ps) => pz_rpush hW i f l a d)
      obtain ⟨E, hE⟩ : ∃ E, qpE most mb ps ⟨i, f, l, a, d⟩ = E := ⟨_, rfl⟩
      rw [hE] at HPu HRPu
      have hvv : (vb == vb) = true := by simp
      have hEE : (E == E) = true := by simp
      have HQ0 := Lib.hid (HP5.out.quiet ((Chg.refl [] w5).drew))
      have HB0 := Lib.hid (HB5.out.drew)
      have hS0 := pk5 HB0.out
      clear hvb hE HP5 HB5
      go_region_held3 (fun w' => w'.cell? ⟨mm, 0, none⟩ = some (.int .i64 i) ∧ w'.cell? ⟨mm, 1, none⟩ = some (.int .i64 f) ∧ w'.cell? ⟨mm, 2, none⟩ = some (.int .i64 l) ∧ w'.cell? ⟨mm, 3, none⟩ = some (.int .i64 a) ∧ w'.cell? ⟨mm, 4, none⟩ = some (.int .i64 d)) (first | exact hS4 | exact hS3 | exact hS2 | exact hS1 | exact hS0 | go_keep) (first
        | (go_at_call 9; refine (HV.out _).mono ?_; rintro e v1 ⟨rfl, hc1⟩; have HQ1 := Lib.hid (HQ0.out.quiet hc1); have HB1 := Lib.hid (HB0.out.chg hc1 (by simp)); have hS1 := pk5 HB1.out; clear hc1)
        | (go_at_call 10; refine (HRV.out _).mono ?_; rintro e v2 ⟨rfl, hc2⟩; have HQ2 := Lib.hid (HQ1.out.quiet hc2); have HB2 := Lib.hid (HB1.out.chg hc2 (by simp)); have hS2 := pk5 HB2.out; clear hc2)
        | (go_at_call 19; refine (HPu.out _ HQ2.out).mono ?_; rintro e v3 ⟨rfl, hp3, hg3⟩; have HQ3 := Lib.hid hp3; have HB3 := Lib.hid (hg3 mm (by simp) _ _ HB2.out); have hS3 := pk5 HB3.out; clear hp3 hg3)
        | (go_at_call 35; refine (HRPu.out _ HQ3.out).mono ?_; rintro e v4 ⟨rfl, hp4, hc4⟩; have HQ4 := Lib.hid (hp4.sub (G' := []) (by simp)); have HB4 := Lib.hid (HB3.out.chg hc4 (by simp; exact hrm)); have hS4 := pk5 HB4.out; clear hp4 hc4))
      all_goals
        go_wp2_with fail
        go_ret
        exact ⟨rfl, _, _, _, _, HQ4.out, by omega⟩
  · subst h3
    clear HPop HRPop
    have HN12 := Lib.hid (next_c (n := 12) HP3.out.C (by omega) (by omega))
    generalize nx zs (k + 1) 12 = s at HN12
    go_wp2_with fail
    refine HN12.out.mono ?_
    rintro e w4 ⟨rfl, hC4, hc4⟩
    have HP4 := Lib.hid (HP3.out.drawn hc4 hC4)
    clear hC4 hc4 HN12 HP3
    go_wp2_with fail
    refine (pz_expire HP4.out s).mono ?_
    rintro e w5 ⟨A5, c5, O5, rfl, hR5, hO5, hP5⟩
    have HP5 := Lib.hid hP5
    have HR5 := Lib.hid hR5
    have hO5r : ∀ j ∈ O5, j ∉ [r] := fun j hj => by simp; have := hO5 j hj; have := hP5.rB; have := HP4.out.z1; omega
    have HO5 := Lib.hid hO5r
    clear hP5 hR5 hO5 hO5r
    go_wp2_with fail
    refine (pz_rexpire HP5.out s).mono ?_
    rintro e w6 ⟨A6, c6, O6, rfl, hR6, hP6, hc6⟩
    have HP6 := Lib.hid hP6
    have HR6 := Lib.hid hR6
    have HR5b := Lib.hid (HR5.out.chg hc6 HO5.out)
    have HL := Lib.hid (show (lates s ps).length ≤ 1000 from by obtain ⟨_, _, _, _, _, h64⟩ := pz_row HP5.out; have := lates_le s ps; omega)
    clear hP6 hR6 hc6 HR5 HO5 HP5
    go_wp2_with fail
    refine (eqp_c rfl HR5b.out HR6.out HL.out).mono ?_
    rintro e w7 ⟨rfl, hc7⟩
    have HP7 := Lib.hid (HP6.out.quiet hc7)
    clear hc7
    go_wp2_with fail
    go_ret
    exact ⟨rfl, _, _, _, _, HP7.out, by omega⟩
  · subst h3
    clear HPop HRPop
    go_upto_region 12 with fail
    go_cut [11, 12] (fun v1 v2 wx => ∃ n m : Int, v1 = .int .i64 n ∧ v2 = .int .i64 m ∧ Pz w0 wx B0 q r c [] zs (k + 1 + 1 + 1) most mb ps most mb ps)
    case first =>
      have HN67 := Lib.hid (fun (W : World) (hW : Chg [] w3 W) => next_c (n := 67) (HP3.out.C.chg hW (by simp) (by simp)) (by omega) (by omega))
      generalize nx zs (k + 1) 67 = u at HN67
      have HN4 := Lib.hid (fun (W : World) (hW : Cho W w0.heap.size c zs (k + 1 + 1)) => next_c (n := 4) hW (by omega) (by omega))
      have g0 := nx_nonneg zs (k + 1 + 1) 4
      have g1 := nx_lt zs (k + 1 + 1) 4 (by omega)
      generalize nx zs (k + 1 + 1) 4 = y at HN4 g0 g1
      obtain ⟨j, rfl⟩ : ∃ j : Nat, y = j := ⟨y.toNat, by omega⟩
      obtain ⟨y4, htb⟩ := tabq (show j < 4 by omega)
      have htl := htb
      rw [List.getElem?_toArray] at htl
      have hcl := HP3.out.C.lt
      have hne2 : ¬ w3.heap.size = c := by omega
      go_region_with (first
        | (go_at_call 13; have hZ := hz4; clear hZ; refine (HN4.out _ (HC4.out.chg (S := []) (by repeat (first | exact Chg.refl _ _ | refine Chg.drew ?_ | refine Chg.alloc ?_ _)) (by simp) (by simp))).mono ?_; rintro e w5 ⟨rfl, hC5, hc5⟩; have HC5 := Lib.hid hC5; have HK5 := Lib.hid (Chg.trans (S := [c]) (a := w3) (by repeat (first | exact HK4.out | refine Chg.drew ?_ | refine Chg.alloc ?_ _)) hc5 (by simp)); (first | (have bq1 := ((HBK.out.chg hc5 (by simp; exact hne2)).cell j).trans htb) | (have bq2 := (((Blk.new w4 3 #[.int .i64 0, .int .i64 60, .int .i64 262144, .int .i64 262145]).chg hc5 (by simp; exact hne4)).cell j).trans htb) | skip); clear hC5 hc5)
        | (go_at_call 13; refine (HN67.out _ (by repeat (first | exact Chg.refl _ _ | refine Chg.drew ?_ | refine Chg.alloc ?_ _))).mono ?_; rintro e w4 ⟨rfl, hC4, hc4⟩; have HC4 := Lib.hid hC4; have hz4 := hc4.size; have HK4 := Lib.hid (Chg.trans (S := [c]) (a := w3) (by repeat (first | exact Chg.refl _ _ | refine Chg.drew ?_ | refine Chg.alloc ?_ _)) hc4 (by simp)); have hne4 : ¬ w4.heap.size = c := (by have := hC4.lt; omega); (first | (have hbk := ((Blk.new w3 3 #[.int .i64 0, .int .i64 60, .int .i64 262144, .int .i64 262145]).drew).chg hc4 (by simp; exact hne2); have b0 := (hbk.cell j).trans htb; have HBK := Lib.hid hbk; clear hbk) | skip); clear hC4 hc4))
      all_goals
        go_wp2_with fail
        go_meet
        exact ⟨_, _, rfl, rfl, HP3.out.drawn (by repeat (first | exact HK5.out | refine Chg.drew ?_ | refine Chg.alloc ?_ _)) (HC5.out.chg (S := []) (by repeat (first | exact Chg.refl _ _ | refine Chg.drew ?_ | refine Chg.alloc ?_ _)) (by simp) (by simp))⟩
    case rest =>
      obtain ⟨n, m, rfl, rfl, hP4⟩ := hcut
      have HP4 := Lib.hid hP4
      clear hP4 HP3
      have HA := Lib.hid (pz_caps HP4.out n m)
      have HB := Lib.hid (fun (W : World) (hW : Pz w0 W B0 q r c [] zs (k + 1 + 1 + 1) (capN n m most) (capK n m mb) ps most mb ps) => pz_rcaps hW n m)
      obtain ⟨E, hE⟩ : ∃ E, capE n m = E := ⟨_, rfl⟩
      rw [hE] at HA HB
      have hEE : (E == E) = true := by simp
      clear hE
      go_wp2_with fail
      refine HA.out.mono ?_
      rintro e w5 ⟨rfl, hP5⟩
      have HP5 := Lib.hid hP5
      clear hP5
      go_wp2_with fail
      refine (HB.out _ HP5.out).mono ?_
      rintro e w6 ⟨rfl, hP6⟩
      have HP6 := Lib.hid hP6
      clear hP6
      go_wp2_with fail
      go_ret
      exact ⟨rfl, _, _, _, _, HP6.out, by omega⟩
  · subst h3
    clear HPop HRPop
    obtain ⟨A, cc, O', hrow, hRd, hrl, h64⟩ := pz_row HP3.out
    have HRow := Lib.hid hrow
    have HRd := Lib.hid hRd
    clear hrow hRd
    cases ps with
    | nil =>
      have HHd := Lib.hid (pz_head_nil HP3.out)
      have hpe := pk_eql 0 0 0 0 0 0 0 0 0 0
      rw [show ((0 : Int) == 0 && ((0 : Int) == 0 && ((0 : Int) == 0 && ((0 : Int) == 0 && (0 : Int) == 0)))) = true from rfl] at hpe
      go_wp2_with fail
      refine HHd.out.mono ?_
      rintro e w4 ⟨rfl, hc4⟩
      have hal : Chg [] w4 (w4.alloc (.cells #[.int .i64 0, .int .i64 0, .int .i64 0, .int .i64 0, .int .i64 0] 24)) := (Chg.refl [] _).alloc _
      have HP5 := Lib.hid (HP3.out.quiet (hc4.trans hal (by simp)))
      have hs5 := HRow.out _ (hc4.trans hal (by simp))
      rw [List.length_nil] at hs5
      obtain ⟨x0, x1, x2, x3, x4⟩ := pk5 (Blk.new w4 24 #[.int .i64 0, .int .i64 0, .int .i64 0, .int .i64 0, .int .i64 0])
      clear hc4 hal HHd HP3
      go_upto_region 16 with fail
      generalize w4.alloc (.cells #[.int .i64 0, .int .i64 0, .int .i64 0, .int .i64 0, .int .i64 0] 24) = w5 at HP5 hs5 x0 x1 x2 x3 x4 ⊢
      go_quiet (fail)
      go_wp2_with fail
      go_ret
      exact ⟨rfl, _, _, _, _, HP5.out.quiet ((Chg.refl [] _).drewN _), by omega⟩
    | cons p t =>
      have HHd := Lib.hid (pz_head_cons HP3.out)
      obtain ⟨g, off, rfl, _, hgl, y0, y1, y2, y3, y4⟩ := HRd.out.at_ (k := 0) (by simp)
      rw [show pkAt (p :: t) 0 = p from rfl] at y0 y1 y2 y3 y4
      simp only [Nat.zero_mul, Nat.add_zero] at y0 y1 y2 y3 y4
      have hpe := pk_eql p.i p.f p.l p.a p.d p.i p.f p.l p.a p.d
      rw [show (p.i == p.i && (p.f == p.f && (p.l == p.l && (p.a == p.a && p.d == p.d)))) = true from by simp] at hpe
      obtain ⟨n, hn⟩ : ∃ n, t.length = n := ⟨_, rfl⟩
      have hd1 : decide (0 < (n : Int) + 1) = true := decide_eq_true (by omega)
      have hb0 : (0 : Int) < (n : Int) + 1 := by omega
      go_wp2_with fail
      refine HHd.out.mono ?_
      rintro e w4 ⟨rfl, hc4⟩
      have hal : Chg [] w4 (w4.alloc (.cells #[.int .i64 p.i, .int .i64 p.f, .int .i64 p.l, .int .i64 p.a, .int .i64 p.d] 24)) := (Chg.refl [] _).alloc _
      have hcc := hc4.trans hal (by simp)
      have HP5 := Lib.hid (HP3.out.quiet hcc)
      have hs5 := HRow.out _ hcc
      rw [List.length_cons, hn] at hs5
      have z0 := (hcc.cell (p := ⟨g, off, none⟩) hgl (by simp)).trans y0
      have z1 := (hcc.cell (p := ⟨g, off + 1, none⟩) hgl (by simp)).trans y1
      have z2 := (hcc.cell (p := ⟨g, off + 2, none⟩) hgl (by simp)).trans y2
      have z3 := (hcc.cell (p := ⟨g, off + 3, none⟩) hgl (by simp)).trans y3
      have z4 := (hcc.cell (p := ⟨g, off + 4, none⟩) hgl (by simp)).trans y4
      obtain ⟨x0, x1, x2, x3, x4⟩ := pk5 (Blk.new w4 24 #[.int .i64 p.i, .int .i64 p.f, .int .i64 p.l, .int .i64 p.a, .int .i64 p.d])
      clear hc4 hal hcc HHd HP3 y0 y1 y2 y3 y4 hn
      go_upto_region 16 with fail
      generalize w4.alloc (.cells #[.int .i64 p.i, .int .i64 p.f, .int .i64 p.l, .int .i64 p.a, .int .i64 p.d] 24) = w5 at HP5 hs5 x0 x1 x2 x3 x4 z0 z1 z2 z3 z4 ⊢
      go_quiet (fail)
      go_wp2_with fail
      go_ret
      exact ⟨rfl, _, _, _, _, HP5.out.quiet ((Chg.refl [] _).drewN _), by omega⟩
  · subst h3
    have HN4 := Lib.hid (next_c (n := 4) HP3.out.C (by omega) (by omega))
    have j0 := nx_nonneg zs (k + 1) 4
    generalize nx zs (k + 1) 4 = z at HN4 j0
    go_wp2_with fail
    refine HN4.out.mono ?_
    rintro e w4 ⟨rfl, hC4, hc4⟩
    have HP4 := Lib.hid (HP3.out.drawn hc4 hC4)
    clear hC4 hc4 HN4 HP3
    by_cases hz : z = 0
    · subst hz
      clear HPop HRPop
      go_wp2_with fail
      refine (pz_clear HP4.out).mono ?_
      rintro e w5 ⟨A5, c5, O5, rfl, hR5, hO5, hP5⟩
      have HP5 := Lib.hid hP5
      have HR5 := Lib.hid hR5
      have HO5 := Lib.hid (show ∀ j ∈ O5, j ∉ [r] from fun j hj => by simp; have := hO5 j hj; have := HP5.out.rB; omega)
      have HL := Lib.hid (show ps.length ≤ 1000 from by obtain ⟨_, _, _, _, _, _, h64⟩ := pz_row HP4.out; omega)
      clear hP5 hR5 hO5
      go_wp2_with fail
      refine (pz_rclear HP5.out).mono ?_
      rintro e w6 ⟨A6, c6, O6, rfl, hR6, hP6, hc6⟩
      have HP6 := Lib.hid hP6
      have HR6 := Lib.hid hR6
      have HR5b := Lib.hid (HR5.out.chg hc6 HO5.out)
      clear hP6 hR6 hc6 HR5 HO5 HP5
      go_wp2_with fail
      refine (eqp_c rfl HR5b.out HR6.out HL.out).mono ?_
      rintro e w7 ⟨rfl, hc7⟩
      have HP7 := Lib.hid (HP6.out.quiet hc7)
      clear hc7
      go_wp2_with fail
      go_ret
      exact ⟨rfl, _, _, _, _, HP7.out, by omega⟩
    · have hz' : (z == 0) = false := by rw [beq_eq_false_iff_ne]; exact hz
      clear hz
      have HPop := Lib.hid (fun (W : World) (hW : Pz w0 W B0 q r c [] zs (k + 1 + 1) most mb ps most mb ps) => HPop.out W _ hW)
      have HRPop := Lib.hid (fun (W : World) (hW : Pz w0 W B0 q r c [] zs (k + 1 + 1) most mb ps.tail most mb ps) => HRPop.out W _ hW)
      have hpe := pk_eql p.i p.f p.l p.a p.d p.i p.f p.l p.a p.d
      rw [show (p.i == p.i && (p.f == p.f && (p.l == p.l && (p.a == p.a && p.d == p.d)))) = true from by simp] at hpe
      have hee : (pe == pe) = true := by simp
      go_wp2_with fail
      refine (HPop.out _ HP4.out).mono ?_
      rintro e w4 ⟨rfl, hP4⟩
      have hal : Chg [] w4 (w4.alloc (.cells #[.int .i64 p.i, .int .i64 p.f, .int .i64 p.l, .int .i64 p.a, .int .i64 p.d] 24)) := (Chg.refl [] _).alloc _
      have HP5 := Lib.hid (hP4.quiet hal)
      have HB5 := Lib.hid (Blk.new w4 24 #[.int .i64 p.i, .int .i64 p.f, .int .i64 p.l, .int .i64 p.a, .int .i64 p.d])
      have hmB : B0 ≤ w4.heap.size := hP4.z1
      obtain ⟨mm, hmm⟩ : ∃ mm, w4.heap.size = mm := ⟨_, rfl⟩
      rw [hmm] at HB5 hmB
      clear hP4 hal
      go_wp2_with fail
      clear hmm
      generalize w4.alloc (.cells #[.int .i64 p.i, .int .i64 p.f, .int .i64 p.l, .int .i64 p.a, .int .i64 p.d] 24) = w5 at HP5 HB5 ⊢
      have hrm : ¬ mm = r := by have := HP5.out.rB; omega
      refine (HRPop.out _ HP5.out).mono ?_
      rintro e w6 ⟨rfl, hP6, hc6⟩
      have hal : Chg [] w6 (w6.alloc (.cells #[.int .i64 p.i, .int .i64 p.f, .int .i64 p.l, .int .i64 p.a, .int .i64 p.d] 24)) := (Chg.refl [] _).alloc _
      have HP7 := Lib.hid (hP6.quiet hal)
      have hb6 := HB5.out.chg hc6 (by simp; exact hrm)
      have hml := hb6.lt
      obtain ⟨x0, x1, x2, x3, x4⟩ := pk5 hb6
      clear hP6 hal hc6 HP5 HB5 hb6
      go_wp2_with fail
      go_ret
      exact ⟨rfl, _, _, _, _, HP7.out, by omega⟩
  · subst h3
    have HPop := Lib.hid (fun (W : World) (hW : Pz w0 W B0 q r c [] zs (k + 1) most mb ps most mb ps) => HPop.out W _ hW)
    have HRPop := Lib.hid (fun (W : World) (hW : Pz w0 W B0 q r c [] zs (k + 1) most mb ps.tail most mb ps) => HRPop.out W _ hW)
    have hpe := pk_eql p.i p.f p.l p.a p.d p.i p.f p.l p.a p.d
    rw [show (p.i == p.i && (p.f == p.f && (p.l == p.l && (p.a == p.a && p.d == p.d)))) = true from by simp] at hpe
    have hee : (pe == pe) = true := by simp
    go_wp2_with fail
    refine (HPop.out _ HP3.out).mono ?_
    rintro e w4 ⟨rfl, hP4⟩
    have hal : Chg [] w4 (w4.alloc (.cells #[.int .i64 p.i, .int .i64 p.f, .int .i64 p.l, .int .i64 p.a, .int .i64 p.d] 24)) := (Chg.refl [] _).alloc _
    have HP5 := Lib.hid (hP4.quiet hal)
    have HB5 := Lib.hid (Blk.new w4 24 #[.int .i64 p.i, .int .i64 p.f, .int .i64 p.l, .int .i64 p.a, .int .i64 p.d])
    have hmB : B0 ≤ w4.heap.size := hP4.z1
    obtain ⟨mm, hmm⟩ : ∃ mm, w4.heap.size = mm := ⟨_, rfl⟩
    rw [hmm] at HB5 hmB
    clear hP4 hal
    go_wp2_with fail
    clear hmm
    generalize w4.alloc (.cells #[.int .i64 p.i, .int .i64 p.f, .int .i64 p.l, .int .i64 p.a, .int .i64 p.d] 24) = w5 at HP5 HB5 ⊢
    have hrm : ¬ mm = r := by have := HP5.out.rB; omega
    refine (HRPop.out _ HP5.out).mono ?_
    rintro e w6 ⟨rfl, hP6, hc6⟩
    have hal : Chg [] w6 (w6.alloc (.cells #[.int .i64 p.i, .int .i64 p.f, .int .i64 p.l, .int .i64 p.a, .int .i64 p.d] 24)) := (Chg.refl [] _).alloc _
    have HP7 := Lib.hid (hP6.quiet hal)
    have hb6 := HB5.out.chg hc6 (by simp; exact hrm)
    have hml := hb6.lt
    obtain ⟨x0, x1, x2, x3, x4⟩ := pk5 hb6
    clear hP6 hal hc6 HP5 HB5 hb6
    go_wp2_with fail
    go_ret
    exact ⟨rfl, _, _, _, _, HP7.out, by omega⟩

end Go.Proofs.Ytdlehpohpdepkaa
