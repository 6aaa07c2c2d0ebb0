/- The reference's receiver: Receive. Printed by gen/xru.py. -/
import Derived.Test.YtgkdlplocahnnaaRx2
import Derived.Deep.LoopGhost
import Derived.Deep.DeepCutAuto
import Derived.Deep.CutBlock
namespace Go.Proofs.Ytgkdlplocahnnaa
open Go.RowKit Go.Maps
set_option linter.unusedVariables false
set_option linter.unusedSimpArgs false

set_option maxHeartbeats 1000000 in
theorem rinside_c (w : World) (b wd s : Int) (hw : 1 ≤ wd ∧ wd ≤ 64) :
    Calls Try.prog 33 #[.int .i64 b, .int .i64 wd, .int .i64 s] w fun e w' => e = .returned (.bool (insB b wd s)) ∧ w = w' := by
  obtain ⟨hw0, hw1⟩ := hw
  by_cases hb : seqP b ∧ seqP s
  · have HD := Lib.hid (fun W : World => rdist_ok b s W hb.1 hb.2)
    have HE := Lib.hid (show insB b wd s = decide (dst b s < wd) from by unfold insB; exact decide_eq_decide.2 ⟨fun h => h.2.2, fun h => ⟨hb.1, hb.2, h⟩⟩)
    generalize dst b s = d at HD HE
    clear hb
    go_enter Try.func33, Try.ntmps33
    go_wp2_with fail
    refine (HD.out _).mono ?_
    rintro e w' ⟨rfl, rfl⟩
    go_wp2_with fail
    go_ret
    exact ⟨by rw [HE.out]; rfl, rfl⟩
  · have HD := Lib.hid (rdist b s)
    rw [show distE b s = 1 from if_neg (fun h => hb ⟨⟨h.1, h.2.1⟩, h.2.2.1, h.2.2.2⟩)] at HD
    have HE := Lib.hid (show insB b wd s = false from by unfold insB; exact decide_eq_false (fun h => hb ⟨h.1, h.2.1⟩))
    generalize distV b s = d at HD
    clear hb
    go_enter Try.func33, Try.ntmps33
    go_wp2_with fail
    refine (HD.out _).mono ?_
    rintro e w' ⟨rfl, rfl⟩
    go_wp2_with fail
    go_ret
    exact ⟨by rw [HE.out]; rfl, rfl⟩

set_option maxRecDepth 100000 in
set_option maxHeartbeats 2000000 in
theorem rrcv_bad {w : World} {B s : Nat} {O : List Nat} {wd x b q id : Int} {ps : List Hd} (h : RF w B s O wd x ps) (hb : ¬ (seqP b ∧ seqP q ∧ 1 ≤ id)) :
    Calls Try.prog 22 #[.pointer (some ⟨s, 0, none⟩), .int .i64 b, .int .i64 q, .int .i64 id] w fun e w' => e = .returned (.tuple #[.slice none 0 0, .int .i64 1]) ∧ Chg [] w w' := by
  obtain ⟨A, c, h9, _⟩ := h.row
  have e1 := (h9.cell 1).trans rfl
  have hx := h.hx
  have HD1 := Lib.hid (rdist x b)
  have HD2 := Lib.hid (rdist b x)
  have HD3 := Lib.hid (rdist b q)
  have hE1 : distE x b = 1 ∨ (distE x b = 0 ∧ distE b q = 1) ∨ (distE x b = 0 ∧ distE b q = 0 ∧ id < 1) := by
    by_cases hs : seqP b
    · have e1 : distE x b = 0 := if_pos ⟨hx.1, hx.2, hs.1, hs.2⟩
      by_cases hq : seqP q
      · exact .inr (.inr ⟨e1, if_pos ⟨hs.1, hs.2, hq.1, hq.2⟩, Int.not_le.1 fun hi => hb ⟨hs, hq, hi⟩⟩)
      · exact .inr (.inl ⟨e1, if_neg fun h => hq ⟨h.2.2.1, h.2.2.2⟩⟩)
    · exact .inl (if_neg fun h => hs ⟨h.2.2.1, h.2.2.2⟩)
  generalize distV x b = d1 at HD1
  generalize distE x b = y1 at HD1 hE1
  generalize distV b x = d2 at HD2
  generalize distE b x = y2 at HD2
  generalize distV b q = d3 at HD3
  generalize distE b q = y3 at HD3 hE1
  clear h h9 hb
  rcases hE1 with rfl | ⟨rfl, rfl⟩ | ⟨rfl, rfl, hid⟩
  all_goals
    go_enter Try.func22, Try.ntmps22
    go_wp2_with fail
    refine (HD1.out _).mono ?_
    rintro e w' ⟨rfl, rfl⟩
    go_wp2_with fail
    refine (HD2.out _).mono ?_
    rintro e w' ⟨rfl, rfl⟩
    go_wp2_with fail
    refine (HD3.out _).mono ?_
    rintro e w' ⟨rfl, rfl⟩
    go_wp2_with fail
    go_ret2
    exact ⟨rfl, Chg.refl _ _⟩

set_option maxRecDepth 100000 in
set_option maxHeartbeats 4000000 in
theorem rrcv_out {w : World} {B s : Nat} {O : List Nat} {wd x b q id : Int} {ps : List Hd} (h : RF w B s O wd x ps) (hb : seqP b ∧ seqP q ∧ 1 ≤ id) (ho : ¬ (mvE x wd b = 0 ∧ insB b wd q = true)) :
    Calls Try.prog 22 #[.pointer (some ⟨s, 0, none⟩), .int .i64 b, .int .i64 q, .int .i64 id] w fun e w' => e = .returned (.tuple #[.slice none 0 0, .int .i64 2]) ∧ Chg [] w w' := by
  obtain ⟨A, c, h9, _⟩ := h.row
  have e0 := (h9.cell 0).trans rfl
  have e1 := (h9.cell 1).trans rfl
  have hx := h.hx
  obtain ⟨hs, hq, hid⟩ := hb
  have HD1 := Lib.hid (fun W : World => rdist_ok x b W hx hs)
  have HD2 := Lib.hid (fun W : World => rdist_ok b x W hs hx)
  have HD3 := Lib.hid (fun W : World => rdist_ok b q W hs hq)
  have HI := Lib.hid (fun W : World => rinside_c W b wd q h.hw)
  have hor : (32768 ≤ dst x b ∧ wd < dst b x) ∨ (¬ (32768 ≤ dst x b ∧ wd < dst b x) ∧ insB b wd q = false) := by
    by_cases hq2 : 32768 ≤ dst x b ∧ wd < dst b x
    · exact .inl hq2
    · refine .inr ⟨hq2, ?_⟩
      have hm : mvE x wd b = 0 := by
        unfold mvE
        rw [if_pos hs, if_neg]
        unfold dst seqP at *
        omega
      cases hi : insB b wd q with
      | false => rfl
      | true => exact absurd ⟨hm, hi⟩ ho
  generalize dst x b = d1 at HD1 hor
  generalize dst b x = d2 at HD2 hor
  generalize dst b q = d3 at HD3
  generalize insB b wd q = t at HI hor
  clear h h9 ho hs hq
  have hor' : (32768 ≤ d1 ∧ wd < d2) ∨ (d1 < 32768 ∧ t = false) ∨ ((32768 ≤ d1 ∧ d2 ≤ wd) ∧ t = false) := by
    rcases hor with h | ⟨h, ht⟩
    · exact .inl h
    · by_cases h1 : d1 < 32768
      · exact .inr (.inl ⟨h1, ht⟩)
      · exact .inr (.inr ⟨by omega, ht⟩)
  clear hor
  rcases hor' with ⟨h1, h2⟩ | ⟨h1, rfl⟩ | ⟨⟨h1, h2⟩, rfl⟩
  · go_enter Try.func22, Try.ntmps22
    go_wp2_with fail
    refine (HD1.out _).mono ?_
    rintro e w' ⟨rfl, rfl⟩
    go_wp2_with fail
    refine (HD2.out _).mono ?_
    rintro e w' ⟨rfl, rfl⟩
    go_wp2_with fail
    refine (HD3.out _).mono ?_
    rintro e w' ⟨rfl, rfl⟩
    go_wp2_with fail
    go_ret2
    exact ⟨rfl, Chg.refl _ _⟩
  all_goals
    go_enter Try.func22, Try.ntmps22
    go_wp2_with fail
    refine (HD1.out _).mono ?_
    rintro e w' ⟨rfl, rfl⟩
    go_wp2_with fail
    refine (HD2.out _).mono ?_
    rintro e w' ⟨rfl, rfl⟩
    go_wp2_with fail
    refine (HD3.out _).mono ?_
    rintro e w' ⟨rfl, rfl⟩
    go_wp2_with fail
    refine (HI.out _).mono ?_
    rintro e w' ⟨rfl, rfl⟩
    go_wp2_with fail
    go_ret2
    exact ⟨rfl, Chg.refl _ _⟩

def thB (t : Bool) (q : Int) (ps : List Hd) : Bool := t || ps.any fun p => p.q == q
theorem thB_snoc {t : Bool} {q : Int} {ps : List Hd} {k : Nat} (hk : k < ps.length) : thB t q (ps.take (k + 1)) = (thB t q (ps.take k) || (ps[k].q == q)) := by
  unfold thB
  rw [List.take_succ_eq_append_getElem hk, List.any_append]
  simp [Bool.or_assoc]
theorem th_st {x wd q : Int} {H : Int → Option Int} (hB : Bd x wd H) (hx : 0 ≤ x ∧ x < 65536) (hw : wd ≤ 64) : thB (befB q x) q (lst x H) = true ↔ ((H q).isSome = true ∨ befB q x = true) := by
  unfold thB
  rw [Bool.or_eq_true, List.any_eq_true]
  constructor
  · rintro (h | ⟨p, hp, he⟩)
    · exact .inr h
    · have := (mem_lst hB hx hw p).1 hp
      rw [show p.q = q from by simpa using he] at this
      exact .inl (by rw [this]; rfl)
  · rintro (h | h)
    · obtain ⟨v, hv⟩ := Option.isSome_iff_exists.1 h
      exact .inr ⟨⟨q, v⟩, (mem_lst hB hx hw ⟨q, v⟩).2 hv, by simp⟩
    · exact .inl h

/-- What stands at the head of Receive's first loop. -/
def SgRel (w wr : World) (B s : Nat) (O : List Nat) (base : Nat) (wd b x : Int) (H : Int → Option Int) (gk : Nat) (v : Value) : Prop :=
  ∃ A c N x1 H1 o1 O1, v = .slice A N c ∧ wr.ownsRow base 3 1 (.slice A N c) N (o1.map (Value.int .i64)) ∧ RF wr B s O1 wd x1 (lst x1 H1) ∧ Bd x1 wd H1 ∧ (∀ x' H' o', Skp b x1 H1 o1 x' H' o' → Skp b x H [] x' H' o') ∧ gk = (dst x1 b).toNat ∧ dst x1 b < 32768 ∧ N + gk ≤ 32768 ∧ base ≤ wr.heap.size ∧ Chg [s] w wr ∧ ∀ j ∈ O1, j ∈ O ∨ w.heap.size ≤ j
/-- Behind the move to the base. -/
def SfEnd (w wr : World) (B s : Nat) (O : List Nat) (base : Nat) (wd b x : Int) (H : Int → Option Int) (v : Value) : Prop :=
  ∃ A c N x1 H1 o1 O1, v = .slice A N c ∧ wr.ownsRow base 3 1 (.slice A N c) N (o1.map (Value.int .i64)) ∧ RF wr B s O1 wd x1 (lst x1 H1) ∧ Bd x1 wd H1 ∧ Skp b x H [] x1 H1 o1 ∧ N ≤ 32768 ∧ base ≤ wr.heap.size ∧ Chg [s] w wr ∧ ∀ j ∈ O1, j ∈ O ∨ w.heap.size ≤ j
/-- What Receive leaves. -/
def RfRcv (w : World) (B s : Nat) (O : List Nat) (wd b x q id : Int) (H : Int → Option Int) (w' : World) (A : Option Addr) (N c : Nat) : Prop :=
  ∃ x1 H1 o1 x2 H2 o2 O', w'.ownsRow w.heap.size 3 1 (.slice A N c) N (o2.map (Value.int .i64)) ∧ N ≤ 100000 ∧ Skp b x H [] x1 H1 o1 ∧ Rls x1 (stH H1 x1 q id) o1 x2 H2 o2 ∧ RF w' B s O' wd x2 (lst x2 H2) ∧ (∀ j ∈ O', j ∈ O ∨ w.heap.size ≤ j) ∧ Chg [s] w w'
theorem bef_self (b : Int) : befB b b = false := by
  unfold befB dst
  exact decide_eq_false (by omega)
theorem bef_of {x b : Int} (hx : 0 ≤ x ∧ x < 65536) (hb : seqP b) (hd : dst x b < 32768) (hne : x ≠ b) : befB x b = true := by
  unfold befB
  unfold seqP at hb
  refine decide_eq_true ?_
  unfold dst at *
  omega
theorem dst_step {x b : Int} (hx : 0 ≤ x ∧ x < 65536) (hb : seqP b) (hne : x ≠ b) : (dst ((x + 1) % 65536) b).toNat < (dst x b).toNat ∧ dst ((x + 1) % 65536) b < dst x b := by
  unfold seqP at hb
  unfold dst
  omega

set_option maxRecDepth 100000 in
set_option maxHeartbeats 16000000 in
theorem rrcv_ok {w : World} {B s : Nat} {O : List Nat} {wd x b q id : Int} {H : Int → Option Int} (h : RF w B s O wd x (lst x H)) (hBd : Bd x wd H) (hB : B ≤ w.heap.size) (hb : seqP b ∧ seqP q ∧ 1 ≤ id) (hm0 : mvE x wd b = 0) (hi0 : insB b wd q = true) :
    Calls Try.prog 22 #[.pointer (some ⟨s, 0, none⟩), .int .i64 b, .int .i64 q, .int .i64 id] w fun e w' => ∃ A N c, e = .returned (.tuple #[.slice A N c, .int .i64 0]) ∧ RfRcv w B s O wd b x q id H w' A N c := by
  obtain ⟨base, hbase⟩ : ∃ base, w.heap.size = base := ⟨_, rfl⟩
  have HBase := Lib.hid hbase
  have hBb : B ≤ base := by omega
  have hbz : base ≤ w.heap.size := by omega
  obtain ⟨A, c, h9, _⟩ := h.row
  have e0 := (h9.cell 0).trans rfl
  have e1 := (h9.cell 1).trans rfl
  have hx := h.hx
  obtain ⟨hs, hq, hid⟩ := hb
  have hnb := (mv_ok hm0).2
  have hor : dst x b < 32768 ∨ (32768 ≤ dst x b ∧ dst b x ≤ wd) := by unfold dst seqP at *; omega
  have HD1 := Lib.hid (fun W : World => rdist_ok x b W hx hs)
  have HD2 := Lib.hid (fun W : World => rdist_ok b x W hs hx)
  have HD3 := Lib.hid (fun W : World => rdist_ok b q W hs hq)
  have HI := Lib.hid (fun W : World => rinside_c W b wd q h.hw)
  rw [hi0] at HI
  have HBf := Lib.hid (fun W : World => rbef x b W)
  have HSx := Lib.hid (fun x1 (h1 : x1 = if befB x b = true then b else x) (h2 : befB q x1 = false) => show dst x1 q < wd from by subst h1; exact ins_dst hx h.hw hm0 hi0 h2)
  have HST := Lib.hid (show befB x b = true → SgRel w w B s O base wd b x H (dst x b).toNat (.slice none 0 0) from fun ht => ⟨none, 0, 0, x, H, [], O, rfl, World.ownsRow_nil _ _ _ _, h, hBd, fun _ _ _ h => h, rfl, by have := of_decide_eq_true (show decide _ = true from ht); omega, by have := of_decide_eq_true (show decide _ = true from ht); omega, hbz, Chg.refl _ _, fun j hj => .inl hj⟩)
  have HSF := Lib.hid (show befB x b = false → SfEnd w w B s O base wd b x H (.slice none 0 0) from fun ht => ⟨none, 0, 0, x, H, [], O, rfl, World.ownsRow_nil _ _ _ _, h, hBd, .stop ht, by omega, hbz, Chg.refl _ _, fun j hj => .inl hj⟩)
  have hw64 := h.hw
  obtain ⟨t, ht⟩ : ∃ t, befB x b = t := ⟨_, rfl⟩
  rw [ht] at HBf
  have HT := Lib.hid ht
  have HSkE := Lib.hid (fun (x1 : Int) (H1 : Int → Option Int) (o1 : List Int) (hS : Skp b x H [] x1 H1 o1) => skp_end hS hx hs)
  generalize dst x b = d1 at HD1 hor HST
  generalize dst b x = d2 at HD2 hor
  generalize dst b q = d3 at HD3
  clear h h9 hnb hm0 hi0 hBd hbase ht
  go_enter Try.func22, Try.ntmps22
  go_wp2_with fail
  refine (HD1.out _).mono ?_
  rintro e w' ⟨rfl, rfl⟩
  go_wp2_with fail
  refine (HD2.out _).mono ?_
  rintro e w' ⟨rfl, rfl⟩
  go_wp2_with fail
  refine (HD3.out _).mono ?_
  rintro e w' ⟨rfl, rfl⟩
  go_upto_region 6 with fail
  go_cut [74] (fun v wx => v = .bool false ∧ w = wx)
  case first =>
    rcases hor with hor | ⟨hor, hor2⟩
    rotate_left
    have hdd : decide (wd < d2) = false := by simp; omega
    all_goals
      go_wp2_with fail
      refine (HI.out _).mono ?_
      rintro e w' ⟨rfl, rfl⟩
      go_wp2_with fail
      go_meet
      exact ⟨rfl, rfl⟩
  case rest =>
    obtain ⟨rfl, rfl⟩ := hcut
    clear HD1 HD2 HD3 HI hor
    go_wp2_with fail
    refine (HBf.out _).mono ?_
    rintro e w' ⟨rfl, rfl⟩
    go_upto_if 80 with fail
    go_cut [16] (fun v wx => SfEnd w wx B s O base wd b x H v)
    case first =>
      cases t with
      | false =>
        have HI := Lib.hid (HSF.out HT.out)
        go_wp2_with fail
        go_meet
        exact HI.out
      | true =>
        have HI := Lib.hid (HST.out HT.out)
        clear HST HSF HBf HSx HSkE
        go_wp2_with fail
        go_loopg [16, 17] d1.toNat (fun gk v _ wr => SgRel w wr B s O base wd b x H gk v)
        case atStart => exact HI.out
        case round =>
          clear HI
          obtain ⟨A1, c1, N1, x1, H1, o1, O1, rfl, hown, hV, hbd, hR, hg, hd, hN, hz, hc, hOs⟩ := hrel
          obtain ⟨O3, hO3, hV3, hA3, hsO⟩ := hV.apart hown
          have hOs3 : ∀ j ∈ O3, j ∈ O ∨ w.heap.size ≤ j := fun j hj => hOs j (hO3 j hj)
          have e1 := (hV3.blk1).1
          have HV := Lib.hid hV3
          have HO := Lib.hid hown
          have HR := Lib.hid hR
          have HBd := Lib.hid hbd
          have HC := Lib.hid hc
          have HZ := Lib.hid hz
          have HOs := Lib.hid hOs3
          have hx1 := hV3.hx
          have hBw : B ≤ wr.heap.size := by omega

          by_cases hxb : x1 = b
          · have hxb' : (x1 != b) = false := by simp [hxb]
            have HSk := Lib.hid (HR.out _ _ _ (.stop (by rw [hxb]; exact bef_self b)))
            clear hV hV3 hown hR hbd hc hz hOs hOs3 hO3 hA3 hg hd hxb
            go_wp2_with fail
            go_meet
            exact ⟨A1, c1, N1, x1, H1, o1, O3, rfl, HO.out, HV.out, HBd.out, HSk.out, by omega, HZ.out, HC.out, HOs.out⟩
          · have hxb' : (x1 != b) = true := by rw [bne_iff_ne]; exact hxb
            have HB := Lib.hid (bef_of hx1 hs hd hxb)
            have HSt := Lib.hid (dst_step hx1 hs hxb)
            have HG := Lib.hid hg
            have HDd := Lib.hid hd
            clear hV hV3 hown hR hbd hc hz hOs hOs3 hO3 hA3 hg hd hxb
            go_wp2_with fail
            cases hH : H1 x1 with
            | none =>
              refine (tknext_c HV.out HBd.out hBw).mono ?_
              rintro e w2 ⟨rfl, O5, hV5, hO5, hc2⟩
              have hHN := Lib.hid hH
              rw [hH]
              clear hH
              have HO2 := Lib.hid (own_chg HO.out hc2 (fun g hg => by simp; rintro rfl; exact hsO (mem_ownL.2 hg)))
              obtain ⟨O2, hO25, hV2, hA2, hsO2⟩ := hV5.apart HO2.out
              have hO2 : ∀ j ∈ O2, j ∈ O3 ∨ wr.heap.size ≤ j := fun j hj => hO5 j (hO25 j hj)
              have hg1 := (hV2.blk1).1
              have hg2 := (hV2.blk1).2
              have HV2 := Lib.hid hV2
              have HA2 := Lib.hid (And.intro hA2 hsO2)
              have HC2 := Lib.hid (HC.out.trans hc2 (by simp))
              have HZ2 := Lib.hid (show base ≤ w2.heap.size from Nat.le_trans HZ.out hc2.size)
              have HOO := Lib.hid (show ∀ j ∈ O2, j ∈ O ∨ w.heap.size ≤ j from fun j hj => by
                rcases hO2 j hj with h | h
                · exact HOs.out j h
                · exact .inr (by have := HC.out.size; omega))
              clear hV2 hO2 hc2 hV5 hO5 hO25 hA2 hsO2
              have HREL := Lib.hid (show SgRel w (w2.setCell ⟨s, 1, none⟩ (.int .i64 ((x1 + 1) % 65536))) B s O base wd b x H (dst ((x1 + 1) % 65536) b).toNat (.slice A1 N1 c1) from ⟨A1, c1, N1, _, _, (o1 ++ (H1 x1).toList), O2, rfl, (by have h7 := own_chg HO2.out ((Chg.refl [s] _).setCell (p := ⟨s, 1, none⟩) (by simp) (.int .i64 ((x1 + 1) % 65536))) (fun g hg => by simp; rintro rfl; exact HA2.out.2 (mem_ownL.2 hg)); rw [hHN.out]; simpa using h7), HV2.out.setx (by omega), HBd.out.del hx1, fun x' H' o' h => HR.out x' H' o' (.go HB.out h), rfl, by have := HSt.out.2; have := HDd.out; omega, (by have h8 := HSt.out.1; have h9 := HG.out; omega), (by have := HZ2.out; simp [World.setCell]; omega), (HC2.out.setCell (by simp) _), HOO.out⟩)
              go_wp2_with fail
              go_roundg (dst ((x1 + 1) % 65536) b).toNat
              case measure => rw [HG.out]; exact HSt.out.1
              case rel => exact HREL.out
            | some v =>
              refine (tknext_c HV.out HBd.out hBw).mono ?_
              rintro e w2 ⟨rfl, O5, hV5, hO5, hc2⟩
              have hHN := Lib.hid hH
              have hv1 : 1 ≤ v := (HBd.out _ _ hH).2.2
              rw [hH]
              clear hH
              have HO2 := Lib.hid (own_chg HO.out hc2 (fun g hg => by simp; rintro rfl; exact hsO (mem_ownL.2 hg)))
              obtain ⟨O2, hO25, hV2, hA2, hsO2⟩ := hV5.apart HO2.out
              have hO2 : ∀ j ∈ O2, j ∈ O3 ∨ wr.heap.size ≤ j := fun j hj => hO5 j (hO25 j hj)
              have hg1 := (hV2.blk1).1
              have hg2 := (hV2.blk1).2
              have HV2 := Lib.hid hV2
              have HA2 := Lib.hid (And.intro hA2 hsO2)
              have HC2 := Lib.hid (HC.out.trans hc2 (by simp))
              have HZ2 := Lib.hid (show base ≤ w2.heap.size from Nat.le_trans HZ.out hc2.size)
              have HOO := Lib.hid (show ∀ j ∈ O2, j ∈ O ∨ w.heap.size ≤ j from fun j hj => by
                rcases hO2 j hj with h | h
                · exact HOs.out j h
                · exact .inr (by have := HC.out.size; omega))
              clear hV2 hO2 hc2 hV5 hO5 hO25 hA2 hsO2
              go_wp2_with (at_builtin; refine list_app (P := Try.prog) (t := 22) Try.underlying22 rint_info rfl (by omega) (.tmp 95) (.tmp 97) base (n := N1) (m := 1) (N := N1 + 1) rfl (by omega) (rint_one v) (by omega) (own_chg HO2.out ((Chg.refl [] w2).alloc _) (by simp)) (reads_lit1 w2 3 (.int .i64 v)) (by simp; have := HZ2.out; omega) (by rfl) (by rfl) (by rfl) (by rfl) ?_; intro A2 d2 W2 hown2 hgrow2 hat2; have HQ2 := Lib.hid (((Chg.refl (ownL (.slice A1 N1 c1)) w2).alloc (.cells #[.int .i64 v] 3)).grown hgrow2 (fun j hj => .inl (mem_ownL.2 hj))); have HO3 := Lib.hid hown2; have HV3 := Lib.hid (HV2.out.chg HQ2.out HA2.out.2 HA2.out.1); have g1 := (HV3.out.blk1).1; have g2 := (HV3.out.blk1).2; clear hown2 hgrow2 hat2)
              have hsW : s ∉ ownL (.slice A2 (N1 + 1) d2) := by
                obtain ⟨_, _, hb9, _⟩ := HV3.out.row
                exact ownL_blk HO3.out hb9 (by decide)
              have HREL := Lib.hid (show SgRel w (W2.setCell ⟨s, 1, none⟩ (.int .i64 ((x1 + 1) % 65536))) B s O base wd b x H (dst ((x1 + 1) % 65536) b).toNat (.slice A2 (N1 + 1) d2) from ⟨A2, d2, N1 + 1, _, _, (o1 ++ (H1 x1).toList), O2, rfl, (by have h7 := own_chg HO3.out ((Chg.refl [s] _).setCell (p := ⟨s, 1, none⟩) (by simp) (.int .i64 ((x1 + 1) % 65536))) (fun g hg => by simp; rintro rfl; exact hsW (mem_ownL.2 hg)); rw [hHN.out]; simpa using h7), HV3.out.setx (by omega), HBd.out.del hx1, fun x' H' o' h => HR.out x' H' o' (.go HB.out h), rfl, by have := HSt.out.2; have := HDd.out; omega, (by have h8 := HSt.out.1; have h9 := HG.out; omega), (by have := HZ2.out; have := HQ2.out.size; simp [World.setCell]; omega), ((HC2.out.trans HQ2.out (fun j hj => .inr (by have := (ownL_lt HO2.out j hj).1; have := HBase.out; omega))).setCell (by simp) _), HOO.out⟩)
              go_wp2_with fail
              go_roundg (dst ((x1 + 1) % 65536) b).toNat
              case measure => rw [HG.out]; exact HSt.out.1
              case rel => exact HREL.out
    case rest =>
      clear HST HSF HBf
      obtain ⟨A1, c1, N1, x1, H1, o1, O1, rfl, hown, hV, hbd, hSk, hN, hz, hc, hOs⟩ := hcut
      obtain ⟨O3, hO3, hV3, hA3, hsO⟩ := hV.apart hown
      have hOs3 : ∀ j ∈ O3, j ∈ O ∨ w.heap.size ≤ j := fun j hj => hOs j (hO3 j hj)
      obtain ⟨wa, rfl⟩ : ∃ wa : World, wa = wc := ⟨_, rfl⟩
      obtain ⟨A, c, hb9, hb10⟩ := hV3.split
      have hx1 := hV3.hx
      obtain ⟨n, hn⟩ : ∃ n, (lst x1 H1).length = n := ⟨_, rfl⟩
      rw [hn] at hb9
      have hn64 : n ≤ 64 := by have := lst_le x1 H1; omega
      have e1 := (hb9.cell 1).trans rfl
      have e2 := (hb9.cell 2).trans rfl
      have HN := Lib.hid hn
      have HV := Lib.hid hV3
      have HO := Lib.hid hown
      have HBd := Lib.hid hbd
      have HC := Lib.hid hc
      have HZ := Lib.hid hz
      have HOs := Lib.hid hOs3
      have HSk := Lib.hid hSk
      have hBw : B ≤ wa.heap.size := by omega
      have HBq := Lib.hid (fun W : World => rbef q x1 W)
      obtain ⟨t1, ht1⟩ : ∃ t1, befB q x1 = t1 := ⟨_, rfl⟩
      rw [ht1] at HBq
      have HT1 := Lib.hid ht1
      clear hV hV3 hown hbd hSk hc hz hOs hOs3 hO3 hA3 hb9 hn ht1
      go_wp2_with fail
      refine (HBq.out _).mono ?_
      rintro e w' ⟨rfl, rfl⟩
      have hd0 : thB t1 q ((lst x1 H1).take 0) = t1 := by simp [thB]
      have HD0 := Lib.hid hd0
      clear hd0
      go_wp2_with fail
      go_loopw [18, 19] (fun v18 v19 wr => ∃ (k : Nat) (tt : Bool), k ≤ n ∧ v19 = .int .i64 k ∧ v18 = .bool tt ∧ Hid (thB t1 q ((lst x1 H1).take k) = tt) ∧ Chg [] wa wr) (fun _ v _ => n - (intOf v).toNat)
      case atStart => exact ⟨0, t1, by omega, rfl, rfl, HD0, Chg.refl _ _⟩
      case round =>
        clear HD0
        obtain ⟨k, tt, hk, rfl, rfl, HTT, hc⟩ := hrel
        have e3 := (hc.cell (p := ⟨s, 2, none⟩) (block_lt_of_cell e2) (by simp)).trans e2
        have e4 := (hc.cell (p := ⟨s, 1, none⟩) (block_lt_of_cell e1) (by simp)).trans e1
        have HCC := Lib.hid hc
        by_cases hlt : k < n
        · have hkl : k < (lst x1 H1).length := by have := HN.out; omega
          rcases hb10 with ⟨_, _, h0⟩ | ⟨g, rfl, hg, hgO, hgs, hr⟩
          · exact absurd hkl (by rw [h0]; simp)
          · obtain ⟨c0, c1⟩ := row_hd (hr.chg hc (by simp)) hkl
            have HS := Lib.hid (thB_snoc (t := t1) (q := q) hkl)
            generalize (lst x1 H1)[k] = p at c0 c1 HS
            have hI : (k : Int) < (n : Int) := by omega
            have hJ : (0 : Int) ≤ (k : Int) := by omega
            clear hr hc
            cases tt with
            | true =>
              go_wp2_with fail
              go_roundw
              case rel => exact ⟨k + 1, true, by omega, by go_num, rfl, Lib.hid (by rw [HS.out, HTT.out]; rfl), HCC.out⟩
              case measure => simp [intOf]; omega
            | false =>
              by_cases hpq : p.q = q
              · have hpq' : (p.q == q) = true := by rw [beq_iff_eq]; exact hpq
                have HSS := Lib.hid (HS.out)
                rw [HTT.out, hpq'] at HSS
                clear hpq HS
                go_wp2_with fail
                go_roundw
                case rel => exact ⟨k + 1, true, by omega, by go_num, rfl, Lib.hid HSS.out, HCC.out⟩
                case measure => simp [intOf]; omega
              · have hpq' : (p.q == q) = false := by rw [beq_eq_false_iff_ne]; exact hpq
                have HSS := Lib.hid (HS.out)
                rw [HTT.out, hpq'] at HSS
                clear hpq HS
                go_wp2_with fail
                go_roundw
                case rel => exact ⟨k + 1, false, by omega, by go_num, rfl, Lib.hid HSS.out, HCC.out⟩
                case measure => simp [intOf]; omega
        · have hge : (n : Int) ≤ (k : Int) := by omega
          have hfin : thB t1 q (lst x1 H1) = tt := by
            have := HTT.out
            rwa [List.take_of_length_le (by have := HN.out; omega)] at this
          have HFin := Lib.hid hfin
          have HTS := Lib.hid (th_st (q := q) HBd.out hx1 hw64.2)
          rw [HT1.out, hfin] at HTS
          have HV2 := Lib.hid (HV.out.chg hc (by simp) (by simp))
          have HO2 := Lib.hid (own_chg HO.out hc (by simp))
          have HC2 := Lib.hid (HC.out.trans hc (by simp))
          have HZ2 := Lib.hid (show base ≤ wr.heap.size from Nat.le_trans HZ.out hc.size)
          clear hfin HTT hc hb10 HV HO HC HZ HCC HFin HN
          go_upto_if 137 with fail
          go_cut [142] (fun _ wx => ∃ O2, RF wx B s O2 wd x1 (lst x1 (stH H1 x1 q id)) ∧ Bd x1 wd (stH H1 x1 q id) ∧ (∀ j ∈ O2, j ∈ O ∨ w.heap.size ≤ j) ∧ wx.ownsRow base 3 1 (.slice A1 N1 c1) N1 (o1.map (Value.int .i64)) ∧ Chg [s] w wx ∧ base ≤ wx.heap.size)
          case first =>
            cases tt with
            | true =>
              go_wp2_with fail
              go_meet
              have hst : stH H1 x1 q id = H1 := if_pos (by rw [HT1.out]; exact HTS.out.1 (by simp))
              rw [hst]
              exact ⟨O3, HV2.out, HBd.out, HOs.out, HO2.out, HC2.out, HZ2.out⟩
            | false =>
              have hno : ¬ ((H1 q).isSome = true ∨ befB q x1 = true) := by rw [HT1.out]; exact fun h => by have := HTS.out.2 h; cases this
              have hst : stH H1 x1 q id = mPut H1 q id := if_neg hno
              have hHq : H1 q = none := by
                cases hh : H1 q with
                | none => rfl
                | some v => exact absurd (.inl (by rw [hh]; rfl)) hno
              have hdq : dst x1 q < wd := HSx.out x1 (HSkE.out _ _ _ HSk.out) (by cases hh : befB q x1 with | false => rfl | true => exact absurd (.inr hh) hno)
              obtain ⟨L1, L2, hL, hLp, hL1, hL2⟩ := lst_put (v := id) HBd.out hx1 hw64.2 hq hdq hHq
              have hBd2 := HBd.out.put hq hdq hid
              rw [← hst] at hLp hBd2
              have hV2 := HV2.out
              rw [hL] at hV2
              have hins := insert_c hV2 (by have := HZ2.out; omega) ⟨q, id⟩ hq (fun r hr => by rw [← hL] at hr; exact (HBd.out _ _ ((mem_lst HBd.out hx1 hw64.2 r).1 hr)).1) hL1 hL2 (by rw [← hL]; have := lst_le x1 H1; omega)
              rw [← hLp] at hins
              have HIns := Lib.hid hins
              have HB2 := Lib.hid hBd2
              clear hno hst hHq hdq hL hLp hL1 hL2 hV2 hins hBd2
              go_wp2_with fail
              refine HIns.out.mono ?_
              rintro e w5 ⟨rfl, O5, h51, h52, h53⟩
              have H51 := Lib.hid h51
              have H52 := Lib.hid h52
              have H53 := Lib.hid h53
              clear h51 h52 h53
              go_wp2_with fail
              go_meet
              exact ⟨O5, H51.out, HB2.out, fun j hj => .inr (by have := H52.out j hj; have := HC2.out.size; omega), own_chg HO2.out H53.out (fun g hg => by simp; rintro rfl; exact hsO (mem_ownL.2 hg)), HC2.out.trans H53.out (by simp), Nat.le_trans HZ2.out H53.out.size⟩
          case rest =>
            obtain ⟨O2, hV, hbd, hO2, hown, hc, hz⟩ := hcut
            obtain ⟨Hst, hHst⟩ : ∃ Hst, stH H1 x1 q id = Hst := ⟨_, rfl⟩
            rw [hHst] at hV hbd
            have HHst := Lib.hid hHst
            have HI2 := Lib.hid (show RfRel w wc B s O base wd x1 Hst o1 (lst x1 Hst).length (.slice A1 N1 c1) from ⟨A1, c1, N1, x1, Hst, o1, O2, rfl, hown, hV, hbd, fun _ _ _ h => h, rfl, by have := lst_le x1 Hst; omega, hz, hc, hO2⟩)
            clear hHst hV hbd hO2 hown hc hz HV2 HO2 HC2 HZ2 HTS HOs HBd e1 e2 e3 e4 hsO HBq HT1 hx1
            go_wp2_with fail
            obtain ⟨w1s, rfl⟩ : ∃ w1s : World, w1s = wr := ⟨_, rfl⟩
            go_loopg [16, 20] (lst x1 Hst).length (fun gk v _ wr => RfRel w wr B s O base wd x1 Hst o1 gk v)
            case atStart => exact HI2.out
            case round =>
              clear HI2
              obtain ⟨xs, rfl⟩ : ∃ xs : Int, xs = x1 := ⟨_, rfl⟩
              obtain ⟨Hs, rfl⟩ : ∃ Hs : Int → Option Int, Hs = Hst := ⟨_, rfl⟩
              obtain ⟨os, rfl⟩ : ∃ os : List Int, os = o1 := ⟨_, rfl⟩
              obtain ⟨Hi, rfl⟩ : ∃ Hi : Int → Option Int, Hi = H1 := ⟨_, rfl⟩
              clear hN hBw hbz
              obtain ⟨A1, c1, N1, x1, H1, o1, O1, rfl, hown, hV, hbd, hR, hg, hN, hz, hc, hOs⟩ := hrel
              obtain ⟨O3, hO3, hV3, hA3, hsO⟩ := hV.apart hown
              have hOs3 : ∀ j ∈ O3, j ∈ O ∨ w.heap.size ≤ j := fun j hj => hOs j (hO3 j hj)
              have e1 := (hV3.blk1).1
              have HV := Lib.hid hV3
              have HO := Lib.hid hown
              have HR := Lib.hid hR
              have HBd := Lib.hid hbd
              have HC := Lib.hid hc
              have HZ := Lib.hid hz
              have HOs := Lib.hid hOs3
              have hx1 := hV3.hx
              have hBw : B ≤ wr.heap.size := by omega

              have HG := Lib.hid hg
              clear hV hV3 hown hR hbd hc hz hOs hOs3 hO3 hA3 hg
              go_wp2_with fail
              cases hH : H1 x1 with
              | none =>
                refine (tknext_c HV.out HBd.out hBw).mono ?_
                rintro e w2 ⟨rfl, O5, hV5, hO5, hc2⟩
                have hHN := Lib.hid hH
                rw [hH]
                clear hH
                have HO2 := Lib.hid (own_chg HO.out hc2 (fun g hg => by simp; rintro rfl; exact hsO (mem_ownL.2 hg)))
                obtain ⟨O2, hO25, hV2, hA2, hsO2⟩ := hV5.apart HO2.out
                have hO2 : ∀ j ∈ O2, j ∈ O3 ∨ wr.heap.size ≤ j := fun j hj => hO5 j (hO25 j hj)
                have hg1 := (hV2.blk1).1
                have hg2 := (hV2.blk1).2
                have HV2 := Lib.hid hV2
                have HA2 := Lib.hid (And.intro hA2 hsO2)
                have HC2 := Lib.hid (HC.out.trans hc2 (by simp))
                have HZ2 := Lib.hid (show base ≤ w2.heap.size from Nat.le_trans HZ.out hc2.size)
                have HOO := Lib.hid (show ∀ j ∈ O2, j ∈ O ∨ w.heap.size ≤ j from fun j hj => by
                  rcases hO2 j hj with h | h
                  · exact HOs.out j h
                  · exact .inr (by have := HC.out.size; omega))
                clear hV2 hO2 hc2 hV5 hO5 hO25 hA2 hsO2
                go_wp2_with fail
                go_ret2
                have h9 := HV2.out
                have h8 := lst_step HBd.out hx1 HV.out.hw.2
                rw [hHN.out] at h8
                simp at h8
                rw [← h8] at h9
                exact ⟨A1, N1, c1, rfl, xs, Hi, os, x1, H1, o1, O2, by have := HO2.out; rw [HBase.out]; exact this, by omega, HSk.out, by rw [HHst.out]; exact HR.out _ _ _ (.stop hHN.out), h9, HOO.out, HC2.out⟩
              | some v =>
                refine (tknext_c HV.out HBd.out hBw).mono ?_
                rintro e w2 ⟨rfl, O5, hV5, hO5, hc2⟩
                have hHN := Lib.hid hH
                have hv1 : 1 ≤ v := (HBd.out _ _ hH).2.2
                rw [hH]
                clear hH
                have HO2 := Lib.hid (own_chg HO.out hc2 (fun g hg => by simp; rintro rfl; exact hsO (mem_ownL.2 hg)))
                obtain ⟨O2, hO25, hV2, hA2, hsO2⟩ := hV5.apart HO2.out
                have hO2 : ∀ j ∈ O2, j ∈ O3 ∨ wr.heap.size ≤ j := fun j hj => hO5 j (hO25 j hj)
                have hg1 := (hV2.blk1).1
                have hg2 := (hV2.blk1).2
                have HV2 := Lib.hid hV2
                have HA2 := Lib.hid (And.intro hA2 hsO2)
                have HC2 := Lib.hid (HC.out.trans hc2 (by simp))
                have HZ2 := Lib.hid (show base ≤ w2.heap.size from Nat.le_trans HZ.out hc2.size)
                have HOO := Lib.hid (show ∀ j ∈ O2, j ∈ O ∨ w.heap.size ≤ j from fun j hj => by
                  rcases hO2 j hj with h | h
                  · exact HOs.out j h
                  · exact .inr (by have := HC.out.size; omega))
                clear hV2 hO2 hc2 hV5 hO5 hO25 hA2 hsO2
                have hv0 : (v == 0) = false := by rw [beq_eq_false_iff_ne]; omega
                go_wp2_with (at_builtin; refine list_app (P := Try.prog) (t := 22) Try.underlying22 rint_info rfl (by omega) (.tmp 152) (.tmp 154) base (n := N1) (m := 1) (N := N1 + 1) rfl (by omega) (rint_one v) (by omega) (own_chg HO2.out ((Chg.refl [] w2).alloc _) (by simp)) (reads_lit1 w2 3 (.int .i64 v)) (by simp; have := HZ2.out; omega) (by rfl) (by rfl) (by rfl) (by rfl) ?_; intro A2 d2 W2 hown2 hgrow2 hat2; have HQ2 := Lib.hid (((Chg.refl (ownL (.slice A1 N1 c1)) w2).alloc (.cells #[.int .i64 v] 3)).grown hgrow2 (fun j hj => .inl (mem_ownL.2 hj))); have HO3 := Lib.hid hown2; have HV3 := Lib.hid (HV2.out.chg HQ2.out HA2.out.2 HA2.out.1); have g1 := (HV3.out.blk1).1; have g2 := (HV3.out.blk1).2; clear hown2 hgrow2 hat2)
                have hsW : s ∉ ownL (.slice A2 (N1 + 1) d2) := by
                  obtain ⟨_, _, hb9, _⟩ := HV3.out.row
                  exact ownL_blk HO3.out hb9 (by decide)
                have HREL := Lib.hid (show RfRel w (W2.setCell ⟨s, 1, none⟩ (.int .i64 ((x1 + 1) % 65536))) B s O base wd xs Hs os (lst ((x1 + 1) % 65536) (mDel H1 x1)).length (.slice A2 (N1 + 1) d2) from ⟨A2, d2, N1 + 1, _, _, (o1 ++ [v]), O2, rfl, (by have h7 := own_chg HO3.out ((Chg.refl [s] _).setCell (p := ⟨s, 1, none⟩) (by simp) (.int .i64 ((x1 + 1) % 65536))) (fun g hg => by simp; rintro rfl; exact hsW (mem_ownL.2 hg)); simpa using h7), HV3.out.setx (by omega), HBd.out.del hx1, fun x' H' o' h => HR.out x' H' o' (.go hHN.out h), rfl, (by have h8 := lst_step HBd.out hx1 HV.out.hw.2; rw [hHN.out] at h8; simp at h8; have h9 := HG.out; rw [h8, List.length_cons] at h9; omega), (by have := HZ2.out; have := HQ2.out.size; simp [World.setCell]; omega), ((HC2.out.trans HQ2.out (fun j hj => .inr (by have := (ownL_lt HO2.out j hj).1; have := HBase.out; omega))).setCell (by simp) _), HOO.out⟩)
                go_wp2_with fail
                go_roundg (lst ((x1 + 1) % 65536) (mDel H1 x1)).length
                case measure => have h8 := lst_step HBd.out hx1 HV.out.hw.2; rw [hHN.out] at h8; simp at h8; have h9 := HG.out; rw [h8, List.length_cons] at h9; omega
                case rel => exact HREL.out

end Go.Proofs.Ytgkdlplocahnnaa
