/- The sender: Ack. -/
import Derived.Test.YtgkhendbpehagaaSnP
import Derived.Deep.RegionWith
import Derived.Deep.DeepCutAuto
namespace Go.Proofs.Ytgkhendbpehagaa
open Go.RowKit
set_option linter.unusedVariables false
set_option linter.unusedSimpArgs false

/-- Whether an acknowledgement speaks of this packet. -/
def ackB (base bits : Int) (p : Sn) : Bool := befB p.q base || hasB base bits p.q
/-- Whether an acknowledgement is taken. -/
def ackOk (nx base : Int) (ps : List Sn) : Prop := (0 ≤ base ∧ base < 65536) ∧ dst (bs nx ps) base < 32768 ∧ dst (bs nx ps) base ≤ dst (bs nx ps) nx

def acked (base bits : Int) (ps : List Sn) : List Sn := ps.filter (ackB base bits)
def kept (base bits : Int) (ps : List Sn) : List Sn := ps.filter fun p => !ackB base bits p

theorem acked_snoc {base bits : Int} {ps : List Sn} {k : Nat} (hk : k < ps.length) : acked base bits (ps.take (k + 1)) = if ackB base bits ps[k] then acked base bits (ps.take k) ++ [ps[k]] else acked base bits (ps.take k) := by
  rw [List.take_succ_eq_append_getElem hk]
  unfold acked
  rw [List.filter_append]
  cases h : ackB base bits ps[k] <;> simp [h]
theorem kept_snoc {base bits : Int} {ps : List Sn} {k : Nat} (hk : k < ps.length) : kept base bits (ps.take (k + 1)) = if ackB base bits ps[k] then kept base bits (ps.take k) else kept base bits (ps.take k) ++ [ps[k]] := by
  rw [List.take_succ_eq_append_getElem hk]
  unfold kept
  rw [List.filter_append]
  cases h : ackB base bits ps[k] <;> simp [h]
theorem acked_le (base bits : Int) (ps : List Sn) : (acked base bits ps).length ≤ ps.length := List.length_filter_le _ _
theorem kept_le (base bits : Int) (ps : List Sn) : (kept base bits ps).length ≤ ps.length := List.length_filter_le _ _

theorem int_info : (Try.prog.info? 3).map (fun i => (i.zero, i.size, i.bytes)) = some (some (.int .i64 0), 1, 8) := by kernel_rfl

set_option maxRecDepth 100000 in
set_option maxHeartbeats 2000000 in
theorem sack_c {w : World} {B s : Nat} {O : List Nat} {wd tr nx : Int} {ps : List Sn} (h : SA w B s O wd tr nx ps) (base bits : Int) (hb : ackOk nx base ps) (hb0 : 0 ≤ bits) (hb1 : bits < 18446744073709551616) :
    Calls Try.prog 12 #[.pointer (some ⟨s, 0, none⟩), .agg #[.int .i64 base, .int .u64 bits]] w fun e w' =>
      ∃ A' c' O', e = .returned (.slice A' (acked base bits ps).length c') ∧ w'.ownsRow w.heap.size 3 1 (.slice A' (acked base bits ps).length c') (acked base bits ps).length ((acked base bits ps).map fun p => .int .i64 p.i) ∧
        SA w' B s O' wd tr nx (kept base bits ps) ∧ (∀ j ∈ O', w.heap.size ≤ j) ∧ (∀ j ∈ ownL (.slice A' (acked base bits ps).length c'), j ∉ O') ∧ Chg (s :: O) w w' := by
  obtain ⟨hv, hs1, hs2⟩ := hb
  have hv' : seqB base = true := decide_eq_true (by omega)
  have HV := Lib.hid (fun W : World => bvalid_raw base bits W)
  rw [hv'] at HV
  have hn := h.hn
  have HQ := Lib.hid (fun (W : World) (hW : Chg [] w W) (q : Int) (h1 : 0 ≤ q) (h2 : q < 65536) => ssteps_c (h.chg hW (by simp) (by simp)) q h1 h2)
  have hsl := h.lt
  obtain ⟨A, c, hrow, _⟩ := h.row
  have HH := Lib.hid h
  clear h
  have hsc := (hrow.cell 2).trans rfl
  have fac : ∀ w1, Chg [] ((w.alloc (.cells #[.int .i64 base, .int .u64 bits] 37)).drew) w1 → (w1.cell? ⟨w.heap.size, 0, none⟩ = some (.int .i64 base) ∧ w1.cell? ⟨w.heap.size, 1, none⟩ = some (.int .u64 bits) ∧ w1.cell? ⟨s, 2, none⟩ = some (.int .i64 nx)) ∧ Chg [] w w1 ∧ Blk w1 w.heap.size 37 #[.int .i64 base, .int .u64 bits] := fun w1 hc1 => by
    have k1 : Chg [] w w1 := (((Chg.refl [] w).alloc _).drew).trans hc1 (by simp)
    have hm1 := ((Blk.new w 37 #[.int .i64 base, .int .u64 bits]).drew).chg hc1 (by simp)
    exact ⟨⟨(hm1.cell 0).trans rfl, (hm1.cell 1).trans rfl, ((hrow.chg k1 (by simp)).cell 2).trans rfl⟩, k1, hm1⟩
  have FAC := Lib.hid fac
  have hS0 : ((w.alloc (.cells #[.int .i64 base, .int .u64 bits] 37)).drew).cell? ⟨w.heap.size, 0, none⟩ = some (.int .i64 base) ∧ ((w.alloc (.cells #[.int .i64 base, .int .u64 bits] 37)).drew).cell? ⟨w.heap.size, 1, none⟩ = some (.int .u64 bits) ∧ ((w.alloc (.cells #[.int .i64 base, .int .u64 bits] 37)).drew).cell? ⟨s, 2, none⟩ = some (.int .i64 nx) := (fac _ (Chg.refl _ _)).1
  clear fac hrow hsc
  have g1 : decide (32768 ≤ dst (bs nx ps) base) = false := decide_eq_false (by omega)
  have g2 : decide (dst (bs nx ps) nx < dst (bs nx ps) base) = false := decide_eq_false (by omega)
  go_enter Try.func12, Try.ntmps12
  go_upto_region 1 with fail
  go_cut [31] (fun s31 wx => s31 = .bool false ∧ Chg [] w wx ∧ Blk wx w.heap.size 37 #[.int .i64 base, .int .u64 bits])
  case first =>
    go_region_held3 (fun w' => w'.cell? ⟨w.heap.size, 0, none⟩ = some (.int .i64 base) ∧ w'.cell? ⟨w.heap.size, 1, none⟩ = some (.int .u64 bits) ∧ w'.cell? ⟨s, 2, none⟩ = some (.int .i64 nx)) (first | exact hS1 | exact hS0 | go_keep)
      (first
        | (go_at_call 27; refine (HV.out _).mono ?_; rintro e w1 ⟨rfl, hc1⟩; have hS1 := (FAC.out w1 hc1).1; have k1 := (FAC.out w1 hc1).2.1; have hm1 := (FAC.out w1 hc1).2.2)
        | (go_at_call 28; refine (HQ.out _ (by repeat (first | exact k1 | (refine Chg.drewN ?_ _) | (refine Chg.drew ?_))) _ (by omega) (by omega)).mono ?_; rintro e w' ⟨rfl, m, rfl⟩))
    all_goals
      go_wp2_with fail
      go_meet
      exact ⟨rfl, by repeat (first | exact k1 | (refine Chg.drewN ?_ _) | (refine Chg.drew ?_)), by repeat (first | exact hm1 | (refine Blk.drewN ?_ _) | (refine Blk.drew ?_))⟩
  case rest =>
    obtain ⟨rfl, kc, hmc⟩ := hcut
    clear hS0 g1 g2 hs1 hs2 hv
    have hh := HH.out
    obtain ⟨A, c, h9, h10⟩ := hh.split
    have hsw := h9.chg kc (by simp)
    have e3 := (hsw.cell 3).trans rfl
    have H9 := Lib.hid h9
    have HM := Lib.hid hmc
    have hpl := hh.hl
    clear hh h9 hsw hmc
    rcases h10 with ⟨rfl, rfl, rfl⟩ | ⟨g, rfl, hg, hgO, hgs, hr⟩
    · have f3 := (H9.out.chg kc (by simp)).frozen 3
      have hsl3 := (H9.out.chg kc (by simp)).lt
      go_wp2_with fail
      refine wp_loop_rounds 1 ?_
      rw [rounds_succ]
      go_wp2_with fail
      go_ret
      have hh := HH.out
      have b8 := (H9.out.chg kc (by simp)).set_ 3 (.slice none 0 0)
      simp only [List.setIfInBounds_toArray, List.set_cons_succ, List.set_cons_zero] at b8
      exact ⟨none, 0, [], rfl, World.ownsRow_nil _ _ _ _, ⟨hh.Bs, by simp, by simp, by simp, hh.hw, hh.ht, hh.hn, by simp [kept], by simp [kept], none, 0, b8, World.ownsRow_nil _ _ _ _, by simp [ownL, Value.ownBlock]⟩, by simp, by simp, (kc.mono (S' := s :: O) (by simp)).setCell (p := ⟨s, 3, none⟩) (by simp) _⟩
    · obtain ⟨n, hn⟩ : ∃ n, n = ps.length := ⟨_, rfl⟩
      rw [← hn] at e3 hpl
      have HR := Lib.hid hr
      have HN := Lib.hid hn
      have hgl := hr.lt
      clear hr hn
      go_wp2_with fail
      go_loopw [5, 6, 37] (fun vo vl vi wr => ∃ (k m1 m2 : Nat) (A1 A2 : Option Addr) (c1 c2 : Nat), k ≤ n ∧ vi = .int .i64 k ∧ m1 = (acked base bits (ps.take k)).length ∧ m2 = (kept base bits (ps.take k)).length ∧ vo = .slice A1 m1 c1 ∧ vl = .slice A2 m2 c2 ∧
        wr.ownsRow (w.heap.size + 1) 3 1 (.slice A1 m1 c1) m1 ((acked base bits (ps.take k)).map fun p => .int .i64 p.i) ∧ wr.ownsRow (w.heap.size + 1) 39 3 (.slice A2 m2 c2) m2 ((kept base bits (ps.take k)).flatMap snC) ∧
        Chg [] w wr ∧ Blk wr w.heap.size 37 #[.int .i64 base, .int .u64 bits]) (fun _ _ vi _ => n - (intOf vi).toNat)
      case atStart => exact ⟨0, 0, 0, none, none, 0, 0, Nat.zero_le _, rfl, by simp [acked], by simp [kept], rfl, rfl, by simpa [acked] using World.ownsRow_nil _ _ _ _, by simpa [kept] using World.ownsRow_nil _ _ _ _, kc, HM.out⟩
      case round =>
        obtain ⟨k, m1, m2, A1, A2, c1, c2, hk, rfl, hm1, hm2, rfl, rfl, ho1, ho2, kr, hmr⟩ := hrel
        clear e3
        by_cases hlt : k < n
        · have hkl : k < ps.length := by have := HN.out; omega
          obtain ⟨x0, x1, x2⟩ := row_sn (HR.out.chg kr (by simp)) hkl
          have HT1 := Lib.hid (acked_snoc (base := base) (bits := bits) hkl)
          have HT2 := Lib.hid (kept_snoc (base := base) (bits := bits) hkl)
          have ml1 : m1 ≤ k := by rw [hm1]; exact Nat.le_trans (acked_le _ _ _) (by simp; omega)
          have ml2 : m2 ≤ k := by rw [hm2]; exact Nat.le_trans (kept_le _ _ _) (by simp; omega)
          have HM1 := Lib.hid hm1
          have HM2 := Lib.hid hm2
          have HO1 := Lib.hid ho1
          have HO2 := Lib.hid ho2
          clear hm1 hm2 ho1 ho2
          generalize ps[k] = p at x0 x1 x2 HT1 HT2
          have hI : (k : Int) < (n : Int) := by omega
          have hJ : (0 : Int) ≤ (k : Int) := by omega
          have hb0 := (hmr.cell 0).trans rfl
          have hb1 := (hmr.cell 1).trans rfl
          have hml := hmr.lt
          have HMR := Lib.hid hmr
          have HBF := Lib.hid (fun W : World => bef_raw p.q base W)
          have HHS := Lib.hid (fun W : World => has_raw base bits p.q W ‹_› ‹_›)
          clear hmr
          go_wp2_with fail
          refine (HBF.out _).mono ?_
          rintro e w2 ⟨rfl, rfl⟩
          cases hbf : befB p.q base
          · have HBX := Lib.hid hbf
            clear hbf
            cases hhs : hasB base bits p.q
            · have hak : ackB base bits p = false := by simp [ackB, HBX.out, hhs]
              have HAK := Lib.hid hak
              clear hak
              go_wp2_with fail
              refine (HHS.out _).mono ?_
              rintro e w3 ⟨rfl, hc3⟩
              rw [hhs]
              have k3 : Chg [] wr w3 := ((Chg.refl [] wr).alloc (.cells #[.int .i64 p.q, .int .i64 p.i, .int .i64 p.t] 39)).trans hc3 (by simp)
              obtain ⟨y0, y1, y2⟩ : w3.cell? ⟨wr.heap.size, 0, none⟩ = some (.int .i64 p.q) ∧ w3.cell? ⟨wr.heap.size, 1, none⟩ = some (.int .i64 p.i) ∧ w3.cell? ⟨wr.heap.size, 2, none⟩ = some (.int .i64 p.t) := by
                have := (Blk.new wr 39 #[.int .i64 p.q, .int .i64 p.i, .int .i64 p.t]).chg hc3 (by simp)
                exact ⟨(this.cell 0).trans rfl, (this.cell 1).trans rfl, (this.cell 2).trans rfl⟩
              have HC3 := Lib.hid hc3
              have HHX := Lib.hid hhs
              clear hc3 hhs
              have hak := HAK.out
              have hE := own_chg (own_chg HO2.out k3 (by simp)) ((Chg.refl [] (w3)).alloc (.cells #[.int .i64 p.q, .int .i64 p.i, .int .i64 p.t] 39)) (by simp)
              have hR := reads_lit (w3) 39 #[.int .i64 p.q, .int .i64 p.i, .int .i64 p.t] 3 rfl
              have hz : w.heap.size + 1 ≤ (w3).heap.size + 1 := by have := (k3).size; omega
              have hone : ∀ u ∈ ([.int .i64 p.q, .int .i64 p.i, .int .i64 p.t] : List Value), u.oneCell' = true := by intro u hu; simp at hu; rcases hu with rfl | rfl | rfl <;> rfl
              try simp only [World.size_alloc] at hE hR hz
              go_wp2_with (at_builtin; refine list_app (P := Try.prog) (t := 33) Try.underlying33 sn_info rfl (by omega) (.tmp 57) (.tmp 59) (w.heap.size + 1) (n := m2) (m := 1) (N := m2 + 1) rfl (by omega) hone (by omega) hE hR (by simp; omega) (by rfl) (by rfl) (by rfl) (by rfl) ?_; intro A3 d3 W3 hown3 hgrow3 hat3)
              go_roundw
              case rel =>
                have hol := ownL_lt HO2.out
                have kW : Chg (ownL (.slice A2 m2 c2)) wr W3 := (((k3).mono (S' := ownL (.slice A2 m2 c2)) (by simp)).alloc (.cells #[.int .i64 p.q, .int .i64 p.i, .int .i64 p.t] 39)).grown hgrow3 (fun j hj => .inl (mem_ownL.2 hj))
                refine ⟨k + 1, m1, m2 + 1, A1, A3, c1, d3, by omega, by go_num, ?_, ?_, rfl, rfl, ?_, ?_, kr.trans kW (fun x hx => .inr (by have := (hol _ hx).1; omega)), HMR.out.chg kW (fun hm => absurd (hol _ hm).1 (by omega))⟩
                · rw [HT1.out, if_neg (by simp [hak])]; exact HM1.out
                · rw [HT2.out, if_neg (by simp [hak]), List.length_append, ← HM2.out]; rfl
                · rw [HT1.out, if_neg (by simp [hak])]; exact own_chg HO1.out kW (own_ne_own HO1.out HO2.out (by decide))
                · rw [HT2.out, if_neg (by simp [hak]), List.flatMap_append]; exact hown3
              case measure => simp [intOf]; omega
            · have hak : ackB base bits p = true := by simp [ackB, HBX.out, hhs]
              have HAK := Lib.hid hak
              clear hak
              go_wp2_with fail
              refine (HHS.out _).mono ?_
              rintro e w3 ⟨rfl, hc3⟩
              rw [hhs]
              have k3 : Chg [] wr w3 := ((Chg.refl [] wr).alloc (.cells #[.int .i64 p.q, .int .i64 p.i, .int .i64 p.t] 39)).trans hc3 (by simp)
              obtain ⟨y0, y1, y2⟩ : w3.cell? ⟨wr.heap.size, 0, none⟩ = some (.int .i64 p.q) ∧ w3.cell? ⟨wr.heap.size, 1, none⟩ = some (.int .i64 p.i) ∧ w3.cell? ⟨wr.heap.size, 2, none⟩ = some (.int .i64 p.t) := by
                have := (Blk.new wr 39 #[.int .i64 p.q, .int .i64 p.i, .int .i64 p.t]).chg hc3 (by simp)
                exact ⟨(this.cell 0).trans rfl, (this.cell 1).trans rfl, (this.cell 2).trans rfl⟩
              have HC3 := Lib.hid hc3
              have HHX := Lib.hid hhs
              clear hc3 hhs
              have hak := HAK.out
              have hE := own_chg (own_chg HO1.out k3 (by simp)) ((Chg.refl [] (w3)).alloc (.cells #[.int .i64 p.i] 3)) (by simp)
              have hR := reads_lit1 (w3) 3 (.int .i64 p.i)
              have hz : w.heap.size + 1 ≤ (w3).heap.size + 1 := by have := (k3).size; omega
              try simp only [World.size_alloc] at hE hR hz
              go_wp2_with (at_builtin; refine list_app (P := Try.prog) (t := 22) Try.underlying22 int_info rfl (by omega) (.tmp 52) (.tmp 55) (w.heap.size + 1) (n := m1) (m := 1) (N := m1 + 1) rfl (by omega) (by intro u hu; simp at hu; subst hu; rfl) (by omega) hE hR (by simp; omega) (by rfl) (by rfl) (by rfl) (by rfl) ?_; intro A3 d3 W3 hown3 hgrow3 hat3)
              go_roundw
              case rel =>
                have hol := ownL_lt HO1.out
                have kW : Chg (ownL (.slice A1 m1 c1)) wr W3 := (((k3).mono (S' := ownL (.slice A1 m1 c1)) (by simp)).alloc (.cells #[.int .i64 p.i] 3)).grown hgrow3 (fun j hj => .inl (mem_ownL.2 hj))
                refine ⟨k + 1, m1 + 1, m2, A3, A2, d3, c2, by omega, by go_num, ?_, ?_, rfl, rfl, ?_, ?_, kr.trans kW (fun x hx => .inr (by have := (hol _ hx).1; omega)), HMR.out.chg kW (fun hm => absurd (hol _ hm).1 (by omega))⟩
                · rw [HT1.out, if_pos hak, List.length_append, ← HM1.out]; rfl
                · rw [HT2.out, if_pos hak]; exact HM2.out
                · rw [HT1.out, if_pos hak, List.map_append]; exact hown3
                · rw [HT2.out, if_pos hak]; exact own_chg HO2.out kW (own_ne_own HO2.out HO1.out (by decide))
              case measure => simp [intOf]; omega
          · have hak : ackB base bits p = true := by simp [ackB, hbf]
            have HBX := Lib.hid hbf
            clear hbf
            have hE := own_chg (own_chg HO1.out ((Chg.refl [] wr).alloc (.cells #[.int .i64 p.q, .int .i64 p.i, .int .i64 p.t] 39)) (by simp)) ((Chg.refl [] (wr.alloc (.cells #[.int .i64 p.q, .int .i64 p.i, .int .i64 p.t] 39))).alloc (.cells #[.int .i64 p.i] 3)) (by simp)
            have hR := reads_lit1 (wr.alloc (.cells #[.int .i64 p.q, .int .i64 p.i, .int .i64 p.t] 39)) 3 (.int .i64 p.i)
            have hz : w.heap.size + 1 ≤ (wr.alloc (.cells #[.int .i64 p.q, .int .i64 p.i, .int .i64 p.t] 39)).heap.size + 1 := by have := (((Chg.refl [] wr).alloc (.cells #[.int .i64 p.q, .int .i64 p.i, .int .i64 p.t] 39))).size; omega
            try simp only [World.size_alloc] at hE hR hz
            go_wp2_with (at_builtin; refine list_app (P := Try.prog) (t := 22) Try.underlying22 int_info rfl (by omega) (.tmp 52) (.tmp 55) (w.heap.size + 1) (n := m1) (m := 1) (N := m1 + 1) rfl (by omega) (by intro u hu; simp at hu; subst hu; rfl) (by omega) hE hR (by simp; omega) (by rfl) (by rfl) (by rfl) (by rfl) ?_; intro A3 d3 W3 hown3 hgrow3 hat3)
            go_roundw
            case rel =>
              have hol := ownL_lt HO1.out
              have kW : Chg (ownL (.slice A1 m1 c1)) wr W3 := (((((Chg.refl [] wr).alloc (.cells #[.int .i64 p.q, .int .i64 p.i, .int .i64 p.t] 39))).mono (S' := ownL (.slice A1 m1 c1)) (by simp)).alloc (.cells #[.int .i64 p.i] 3)).grown hgrow3 (fun j hj => .inl (mem_ownL.2 hj))
              refine ⟨k + 1, m1 + 1, m2, A3, A2, d3, c2, by omega, by go_num, ?_, ?_, rfl, rfl, ?_, ?_, kr.trans kW (fun x hx => .inr (by have := (hol _ hx).1; omega)), HMR.out.chg kW (fun hm => absurd (hol _ hm).1 (by omega))⟩
              · rw [HT1.out, if_pos hak, List.length_append, ← HM1.out]; rfl
              · rw [HT2.out, if_pos hak]; exact HM2.out
              · rw [HT1.out, if_pos hak, List.map_append]; exact hown3
              · rw [HT2.out, if_pos hak]; exact own_chg HO2.out kW (own_ne_own HO2.out HO1.out (by decide))
            case measure => simp [intOf]; omega
        · obtain rfl : k = n := by omega
          have ht : ps.take k = ps := List.take_of_length_le (by have := HN.out; omega)
          rw [ht] at hm1 hm2 ho1 ho2
          have hsr := H9.out.chg kr (by simp)
          have c3 := (hsr.cell 3).trans rfl
          have f3 := hsr.frozen 3
          have hsl2 := hsr.lt
          have HSR := Lib.hid hsr
          have HO1 := Lib.hid ho1
          have HO2 := Lib.hid ho2
          have HM1 := Lib.hid hm1
          have HM2 := Lib.hid hm2
          clear hsr ho1 ho2 hm1 hm2
          go_wp2_with fail
          go_ret
          have hm1 := HM1.out
          have hm2 := HM2.out
          have hh := HH.out
          have hol := ownL_lt HO2.out
          have b8 := HSR.out.set_ 3 (.slice A2 m2 c2)
          simp only [List.setIfInBounds_toArray, List.set_cons_succ, List.set_cons_zero] at b8
          have e3 : Chg [s] wr (wr.setCell ⟨s, 3, none⟩ (.slice A2 m2 c2)) := (Chg.refl [s] wr).setCell (p := ⟨s, 3, none⟩) (by simp) _
          subst hm1 hm2
          have hol1 := ownL_lt HO1.out
          refine ⟨A1, c1, ownL (.slice A2 (kept base bits ps).length c2), rfl, own_base (own_chg HO1.out e3 (fun x hx => by simp; rintro rfl; have := (hol1 _ (mem_ownL.2 hx)).1; omega)) (by omega), ⟨hh.Bs, fun hm => by have := (hol _ hm).1; omega, fun j hj => by have := (hol _ hj).1; have := hh.Bs; omega, fun j hj => by have := (hol _ hj).2; simpa [World.setCell] using this, hh.hw, hh.ht, hh.hn, by have := kept_le base bits ps; have := hh.hl; omega, fun p hp => hh.ok p (List.mem_filter.1 hp).1, A2, c2, b8, own_base (own_chg HO2.out e3 (fun x hx => by simp; rintro rfl; have := (hol _ (mem_ownL.2 hx)).1; omega)) (by have := hh.Bs; omega), fun j hj => hj⟩, fun j hj => by have := (hol _ hj).1; omega, fun j hj => own_ne_own HO1.out HO2.out (by decide) j (mem_ownL.1 hj), (kr.mono (S' := s :: O) (by simp)).setCell (p := ⟨s, 3, none⟩) (by simp) _⟩

end Go.Proofs.Ytgkhendbpehagaa
