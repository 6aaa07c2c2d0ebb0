/- Pack of package bitmap and of its reference. -/
import Derived.Test.YtpohbbmldedmdaaDoorBt
import Derived.Test.YtpohbbmldedmdaaDoorApp
import Derived.Laws.BytesArg
namespace Go.Proofs.YtpohbbmldedmdaaDoor
open Go.RowKit
set_option linter.unusedVariables false
set_option linter.unusedSimpArgs false

theorem by_info : (Tryd.prog.info? 5).map (fun i => (i.zero, i.size, i.bytes)) = some (some (.int .u8 0), 1, 1) := by kernel_rfl
def pk (base b : Int) (i : Nat) : List Int := [base / 256, base % 256] ++ (List.range i).map fun k => b / 2 ^ (8 * k) % 256
theorem pk_len (base b : Int) (i : Nat) : (pk base b i).length = 2 + i := by simp [pk]; omega
theorem pk_succ (base b : Int) (i : Nat) : pk base b (i + 1) = pk base b i ++ [b / 2 ^ (8 * i) % 256] := by simp [pk, List.range_succ]
def pkR (w : World) (B : Nat) (A : Option Addr) (c : Nat) (base b : Int) (i : Nat) : Prop := w.ownsRow B 5 1 (.slice A (2 + i) c) (2 + i) ((pk base b i).map (Value.int .u8))
def pkS (base b : Int) : ByteArray := if 0 ≤ base ∧ base < 65536 then strOfNums (pk base b 8) else ⟨#[]⟩
def pkE (base : Int) : Int := if 0 ≤ base ∧ base < 65536 then 0 else 1
theorem own_conv {w : World} {B : Nat} {A : Option Addr} {n c : Nat} {xs : List Int} (h : w.ownsRow B 5 1 (.slice A n c) n (xs.map (Value.int .u8))) (hn : 0 < n) (hl : xs.length = n) : (convert 56 9 (.slice A n c)).run Tryd.prog w = .ok (.string (strOfNums xs)) w := by
  obtain ⟨g, cap, hv, _, hlt⟩ := h.form hn
  have hA : A = some ⟨g, 0, none⟩ := by injection hv
  subst hA
  refine run_convert_bytes_arg w 56 5 Tryd.underlying56 Tryd.underlying5 g 0 n c xs hl (fun i hi => ?_) _ Tryd.underlying9
  have hx : i < xs.length := by omega
  have := h.cells (g := g) rfl i (.int .u8 xs[i]) (by simp [List.getElem?_eq_getElem hx])
  have hplain : (⟨g, 0, none⟩ : Addr).add i = ⟨g, 0 + i, none⟩ := by unfold Addr.add; split <;> simp_all
  rw [hplain] at this
  rw [this]
  simp [List.getD, List.getElem?_eq_getElem hx]
theorem own_lit2 (w : World) (e : TypeId) (base : Nat) (h : base ≤ w.heap.size) (v u : Int) : (w.alloc (.cells #[.int .u8 v, .int .u8 u] e)).ownsRow base e 1 (.slice (some ⟨w.heap.size, 0, none⟩) 2 2) 2 [.int .u8 v, .int .u8 u] :=
  World.ownsRow_lit w #[.int .u8 v, .int .u8 u] 2 h (by unfold maxLen; omega) (by simp)

set_option maxHeartbeats 2000000 in
theorem ppack (base b : Int) (w : World) (h0 : 0 ≤ b) (h1 : b < 18446744073709551616) :
    Calls Tryd.prog 18 #[.agg #[.int .i64 base, .int .u64 b]] w fun e w' => e = .returned (.tuple #[.string (pkS base b), .int .i64 (pkE base)]) ∧ Chg [] w w' := by
  by_cases h : 0 ≤ base ∧ base < 65536
  · rw [show pkS base b = strOfNums (pk base b 8) from if_pos h, show pkE base = 0 from if_pos h]
    have HV := Lib.hid (fun W => pval base b W)
    rw [show seqB base = true from decide_eq_true h] at HV
    obtain ⟨ha, hb⟩ := h
    have hw1 : IntKind.u8.wrap (base / 256) = base / 256 := by rw [IntKind.wrap_u8]; omega
    have hw2 : IntKind.u8.wrap base = base % 256 := by rw [IntKind.wrap_u8]
    go_enter Tryd.func18, Tryd.ntmps18
    go_wp2_with fail
    refine (HV.out _).mono ?_
    rintro e w1 ⟨rfl, hc1⟩
    have k1 : Chg [] w w1 := ((Chg.refl [] w).alloc (.cells #[.int .i64 base, .int .u64 b] 29)).trans hc1 (by simp)
    have hm := (Blk.new w 29 #[.int .i64 base, .int .u64 b]).chg hc1 (by simp)
    have m0 := (hm.cell 0).trans rfl
    have m1 := (hm.cell 1).trans rfl
    have hml := hm.lt
    go_wp2_with fail
    go_loopw [4, 17] (fun v4 v17 wr => ∃ (i : Nat) (A : Option Addr) (c : Nat), i ≤ 8 ∧ v17 = .int .i64 i ∧ v4 = .slice A (2 + i) c ∧ pkR wr (w.heap.size + 1) A c base b i ∧ Chg [] w wr ∧ Blk wr w.heap.size 29 #[.int .i64 base, .int .u64 b]) (fun _ v17 _ => 8 - (intOf v17).toNat)
    case atStart => exact ⟨0, _, _, by omega, rfl, rfl, by simpa [pkR, pk] using own_lit2 w1 5 (w.heap.size + 1) (by have := k1.size; omega) (base / 256) (base % 256), k1.alloc _, hm.alloc _⟩
    case round =>
      clear k1 hm m0 m1 hml
      obtain ⟨i, A, c, hi, rfl, rfl, hown, kr, hm⟩ := hrel
      have m0 := (hm.cell 0).trans rfl
      have m1 := (hm.cell 1).trans rfl
      have hml := hm.lt
      have HO := Lib.hid hown
      have HM := Lib.hid hm
      by_cases hi8 : i < 8
      · have hi8' : (i : Int) < 8 := by omega
        have hw3 : IntKind.i64.wrap (8 * (i : Int)) = 8 * (i : Int) := by rw [IntKind.wrap_i64]; omega
        have hw4 : 0 ≤ 8 * (i : Int) := by omega
        clear hown hm
        go_wp2_with (at_builtin; refine list_app (P := Tryd.prog) (t := 56) Tryd.underlying56 by_info rfl (by omega) (.tmp 20) (.tmp 27) (w.heap.size + 1) (n := 2 + i) (m := 1) (N := 2 + (i + 1)) (by omega) (by omega) (by intro u hu; simp at hu; subst hu; rfl) (by omega) (own_chg HO.out ((Chg.refl [] wr).alloc _) (by simp)) (reads_lit1 wr 5 _) (by have := kr.size; simp; omega) (by rfl) (by rfl) (by rfl) (by rfl) ?_; intro A3 d3 W3 hown3 hgrow3 hat3)
        go_roundw
        case rel =>
          have hol := ownL_lt HO.out
          have kW : Chg (ownL (.slice A (2 + i) c)) wr W3 := (((Chg.refl (ownL (.slice A (2 + i) c)) wr).alloc _)).grown hgrow3 (fun j hj => .inl (mem_ownL.2 hj))
          refine ⟨i + 1, A3, d3, by omega, by go_num, rfl, ?_, kr.trans kW (fun x hx => .inr (by have := (hol _ hx).1; omega)), HM.out.chg kW (fun hm => absurd (hol _ hm).1 (by omega))⟩
          unfold pkR
          rw [pk_succ, List.map_append]
          refine (congrArg (fun x => W3.ownsRow (w.heap.size + 1) 5 1 (.slice A3 (2 + (i + 1)) d3) (2 + (i + 1)) ((pk base b i).map (Value.int .u8) ++ [x])) ?_).mp hown3
          simp
        case measure => simp [intOf]; omega
      · obtain rfl : i = 8 := by omega
        have hcv := own_conv hown (by omega) (pk_len base b 8)
        clear hown hm
        go_wp2_with fail
        refine bodyPost_ret (v := .tuple #[.string (strOfNums (pk base b 8)), .int .i64 0]) (by simp [results, Tryd.results18, go_sem, *]) rfl ⟨rfl, kr⟩
  · rw [show pkS base b = ⟨#[]⟩ from if_neg h, show pkE base = 1 from if_neg h]
    have HV := Lib.hid (fun W => pval base b W)
    rw [show seqB base = false from decide_eq_false h] at HV
    clear h
    go_enter Tryd.func18, Tryd.ntmps18
    go_wp2_with fail
    refine (HV.out _).mono ?_
    rintro e w1 ⟨rfl, hc1⟩
    have k1 : Chg [] w w1 := ((Chg.refl [] w).alloc (.cells #[.int .i64 base, .int .u64 b] 29)).trans hc1 (by simp)
    go_wp2_with fail
    refine bodyPost_ret (v := .tuple #[.string ⟨#[]⟩, .int .i64 1]) (by simp [results, Tryd.results18, go_sem, *]) rfl ⟨rfl, k1⟩

set_option maxHeartbeats 2000000 in
theorem rpack (base b : Int) (w : World) (h0 : 0 ≤ b) (h1 : b < 18446744073709551616) :
    Calls Tryd.prog 19 #[.agg #[.int .i64 base, .int .u64 b]] w fun e w' => e = .returned (.tuple #[.string (pkS base b), .int .i64 (pkE base)]) ∧ Chg [] w w' := by
  by_cases h : 0 ≤ base ∧ base < 65536
  · rw [show pkS base b = strOfNums (pk base b 8) from if_pos h, show pkE base = 0 from if_pos h]
    have HV := Lib.hid (fun W => rval base b W)
    rw [show seqB base = true from decide_eq_true h] at HV
    obtain ⟨ha, hb⟩ := h
    have hw1 : IntKind.u8.wrap (base / 256) = base / 256 := by rw [IntKind.wrap_u8]; omega
    have hw2 : IntKind.u8.wrap (base % 256) = base % 256 := by rw [IntKind.wrap_u8]; omega
    go_enter Tryd.func19, Tryd.ntmps19
    go_wp2_with fail
    refine (HV.out _).mono ?_
    rintro e w1 ⟨rfl, hc1⟩
    have k1 : Chg [] w w1 := ((Chg.refl [] w).alloc (.cells #[.int .i64 base, .int .u64 b] 29)).trans hc1 (by simp)
    have hm := (Blk.new w 29 #[.int .i64 base, .int .u64 b]).chg hc1 (by simp)
    have m0 := (hm.cell 0).trans rfl
    have m1 := (hm.cell 1).trans rfl
    have hml := hm.lt
    go_wp2_with fail
    go_loopw [4, 5] (fun v4 v17 wr => ∃ (i : Nat) (A : Option Addr) (c : Nat), i ≤ 8 ∧ v17 = .int .i64 i ∧ v4 = .slice A (2 + i) c ∧ pkR wr (w.heap.size + 1) A c base b i ∧ Chg [] w wr ∧ Blk wr w.heap.size 29 #[.int .i64 base, .int .u64 b]) (fun _ v17 _ => 8 - (intOf v17).toNat)
    case atStart => exact ⟨0, _, _, by omega, rfl, rfl, by simpa [pkR, pk] using own_lit2 w1 5 (w.heap.size + 1) (by have := k1.size; omega) (base / 256) (base % 256), k1.alloc _, hm.alloc _⟩
    case round =>
      clear k1 hm m0 m1 hml
      obtain ⟨i, A, c, hi, rfl, rfl, hown, kr, hm⟩ := hrel
      have m0 := (hm.cell 0).trans rfl
      have m1 := (hm.cell 1).trans rfl
      have hml := hm.lt
      have HO := Lib.hid hown
      have HM := Lib.hid hm
      by_cases hi8 : i < 8
      · have hi8' : (i : Int) < 8 := by omega
        have hw3 : IntKind.i64.wrap (8 * (i : Int)) = 8 * (i : Int) := by rw [IntKind.wrap_i64]; omega
        have hw4 : 0 ≤ 8 * (i : Int) := by omega
        have hw5 : IntKind.u64.wrap (8 * (i : Int)) = 8 * (i : Int) := by rw [IntKind.wrap_u64]; omega
        clear hown hm
        go_wp2_with (at_builtin; refine list_app (P := Tryd.prog) (t := 56) Tryd.underlying56 by_info rfl (by omega) (.tmp 22) (.tmp 30) (w.heap.size + 1) (n := 2 + i) (m := 1) (N := 2 + (i + 1)) (by omega) (by omega) (by intro u hu; simp at hu; subst hu; rfl) (by omega) (own_chg HO.out ((Chg.refl [] wr).alloc _) (by simp)) (reads_lit1 wr 5 _) (by have := kr.size; simp; omega) (by rfl) (by rfl) (by rfl) (by rfl) ?_; intro A3 d3 W3 hown3 hgrow3 hat3)
        go_roundw
        case rel =>
          have hol := ownL_lt HO.out
          have kW : Chg (ownL (.slice A (2 + i) c)) wr W3 := (((Chg.refl (ownL (.slice A (2 + i) c)) wr).alloc _)).grown hgrow3 (fun j hj => .inl (mem_ownL.2 hj))
          refine ⟨i + 1, A3, d3, by omega, by go_num, rfl, ?_, kr.trans kW (fun x hx => .inr (by have := (hol _ hx).1; omega)), HM.out.chg kW (fun hm => absurd (hol _ hm).1 (by omega))⟩
          unfold pkR
          rw [pk_succ, List.map_append]
          refine (congrArg (fun x => W3.ownsRow (w.heap.size + 1) 5 1 (.slice A3 (2 + (i + 1)) d3) (2 + (i + 1)) ((pk base b i).map (Value.int .u8) ++ [x])) ?_).mp hown3
          simp
        case measure => simp [intOf]; omega
      · obtain rfl : i = 8 := by omega
        have hcv := own_conv hown (by omega) (pk_len base b 8)
        clear hown hm
        go_wp2_with fail
        refine bodyPost_ret (v := .tuple #[.string (strOfNums (pk base b 8)), .int .i64 0]) (by simp [results, Tryd.results19, go_sem, *]) rfl ⟨rfl, kr⟩
  · rw [show pkS base b = ⟨#[]⟩ from if_neg h, show pkE base = 1 from if_neg h]
    have HV := Lib.hid (fun W => rval base b W)
    rw [show seqB base = false from decide_eq_false h] at HV
    clear h
    go_enter Tryd.func19, Tryd.ntmps19
    go_wp2_with fail
    refine (HV.out _).mono ?_
    rintro e w1 ⟨rfl, hc1⟩
    have k1 : Chg [] w w1 := ((Chg.refl [] w).alloc (.cells #[.int .i64 base, .int .u64 b] 29)).trans hc1 (by simp)
    go_wp2_with fail
    refine bodyPost_ret (v := .tuple #[.string ⟨#[]⟩, .int .i64 1]) (by simp [results, Tryd.results19, go_sem, *]) rfl ⟨rfl, k1⟩

end Go.Proofs.YtpohbbmldedmdaaDoor
