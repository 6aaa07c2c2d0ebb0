/- The round of deficits: its stations as a list; New, find, Deficit, Turns. -/
import Derived.Test.YtmbmejobffpaoaaDp
import Derived.Test.YtmbmejobffpaoaaGen
import Derived.Test.YtmbmejobffpaoaaPw
namespace Go.Proofs.Ytmbmejobffpaoaa
open Go.RowKit
set_option linter.unusedVariables false
set_option linter.unusedSimpArgs false

/-- The stations alone. -/
def vw (M : List (Nat × Sd)) : List Sd := M.map Prod.snd
theorem vw_len (M : List (Nat × Sd)) : (vw M).length = M.length := by simp [vw]
theorem vw_get (M : List (Nat × Sd)) {k : Nat} (hk : k < (vw M).length) (hk' : k < M.length) : (vw M)[k] = M[k].2 := by simp [vw]

/-- The pointers to the stations' blocks. -/
def ptrs (M : List (Nat × Sd)) : List Value := M.map fun m => .pointer (some ⟨m.1, 0, none⟩)
/-- The slice (A, len M, c) holds pointers to the blocks of M; its row lies in one of O. -/
def PR (w : World) (O : List Nat) (A : Option Addr) (c : Nat) (M : List (Nat × Sd)) : Prop :=
  SR w 52 A M.length c (ptrs M) ∧ ∀ j ∈ blkL A, j ∈ O

/-- Block r is a round with this quantum; its order is M: each station with the block in which it lies. -/
structure DM (w : World) (B r : Nat) (O : List Nat) (q : Int) (M : List (Nat × Sd)) (A : Option Addr) (c : Nat) (sn : Option Addr) : Prop where
  Br : B ≤ r
  rO : r ∉ O
  BO : ∀ j ∈ O, B ≤ j ∧ j < w.heap.size
  hr : Blk w r 54 #[.int .i64 q, .slice A M.length c, .pointer sn]
  row : PR w O A c M
  st : ∀ m ∈ M, m.1 ∈ O ∧ Blk w m.1 56 (sdC m.2).toArray
  nd : (M.map (·.1)).Nodup

def DA (w : World) (B r : Nat) (O : List Nat) (q : Int) (L : List Sd) (now : Int) : Prop :=
  ∃ M A c sn, DM w B r O q M A c sn ∧ vw M = L ∧ ((now = -1 ∧ sn = none) ∨ ∃ k, ∃ hk : k < M.length, sid now (vw M) = some k ∧ sn = some ⟨M[k].1, 0, none⟩)

section
variable {w w' : World} {B r c : Nat} {O : List Nat} {q now : Int} {M : List (Nat × Sd)} {A sn : Option Addr} {L : List Sd}
theorem PR.chg {S : List Nat} (h : PR w O A c M) (hc : Chg S w w') (hO : ∀ j ∈ O, j ∉ S) : PR w' O A c M :=
  ⟨h.1.chg hc (fun j hj => hO j (h.2 j hj)), h.2⟩
theorem DM.chg {S : List Nat} (h : DM w B r O q M A c sn) (hc : Chg S w w') (hr : r ∉ S) (hO : ∀ j ∈ O, j ∉ S) : DM w' B r O q M A c sn :=
  ⟨h.Br, h.rO, fun j hj => ⟨(h.BO j hj).1, Nat.lt_of_lt_of_le (h.BO j hj).2 hc.size⟩, h.hr.chg hc hr, h.row.chg hc hO, fun m hm => ⟨(h.st m hm).1, (h.st m hm).2.chg hc (hO _ (h.st m hm).1)⟩, h.nd⟩
theorem DM.lt (h : DM w B r O q M A c sn) : r < w.heap.size := h.hr.lt
theorem DA.chg {S : List Nat} (h : DA w B r O q L now) (hc : Chg S w w') (hr : r ∉ S) (hO : ∀ j ∈ O, j ∉ S) : DA w' B r O q L now := by
  obtain ⟨M, A, c, sn, h1, h2⟩ := h
  exact ⟨M, A, c, sn, h1.chg hc hr hO, h2⟩
theorem DA.lt (h : DA w B r O q L now) : r < w.heap.size := by
  obtain ⟨M, A, c, sn, h1, h2⟩ := h
  exact h1.lt
theorem DA.Br (h : DA w B r O q L now) : B ≤ r := by
  obtain ⟨M, A, c, sn, h1, h2⟩ := h
  exact DM.Br h1
theorem DA.BO (h : DA w B r O q L now) : ∀ j ∈ O, B ≤ j ∧ j < w.heap.size := by
  obtain ⟨M, A, c, sn, h1, h2⟩ := h
  exact DM.BO h1
theorem DM.cell (h : DM w B r O q M A c sn) {k : Nat} (hk : k < M.length) : ∃ g off, A = some ⟨g, off, none⟩ ∧ g ∈ O ∧ w.cell? ⟨g, off + k, none⟩ = some (.pointer (some ⟨M[k].1, 0, none⟩)) := by
  obtain ⟨g, off, rfl, h2⟩ := h.row.1.cell (k := k) (u := .pointer (some ⟨M[k].1, 0, none⟩)) (by simp [ptrs, hk])
  exact ⟨g, off, rfl, h.row.2 g (by simp [blkL]), h2⟩
end

set_option maxHeartbeats 400000 in
theorem dnew_raw (q : Int) (h1 : 256 ≤ q) (h2 : q ≤ 1048576) (w : World) :
    Calls Try.prog 8 #[.int .i64 q] w fun e w' => e = .returned (.tuple #[.pointer (some ⟨w.heap.size, 0, none⟩), .int .i64 0]) ∧
      ∃ m, w' = (w.alloc (.cells #[.int .i64 q, .slice none 0 0, .pointer none] 54)).drewN m := by
  go_enter Try.func8, Try.ntmps8
  go_wp2
  go_ret2
  exact ⟨rfl, 0, rfl⟩

theorem dnew_c (q : Int) (h1 : 256 ≤ q) (h2 : q ≤ 1048576) (w : World) {B : Nat} (hB : B ≤ w.heap.size) :
    Calls Try.prog 8 #[.int .i64 q] w fun e w' => ∃ r, e = .returned (.tuple #[.pointer (some ⟨r, 0, none⟩), .int .i64 0]) ∧ DA w' B r [] q [] (-1) ∧ w.heap.size ≤ r ∧ Chg [] w w' := by
  refine (dnew_raw q h1 h2 w).mono ?_
  rintro e w' ⟨rfl, m, rfl⟩
  exact ⟨w.heap.size, rfl, ⟨([] : List (Nat × Sd)), none, 0, none, ⟨hB, by simp, by simp, (Blk.new _ _ _).drewN m, ⟨SR.nil _ _, by simp [blkL]⟩, by simp, by simp⟩, rfl, .inl ⟨rfl, rfl⟩⟩, Nat.le_refl _, ((Chg.refl _ _).alloc _).drewN m⟩

set_option maxHeartbeats 400000 in
theorem dnew_bad (q : Int) (h : ¬ (256 ≤ q ∧ q ≤ 1048576)) (w : World) :
    Calls Try.prog 8 #[.int .i64 q] w fun e w' => e = .returned (.tuple #[.pointer none, .int .i64 1]) ∧ Chg [] w w' := by
  go_enter Try.func8, Try.ntmps8
  go_wp2
  all_goals
    first
      | (go_ret2; exact ⟨rfl, Chg.refl _ _⟩)
      | (exfalso; simp only [Bool.not_eq_false', decide_eq_true_eq, decide_eq_false_iff_not] at *; omega)
      | (exfalso; simp at *; omega)

set_option maxHeartbeats 400000 in
theorem dfindfn_c (p b : Nat) (i x : Int) (w : World) (h : w.cell? ⟨b, 0, none⟩ = some (.int .i64 x)) (hp : w.cell? ⟨p, 0, none⟩ = some (.int .i64 i)) :
    Calls Try.prog 35 #[.pointer (some ⟨p, 0, none⟩), .pointer (some ⟨b, 0, none⟩)] w fun e w' => e = .returned (.bool (i == x)) ∧ ∃ m, w' = w.drewN m := by
  go_enter Try.func35, Try.ntmps35
  go_wp2
  go_quiet (fail)
  go_wp2
  go_ret
  exact ⟨rfl, _, rfl⟩

set_option maxHeartbeats 2000000 in
theorem didx_c {w : World} {B r b n c : Nat} {O : List Nat} {q x : Int} {M : List (Nat × Sd)} {A sn : Option Addr} (hn : M.length = n) (hn6 : n ≤ 1000000) (h : DM w B r O q M A c sn) (hs : w.cell? ⟨b, 0, none⟩ = some (.int .i64 x)) :
    Calls Try.prog 34 #[.slice A n c, .func (.func 35) #[] #[.pointer (some ⟨b, 0, none⟩)]] w fun e w' =>
      e = .returned (.int .i64 (sidI x (vw M))) ∧ ∃ m, w' = w.drewN m := by
  have HN := Lib.hid hn
  have HH := Lib.hid h
  clear hn h
  go_enter Try.func34, Try.ntmps34
  go_wp2
  go_loopw [8] (fun i wr => ∃ k m : Nat, k ≤ n ∧ i = .int .i64 k ∧ wr = w.drewN m ∧ ∀ j (hj : j < (vw M).length), j < k → (vw M)[j].i ≠ x) (fun i _ => n - (intOf i).toNat)
  case atStart => exact ⟨0, 0, Nat.zero_le _, rfl, rfl, fun j _ hj => absurd hj (by omega)⟩
  case round =>
    obtain ⟨k, m, hk, rfl, rfl, hP⟩ := hrel
    have HP := Lib.hid hP
    clear hP
    by_cases hlt : k < n
    · have hkl : k < M.length := by have := HN.out; omega
      obtain ⟨g, off, rfl, hg, c0⟩ := HH.out.cell hkl
      have c1 : w.cell? ⟨M[k].1, 0, none⟩ = some (.int .i64 M[k].2.i) := ((HH.out.st M[k] (by simp)).2.cell 0).trans rfl
      have hkm : k < (vw M).length := by rw [vw_len]; exact hkl
      have HE := Lib.hid (fun hq : M[k].2.i = x => sid_some HP.out hkm (by rw [vw_get M hkm hkl]; exact hq))
      have HX := Lib.hid (fun (hq : M[k].2.i ≠ x) j (hj : j < (vw M).length) (h1 : j < k + 1) => show (vw M)[j].i ≠ x from by
        by_cases h2 : j = k
        · subst h2; rw [vw_get M hj hkl]; exact hq
        · exact HP.out j hj (by omega))
      generalize M[k] = p at c0 c1 HE HX
      have HH2 := Lib.hid (fun W : World => dfindfn_c p.1 b p.2.i x W)
      have hI : (k : Int) < (n : Int) := by omega
      have hJ : (0 : Int) ≤ (k : Int) := by omega
      go_wp2_with fail
      refine (HH2.out (w.drewN m) hs c1).mono ?_
      rintro e w2 ⟨rfl, m2, rfl⟩
      by_cases hq : p.2.i = x
      · have hq' : (p.2.i == x) = true := by simpa using hq
        have HF := Lib.hid (HE.out hq)
        clear hq
        rw [hq']
        go_wp2_with fail
        go_ret
        exact ⟨ret_int (by rw [sidI, HF.out]), _, by first | rfl | rw [World.drewN_drewN]⟩
      · have hq' : (p.2.i == x) = false := by simpa using hq
        have HF := Lib.hid (HX.out hq)
        clear hq
        rw [hq']
        go_wp2_with fail
        go_roundw
        case rel => exact ⟨k + 1, _, by omega, by go_num, by first | rfl | rw [World.drewN_drewN], HF.out⟩
        case measure => simp [intOf]; omega
    · have HF := Lib.hid (sid_none (x := x) (L := vw M) (fun j hj => HP.out j hj (by have := HN.out; rw [vw_len] at hj; omega)))
      go_wp2_with fail
      go_ret
      exact ⟨ret_int (by rw [sidI, HF.out]), m, rfl⟩

set_option maxHeartbeats 1000000 in
theorem dfind_m {w : World} {B r c : Nat} {O : List Nat} {q : Int} {M : List (Nat × Sd)} {A sn : Option Addr} (h : DM w B r O q M A c sn) (hl : M.length ≤ 1000000) (x : Int) :
    Calls Try.prog 24 #[.pointer (some ⟨r, 0, none⟩), .int .i64 x] w fun e w' => e = .returned (.int .i64 (sidI x (vw M))) ∧ Chg [] w w' := by
  have hmf : ∀ (fn : Fn) (first cap : Array Value) (w : World), (Instr.makeFunc fn first cap).run Try.prog w = .ok (.func fn first cap) w := fun _ _ _ _ => rfl
  have hsl := h.lt
  have e3 := (h.hr.cell 1).trans rfl
  have HF := Lib.hid ((Blk.new w 3 #[.int .i64 x]).cell 0)
  have HD := Lib.hid (h.chg ((Chg.refl [] w).alloc (.cells #[.int .i64 x] 3)) (by simp) (by simp))
  clear h
  go_enter Try.func24, Try.ntmps24
  go_wp2_with fail
  refine (didx_c rfl hl HD.out (HF.out.trans rfl)).mono ?_
  rintro e w' ⟨rfl, m, rfl⟩
  go_wp2_with fail
  go_ret
  exact ⟨rfl, ((Chg.refl [] w).alloc _).drewN m⟩

theorem dfind_c {w : World} {B r : Nat} {O : List Nat} {q now : Int} {L : List Sd} (h : DA w B r O q L now) (hl : L.length ≤ 1000000) (x : Int) :
    Calls Try.prog 24 #[.pointer (some ⟨r, 0, none⟩), .int .i64 x] w fun e w' => e = .returned (.int .i64 (sidI x L)) ∧ Chg [] w w' := by
  obtain ⟨M, A, c, sn, h1, rfl, h2⟩ := h
  exact dfind_m h1 (by rw [vw_len] at hl; exact hl) x

/-- What Deficit gives. -/
def dfD (x : Int) (L : List Sd) : Int := match sid x L with
  | none => 0
  | some k => (L[k]?.getD ⟨0, 0, 0, 0⟩).d
def dfT (x : Int) (L : List Sd) : Int := match sid x L with
  | none => 0
  | some k => (L[k]?.getD ⟨0, 0, 0, 0⟩).t

set_option maxHeartbeats 1000000 in
theorem ddef_c {w : World} {B r : Nat} {O : List Nat} {q now : Int} {L : List Sd} (h : DA w B r O q L now) (hl : L.length ≤ 1000000) (x : Int) :
    Calls Try.prog 14 #[.pointer (some ⟨r, 0, none⟩), .int .i64 x] w fun e w' => e = .returned (.tuple #[.int .i64 (dfD x L), .bool (sid x L).isSome]) ∧ Chg [] w w' := by
  have HF := Lib.hid (dfind_c h hl x)
  cases hs : sid x L with
  | none =>
    rw [show dfD x L = 0 from by rw [dfD, hs]]
    rw [sidI_none hs] at HF
    clear h hs
    go_enter Try.func14, Try.ntmps14
    go_wp2_with fail
    refine HF.out.mono ?_
    rintro e w' ⟨rfl, hc⟩
    go_wp2_with fail
    go_ret2
    exact ⟨rfl, hc⟩
  | some k =>
    rw [sidI_some hs] at HF
    obtain ⟨hk, _⟩ := sid_spec hs
    have HV := Lib.hid (show dfD x L = L[k].d from by rw [dfD, hs]; simp [hk])
    rw [HV.out]
    clear hs HV
    obtain ⟨M, A, c, sn, h1, rfl, h2⟩ := h
    have hkm : k < M.length := by rw [vw_len] at hk; exact hk
    have hlm : M.length ≤ 1000000 := by rw [vw_len] at hl; exact hl
    rw [show (vw M)[k].d = M[k].2.d from by simp [vw]]
    have HD := Lib.hid h1
    clear h1 h2 hl
    have hI : (k : Int) < (M.length : Int) := by omega
    have hJ : (0 : Int) ≤ (k : Int) := by omega
    go_enter Try.func14, Try.ntmps14
    go_wp2_with fail
    refine HF.out.mono ?_
    rintro e w' ⟨rfl, hc⟩
    have hd := HD.out.chg hc (by simp) (by simp)
    have e1 := (hd.hr.cell 1).trans rfl
    obtain ⟨g, off, rfl, hg, c0⟩ := hd.cell hkm
    have c2 : w'.cell? ⟨M[k].1, 2, none⟩ = some (.int .i64 M[k].2.d) := ((hd.st M[k] (by simp)).2.cell 2).trans rfl
    generalize hp : M[k] = p at c0 c2
    have HP := Lib.hid hp
    clear hd hp
    go_wp2_with fail
    go_ret2
    exact ⟨by rw [HP.out]; rfl, hc⟩

set_option maxHeartbeats 1000000 in
theorem dturns_c {w : World} {B r : Nat} {O : List Nat} {q now : Int} {L : List Sd} (h : DA w B r O q L now) (hl : L.length ≤ 1000000) (x : Int) :
    Calls Try.prog 15 #[.pointer (some ⟨r, 0, none⟩), .int .i64 x] w fun e w' => e = .returned (.int .i64 (dfT x L)) ∧ Chg [] w w' := by
  have HF := Lib.hid (dfind_c h hl x)
  cases hs : sid x L with
  | none =>
    rw [show dfT x L = 0 from by rw [dfT, hs]]
    rw [sidI_none hs] at HF
    clear h hs
    go_enter Try.func15, Try.ntmps15
    go_wp2_with fail
    refine HF.out.mono ?_
    rintro e w' ⟨rfl, hc⟩
    go_wp2_with fail
    go_ret
    exact ⟨rfl, hc⟩
  | some k =>
    rw [sidI_some hs] at HF
    obtain ⟨hk, _⟩ := sid_spec hs
    have HV := Lib.hid (show dfT x L = L[k].t from by rw [dfT, hs]; simp [hk])
    rw [HV.out]
    clear hs HV
    obtain ⟨M, A, c, sn, h1, rfl, h2⟩ := h
    have hkm : k < M.length := by rw [vw_len] at hk; exact hk
    have hlm : M.length ≤ 1000000 := by rw [vw_len] at hl; exact hl
    rw [show (vw M)[k].t = M[k].2.t from by simp [vw]]
    have HD := Lib.hid h1
    clear h1 h2 hl
    have hI : (k : Int) < (M.length : Int) := by omega
    have hJ : (0 : Int) ≤ (k : Int) := by omega
    go_enter Try.func15, Try.ntmps15
    go_wp2_with fail
    refine HF.out.mono ?_
    rintro e w' ⟨rfl, hc⟩
    have hd := HD.out.chg hc (by simp) (by simp)
    have e1 := (hd.hr.cell 1).trans rfl
    obtain ⟨g, off, rfl, hg, c0⟩ := hd.cell hkm
    have c2 : w'.cell? ⟨M[k].1, 3, none⟩ = some (.int .i64 M[k].2.t) := ((hd.st M[k] (by simp)).2.cell 3).trans rfl
    generalize hp : M[k] = p at c0 c2
    have HP := Lib.hid hp
    clear hd hp
    go_wp2_with fail
    go_ret
    exact ⟨by rw [HP.out]; rfl, hc⟩

end Go.Proofs.Ytmbmejobffpaoaa
