/- The walk of the statement RingRemoves: removing a number from the middle moves the later ones up. -/
import Derived.Test.YteejbfookokadaaRingB
import Derived.Test.YteejbfookokadaaApp
namespace Go.Proofs.Yteejbfookokadaa
open Go.RowKit
set_option linter.unusedVariables false
set_option linter.unusedSimpArgs false

theorem remove_is {w : World} {B r q n : Nat} {L M : List Int} {i v c : Int} (h : RingA w B r q n L) (hv : takeV L i = v) (hc : codeE (takeOk L i) 6 = c) (hM : takeL L i = M) :
    Calls Try.prog 15 #[.pointer (some ⟨r, 0, none⟩), .int .i64 i] w fun e w' => e = .returned (.tuple #[.int .i64 v, .int .i64 c]) ∧ RingA w' B r q n M ∧ Chg [r, q] w w' := by
  subst hv hc hM
  exact remove_c h i

theorem int_info : (Try.prog.info? 3).map (fun i => (i.zero, i.size, i.bytes)) = some (some (.int .i64 0), 1, 8) := by kernel_rfl

/-- A row of integers in block g, as cells, and cut. -/
theorem Rd.reads {w : World} {g : Nat} {a : Option Addr} {L : List Int} (h : Rd w g a L) : Reads w w.heap.size 1 a L.length (L.map (Value.int .i64)) := by
  refine ⟨by simp, fun hn => ?_⟩
  obtain ⟨off, h1, h2⟩ := h.2 0 hn
  refine ⟨_, h1, block_lt_of_cell h2, fun j u hu => ?_⟩
  have hj : j < L.length := by
    rcases Nat.lt_or_ge j L.length with hj | hj
    · exact hj
    · rw [List.getElem?_eq_none (by simpa using hj)] at hu; cases hu
  obtain ⟨off', h3, h4⟩ := h.2 j hj
  rw [h1] at h3
  simp at h3
  subst h3
  have hadd : (⟨g, off, none⟩ : Addr).add j = ⟨g, off + j, none⟩ := by
    unfold Addr.add
    split
    · subst_vars; rfl
    · rfl
  rw [hadd, h4]
  simp [hj] at hu ⊢
  exact hu

theorem own_rd {w : World} {base : Nat} {e : TypeId} {A : Option Addr} {n c : Nat} {xs : List Value} {M : List Int} (h : w.ownsRow base e 1 (.slice A n c) n xs) (hx : xs = M.map (Value.int .i64)) (hn : n ≤ 1000000) :
    ∃ g, Rd w g A M ∧ M.length = n ∧ ((Value.slice A n c).ownBlock = some g ∧ A = some ⟨g, 0, none⟩ ∧ n ≤ c ∨ M = []) := by
  subst hx
  have hM : n = M.length := by have := h.1; simpa using this.symm
  subst hM
  rcases h.2 with ⟨h1, h0⟩ | ⟨g, cap, cur, h1, hg, hh, hnc, hcm, hcs, ht⟩
  · have : M = [] := List.eq_nil_of_length_eq_zero h0
    subst this
    exact ⟨0, Rd.nil _ _ _, rfl, .inr rfl⟩
  · simp at h1
    obtain ⟨rfl, rfl⟩ := h1
    refine ⟨g, ⟨by omega, fun i hi => ⟨0, rfl, ?_⟩⟩, rfl, .inl ⟨rfl, rfl, hnc⟩⟩
    rw [Nat.zero_add, cell_of_row w g i cur e (0, 0) hh]
    have h1 : (cur.toList.take (M.length * 1))[i]? = (M.map (Value.int .i64))[i]? := by rw [ht]
    rw [List.getElem?_take, if_pos (by omega)] at h1
    rw [← Array.getElem?_toList, h1]
    simp [hi]
theorem equal_is2 {w : World} {g h c d : Nat} {a b : Option Addr} {L : List Int} {n m : Nat} (e1 : L.length = n) (e2 : L.length = m) (hL : Rd w g a L) (hM : Rd w h b L) :
    Calls Try.prog 16 #[.slice a n c, .slice b m d] w fun e w' => e = .returned (.bool true) ∧ ∃ m, w' = w.drewN m :=
  (equal_c e1 e2 hL hM).mono fun e w' ⟨h1, h2⟩ => ⟨by rw [h1]; simp, h2⟩
theorem split_erase (L : List Int) (n : Nat) : [] ++ (L.take n).map (Value.int .i64) ++ (L.drop (n + 1)).map (Value.int .i64) = (L.eraseIdx n).map (Value.int .i64) := by
  rw [List.nil_append, ← List.map_append, List.eraseIdx_eq_take_drop_succ]

set_option maxHeartbeats 2000000 in
theorem ringRemoves_walk {w : World} {a : Option Addr} {len cap : Nat} {zs : List Int} {x : Int} (hz : zs.length = len) (hl : len ≤ 9223372036854775807) (hi : Inp w w.heap.size a zs) (hx1 : -9223372036854775808 ≤ x) (hx2 : x ≤ 9223372036854775807) :
    Calls Try.prog 4 #[.slice a len cap, .int .i64 x] w fun e w' => e = .returned (.bool true) ∧ Below w.heap.size w w' := by
  have hgn := gnew_c (cap := cap) hz hl hi
  clear hz hi
  go_enter Try.func4, Try.ntmps4
  go_wp2_with fail
  refine hgn.mono ?_
  rintro e w1 ⟨c, rfl, hC1, hc1⟩
  clear hgn
  have hB1 : w.heap.size ≤ c := hC1.le
  go_wp2_with fail
  refine (rnew_3 6 (by omega) (by omega) (by omega) w1 (B := w.heap.size) hc1.size).mono ?_
  rintro e w2 ⟨r, q, rfl, hR2, hr, hq, hc2⟩
  have k2 := hc1.trans hc2 (by simp)
  have hC2 := hC1.chg hc2 (by simp) (by simp)
  have hclt := hC1.lt
  have hne1 : c ≠ r := by omega
  have hne2 : c ≠ q := by omega
  have hBr := hc1.size
  clear hC1 hc1 hc2
  go_wp2_with fail
  go_loopw [8] (fun vi wr => ∃ (j k : Nat) (L : List Int), j ≤ 9 ∧ k ≤ 2 * j ∧ vi = .int .i64 j ∧ Cho wr w.heap.size c zs k ∧ RingA wr w.heap.size r q 6 L ∧ Chg [] w wr) (fun vi _ => 9 - (intOf vi).toNat)
  case atStart => exact ⟨0, 0, [], by omega, by omega, rfl, hC2, hR2, k2⟩
  case round =>
    obtain ⟨j, k, L, hj, hk, rfl, hC, hR, hch⟩ := hrel
    clear hC2 hR2 k2
    have hBq := hch.size
    by_cases hj9 : j < 9
    · have hj' : (j : Int) < 9 := by omega
      go_wp2_with fail
      refine (next_c hC (by omega) (by omega)).mono ?_
      rintro e wa ⟨rfl, hCa, hca⟩
      have hRa := hR.chg hca (by simp; exact Ne.symm hne1) (by simp; exact Ne.symm hne2)
      have ka := chg_one hch hca hB1
      go_wp2_with fail
      refine (push_c hRa _).mono ?_
      rintro e wb ⟨rfl, hRb, hcb⟩
      have hCb := hCa.chg hcb (by simp [hne1, hne2]) (by simp; omega)
      have kb := chg_pair ka hcb (by omega) (by omega)
      clear hC hR hCa hRa hca hcb hch ka
      by_cases h0 : nx zs (k + 1) 3 = 0
      · have hd : (nx zs (k + 1) 3 == 0) = true := beq_iff_eq.2 h0
        clear h0
        go_wp2_with fail
        refine (next_c hCb (by omega) (by omega)).mono ?_
        rintro e wc ⟨rfl, hCc, hcc⟩
        have hRc := hRb.chg hcc (by simp; exact Ne.symm hne1) (by simp; exact Ne.symm hne2)
        have kc := chg_one kb hcc hB1
        go_wp2_with fail
        refine (pop_c hRc).mono ?_
        rintro e wd ⟨rfl, hRd, hcd⟩
        go_wp2_with fail
        go_roundw
        case rel => exact ⟨j + 1, k + 2, _, by omega, by omega, by go_num, hCc.chg hcd (by simp [hne1, hne2]) (by simp; omega), hRd, chg_pair kc hcd (by omega) (by omega)⟩
        case measure => simp [intOf]; omega
      · have hd : (nx zs (k + 1) 3 == 0) = false := beq_eq_false_iff_ne.2 h0
        clear h0
        go_wp2_with fail
        refine (next_c hCb (by omega) (by omega)).mono ?_
        rintro e wc ⟨rfl, hCc, hcc⟩
        have hRc := hRb.chg hcc (by simp; exact Ne.symm hne1) (by simp; exact Ne.symm hne2)
        have kc := chg_one kb hcc hB1
        go_wp2_with fail
        go_roundw
        case rel => exact ⟨j + 1, k + 2, _, by omega, by omega, by go_num, hCc, hRc, kc⟩
        case measure => simp [intOf]; omega
    · go_wp2_with fail
      refine (items_is hR rfl).mono ?_
      rintro e wa ⟨g, rfl, hg1, hg2, hrd, hca⟩
      have ka := hch.trans hca (by simp)
      have hRa := hR.chg hca (by simp) (by simp)
      have hL6 := hR.len.1
      have hlt := hR.lt
      by_cases ok : takeOk L x = true
      · have hx : 0 ≤ x ∧ x < L.length := by simpa [takeOk] using ok
        obtain ⟨n, rfl⟩ := Int.eq_ofNat_of_zero_le hx.1
        have hn : n < L.length := by omega
        obtain ⟨u, hu⟩ : ∃ u, L.getD n 0 = u := ⟨_, rfl⟩
        have hvn := Lib.hid (show takeV L (n : Int) = u by rw [takeV, ok, ← hu]; rfl)
        have HU := Lib.hid hu
        clear hu
        have hln := Lib.hid (show takeL L (n : Int) = L.eraseIdx n by rw [takeL, ok]; rfl)
        have OK := Lib.hid ok
        clear ok hx
        obtain ⟨hn1, hn2⟩ : (n : Int) < (L.length : Int) ∧ (0 : Int) ≤ (n : Int) := by omega
        go_wp2_with fail
        refine (remove_is hRa hvn.out (c := 0) (by rw [OK.out]; rfl) hln.out).mono ?_
        rintro e wb ⟨rfl, hRb, hcb⟩
        have kb := chg_pair ka hcb (by omega) (by omega)
        have hrdb := hrd.chg hcb (by simp; omega)
        have hcbs := hcb.size
        clear hRa hrd hcb hR hC hca ka hch
        go_wp2_with fail
        obtain ⟨i0, hi0, hz0, hz1, hz2⟩ := info_parts int_info
        have hb1 : (n : Int) ≤ (L.length : Int) := by omega
        have hb2 : (n : Int) + 1 ≤ (L.length : Int) := by omega
        have hb3 : (0 : Int) ≤ (n : Int) + 1 := by omega
        have hb4 : ((n : Int) + 1).toNat = n + 1 := by omega
        have hb5 : IntKind.i64.wrap ((n : Int) + 1) = (n : Int) + 1 := IntWalk.i64_in _ (by omega)
        obtain ⟨A2, hA2, hr2⟩ : ∃ A2, (if L.length = n + 1 then some ({ block := g, off := 0 } : Addr) else some { block := g, off := n + 1 }) = A2 ∧ Reads wb wb.heap.size 1 A2 (L.length - (n + 1)) ((L.drop (n + 1)).map (Value.int .i64)) := by
          refine ⟨_, rfl, ?_⟩
          have := (hrdb.reads).cut (k := n + 1) (cap := L.length) (by omega) (Nat.le_refl _)
          simpa [Addr.add] using this
        have hr1 : Reads wb wb.heap.size 1 (some ({ block := g, off := 0 } : Addr)) n ((L.take n).map (Value.int .i64)) := by
          have := (hrdb.reads).pre (k := n) (by omega)
          simpa using this
        have HR1 := Lib.hid hr1
        have HR2 := Lib.hid hr2
        have hgw : g < wb.heap.size := by have := hcbs; omega
        clear hr1 hr2
        have hE := own_drew (own_empty wb 3 1 wb.heap.size (Nat.le_refl _))
        have hR1 := (HR1.out.alloc (Nat.le_refl _) (.cells #[] 3)).drew
        have hR2 := (HR2.out.alloc (Nat.le_refl _) (.cells #[] 3)).drew
        go_region_held3 (fun w' => True) (trivial) (first
          | (have hO2 := hown1; have hQ2 := hR2.grown hgrow1 (by simp) (by simp [Value.ownBlock]); have hZ2 := hgrow1.size; refine step_app (P := Try.prog) (t := 22) Try.underlying22 int_info rfl (by omega) (.tmp 69) (.tmp 73) wb.heap.size (n := n) (m := L.length - (n + 1)) (N := n + (L.length - (n + 1))) rfl (by omega) (ints_one _) (by omega) hO2 hQ2 (by simp at hZ2; omega) (by rfl) (by rfl) (by rfl) (by rfl) ?_; clear hO2 hQ2 hZ2; intro A2' d2 W2 hown2 hgrow2 hat2)
          | (refine step_app (P := Try.prog) (t := 22) Try.underlying22 int_info rfl (by omega) (.tmp 65) (.tmp 68) wb.heap.size (n := 0) (m := n) (N := n) (Nat.zero_add _) (by omega) (ints_one _) (by omega) hE hR1 (by simp) (by rfl) (by rfl) (by rfl) (by rfl) ?_; intro A1 d1 W1 hown1 hgrow1 hat1))
        have q1 := (((Chg.refl [] wb).alloc (.cells #[] 3)).drew).grown hgrow1 (by simp [Value.ownBlock])
        have q2 := q1.grown hgrow2 (by
          intro k hk
          rcases hat1 with h | h
          · rw [hk] at h; simp [Value.ownBlock] at h; omega
          · rw [hk] at h; simp at h; omega)
        have hrdc := hrdb.chg q2 (by simp)
        have hRc := hRb.chg q2 (by simp) (by simp)
        have kc := kb.trans q2 (by simp)
        have hcn : W2.cell? ⟨g, n, none⟩ = some (.int .i64 u) := by
          obtain ⟨off, e1, e2⟩ := hrdc.2 n hn
          simp at e1
          subst e1
          rw [Nat.zero_add, HU.out] at e2
          exact e2
        have hle : (L.eraseIdx n).length = L.length - 1 := by rw [List.length_eraseIdx, if_pos hn]
        obtain ⟨g2, hrd2, hnn2, _⟩ := own_rd hown2 (split_erase L n) (by omega)
        have HNN := Lib.hid hnn2
        clear hnn2 hown2 hgrow2 hat2 hown1 hgrow1 hat1 q1 q2 hRb hrdb hE hR1 hR2
        have HLE := Lib.hid hle
        clear hle
        go_wp2_with fail
        refine (items_is hRc rfl).mono ?_
        rintro e wd ⟨g3, rfl, hg3, hg4, hrd3, hcd⟩
        have kd := kc.trans hcd (by simp)
        have hrd4 := hrd2.chg hcd (by simp)
        go_wp2_with fail
        refine (equal_is2 HNN.out rfl hrd4 hrd3).mono ?_
        rintro e we ⟨rfl, m4, rfl⟩
        go_wp2_with fail
        refine (awake_c _).mono ?_
        rintro e wi ⟨rfl, hci⟩
        go_wp2_with fail
        go_ret
        exact ⟨rfl, ((kd.drewN m4).trans hci (by simp)).below (Nat.le_refl _) (by simp)⟩
      · have okf : takeOk L x = false := by simpa using ok
        have hbad : ¬ (0 ≤ x ∧ x < L.length) := by simpa [takeOk] using okf
        have hv0 := Lib.hid (show takeV L x = 0 by rw [takeV, okf]; rfl)
        have hl0 := Lib.hid (show takeL L x = L by rw [takeL, okf]; rfl)
        have OK := Lib.hid okf
        clear okf ok
        by_cases hx0 : x < 0
        all_goals
          have hx3 : 0 ≤ x → (L.length : Int) ≤ x := by omega
          go_wp2_with fail
          refine (remove_is hRa hv0.out (c := 6) (by rw [OK.out]; rfl) hl0.out).mono ?_
          rintro e wb ⟨rfl, hRb, hcb⟩
          have kb := chg_pair ka hcb (by omega) (by omega)
          have hrdb := hrd.chg hcb (by simp; omega)
          go_wp2_with fail
          refine (items_is hRb rfl).mono ?_
          rintro e wd ⟨g3, rfl, hg3, hg4, hrd3, hcd⟩
          have kd := kb.trans hcd (by simp)
          have hrd4 := hrdb.chg hcd (by simp)
          go_wp2_with fail
          refine (equal_is rfl hrd4 hrd3).mono ?_
          rintro e we ⟨rfl, m4, rfl⟩
          go_wp2_with fail
          refine (awake_c _).mono ?_
          rintro e wi ⟨rfl, hci⟩
          go_wp2_with fail
          go_ret
          exact ⟨rfl, ((kd.drewN m4).trans hci (by simp)).below (Nat.le_refl _) (by simp)⟩

end Go.Proofs.Yteejbfookokadaa
