/- The receiver: the program is awake (law 17). -/
import Derived.Test.YtgkdlplocahnnaaRo
namespace Go.Proofs.Ytgkdlplocahnnaa
open Go.RowKit Go.Maps
set_option linter.unusedVariables false
set_option linter.unusedSimpArgs false

theorem own_rdr {w : World} {base n c : Nat} {e : TypeId} {A : Option Addr} {L : List Int} (h : w.ownsRow base e 1 (.slice A n c) n (L.map (Value.int .i64))) (hl : L.length ≤ 9223372036854775807) : L.length = n ∧ ∃ g, base ≤ g ∧ Rd w g A L ∧ ∀ i, A = some i → i.block = g := by
  have hln : L.length = n := by have := h.1; simp at this; omega
  refine ⟨hln, ?_⟩
  rcases h.2 with ⟨hv, h0⟩ | ⟨g, cap, cur, hv, hg, hh, h1, h2, h3, h4⟩
  · subst h0
    have : L = [] := List.eq_nil_of_length_eq_zero hln
    subst this
    injection hv with hv
    exact ⟨base, Nat.le_refl _, Rd.nil _ _ _, fun i hi => by rw [hv] at hi; cases hi⟩
  · injection hv with hv
    subst hv
    refine ⟨g, hg, ⟨hl, fun i hi => ⟨0, rfl, ?_⟩⟩, fun i hi => by injection hi with hi; subst hi; rfl⟩
    have hb : Blk w g e cur := hh
    rw [hb.cell]
    have h5 : (L.map (Value.int .i64))[i]? = some (.int .i64 (L.getD i 0)) := by simp [hi]
    rw [← h4, List.getElem?_take] at h5
    split at h5
    · rw [Nat.zero_add, ← Array.getElem?_toList]; exact h5
    · cases h5

theorem Frm.chg {w0 a b : World} {r m base : Nat} (h : Frm a b r m base) (hc : Chg [] w0 a) (hr : w0.heap.size ≤ r) (hm : w0.heap.size ≤ m) (hb : w0.heap.size ≤ base) : Chg [] w0 b := by
  obtain ⟨S, h1, h2⟩ := h
  refine hc.trans h1 (fun j hj => ?_)
  rcases h2 j hj with rfl | rfl | h
  · exact .inr hr
  · exact .inr hm
  · exact .inr (by omega)
theorem Frm.rd {a b : World} {r m base g : Nat} {A : Option Addr} {L : List Int} (h : Frm a b r m base) (hR : Rd a g A L) (hr : g ≠ r) (hm : g ≠ m) (hb : g < base) : Rd b g A L := by
  obtain ⟨S, h1, h2⟩ := h
  refine hR.chg h1 (fun hj => ?_)
  rcases h2 g hj with h | h | h
  · exact hr h
  · exact hm h
  · omega
theorem rd_litr {w : World} {L : List Int} {t : TypeId} (h : L.length ≤ 100) : Rd (w.alloc (.cells (L.map (Value.int .i64)).toArray t)) w.heap.size (some ⟨w.heap.size, 0, none⟩) L := Rd.of_blk (Blk.new w t _) (by omega)
theorem equal_q {w : World} {g h c d : Nat} {a b : Option Addr} {L M : List Int} {n1 n2 : Nat} (e1 : L.length = n1) (e2 : M.length = n2) (hL : Rd w g a L) (hM : Rd w h b M) :
    Calls Try.prog 21 #[.slice a n1 c, .slice b n2 d] w fun e w' => e = .returned (.bool (decide (L = M))) ∧ Chg [] w w' :=
  (equal_c e1 e2 hL hM).mono (by rintro e w' ⟨rfl, m, rfl⟩; exact ⟨rfl, (Chg.refl [] _).drewN m⟩)

/-- What Receive leaves, where its outcome is known. -/
def RcvAt (w : World) (B r m n : Nat) (wd x2 : Int) (H2 : Int → Option Int) (o2 : List Int) (e : Ending) (w' : World) : Prop :=
  ∃ A c g, e = .returned (.tuple #[.slice A o2.length c, .int .i64 0]) ∧ Rd w' g A o2 ∧ w.heap.size ≤ g ∧ RV w' B r m (n + 1) wd x2 H2 ∧ Frm w w' r m w.heap.size

theorem receive_at {w : World} {B r m n : Nat} {wd x b s id x1 x2 : Int} {H H1 H2 : Int → Option Int} {o1 o2 : List Int} (h : RV w B r m n wd x H) (hn : n ≤ 100000) (hb : seqP b ∧ seqP s ∧ 1 ≤ id) (hid2 : id ≤ 9223372036854775807) (hm0 : mvE x wd b = 0) (hi0 : insB b wd s = true)
    (hS : Skp b x H [] x1 H1 o1) (hR : Rls x1 (stH H1 x1 s id) o1 x2 H2 o2) :
    Calls Try.prog 10 #[.pointer (some ⟨r, 0, none⟩), .int .i64 b, .int .i64 s, .int .i64 id] w (RcvAt w B r m n wd x2 H2 o2) := by
  refine (receive_ok h hn hb hid2 hm0 hi0).mono ?_
  rintro e w' ⟨A, c, N, y1, G1, p1, y2, G2, p2, rfl, hown, hN, hS', hR', hV, hF⟩
  obtain ⟨rfl, rfl, rfl⟩ := hS.det hS'
  obtain ⟨rfl, rfl, rfl⟩ := hR.det hR'
  obtain ⟨hl, g, hg, hRd, _⟩ := own_rdr hown (by have := hown.1; simp at this; omega)
  subst hl
  exact ⟨A, c, g, rfl, hRd, hg, hV, hF⟩

def aw1 : Int → Option Int := mPut (fun _ => none) 1 8
def aw2 : Int → Option Int := mDel (mDel (mPut aw1 0 7) 0) 1
def aw3 : Int → Option Int := mPut aw2 3 10
def aw4 : Int → Option Int := mDel (mDel (mPut (mDel aw3 2) 4 11) 3) 4

set_option maxRecDepth 100000 in
set_option maxHeartbeats 8000000 in
theorem rvawake_c (w : World) :
    Calls Try.prog 14 #[] w fun e w' => e = .returned (.bool true) ∧ Chg [] w w' := by
  go_enter Try.func14, Try.ntmps14
  go_wp2_with fail
  refine (rvnew_c 8 (by omega) (by omega) w (Nat.le_refl _)).mono ?_
  rintro e w1 ⟨r, m, rfl, hV1, hr1, hm1, hc1⟩
  have hrl1 := hV1.lt
  have hml1 := hV1.mlt
  go_wp2_with fail
  refine (receive_at (b := 0) (s := 1) (id := 8) (x1 := 0) (x2 := 0) (H2 := aw1) (o2 := []) hV1 (by omega) (by unfold seqP; omega) (by omega) rfl rfl (.stop rfl) (.stop rfl)).mono ?_
  rintro e w2 ⟨A2, c2, g2, rfl, hR2, hg2, hV2, hF2⟩
  have k2 := hF2.chg hc1 hr1 hm1 hc1.size
  have hz2 := hF2.size
  clear hV1 hF2 hc1 hR2
  go_wp2_with fail
  refine (receive_at (b := 0) (s := 0) (id := 7) (x1 := 0) (x2 := 2) (H2 := aw2) (o2 := [7, 8]) hV2 (by omega) (by unfold seqP; omega) (by omega) rfl rfl (.stop rfl) (.go rfl (.go rfl (.stop rfl)))).mono ?_
  rintro e w3 ⟨A3, c3, g3, rfl, hR3, hg3, hV3, hF3⟩
  have k3 := hF3.chg k2 hr1 hm1 k2.size
  have hz3 := hF3.size
  have hgl3 := hR3.lt (by simp)
  clear hV2 hF3 k2
  go_wp2_with fail
  refine (receive_at (b := 2) (s := 3) (id := 10) (x1 := 2) (x2 := 2) (H2 := aw3) (o2 := []) hV3 (by omega) (by unfold seqP; omega) (by omega) rfl rfl (.stop rfl) (.stop rfl)).mono ?_
  rintro e w4 ⟨A4, c4, g4, rfl, hR4, hg4, hV4, hF4⟩
  have k4 := hF4.chg k3 hr1 hm1 k3.size
  have hz4 := hF4.size
  have HR3a := Lib.hid (hF4.rd hR3 (by omega) (by omega) (by omega))
  clear hV3 hF4 k3 hR3 hR4
  go_wp2_with fail
  refine (receive_at (b := 3) (s := 4) (id := 11) (x1 := 3) (x2 := 5) (H2 := aw4) (o2 := [10, 11]) hV4 (by omega) (by unfold seqP; omega) (by omega) rfl rfl (.go rfl (.stop rfl)) (.go rfl (.go rfl (.stop rfl)))).mono ?_
  rintro e w5 ⟨A5, c5, g5, rfl, hR5, hg5, hV5, hF5⟩
  have k5 := hF5.chg k4 hr1 hm1 k4.size
  have hz5 := hF5.size
  have HR3b := Lib.hid (hF5.rd HR3a.out (by omega) (by omega) (by omega))
  have HR5 := Lib.hid hR5
  have HK5 := Lib.hid k5
  clear hV4 hF5 k4 hR5 HR3a hV5 k5
  go_wp2_with fail
  have kl5 : Chg [] w5 (w5.alloc (.cells #[.int .i64 7, .int .i64 8] 3)) := (Chg.refl [] w5).alloc _
  refine (equal_q (L := [7, 8]) (M := [7, 8]) rfl rfl (HR3b.out.chg kl5 (by simp)) (rd_litr (by simp))).mono ?_
  rintro e w6 ⟨rfl, hc6⟩
  rw [decide_eq_true rfl]
  have HK6 := Lib.hid ((HK5.out.trans kl5 (by simp)).trans hc6 (by simp))
  have HR6 := Lib.hid ((HR5.out.chg kl5 (by simp)).chg hc6 (by simp))
  clear kl5 hc6
  go_wp2_with fail
  have kl6 : Chg [] w6 (w6.alloc (.cells #[.int .i64 10, .int .i64 11] 3)) := (Chg.refl [] w6).alloc _
  refine (equal_q (L := [10, 11]) (M := [10, 11]) rfl rfl (HR6.out.chg kl6 (by simp)) (rd_litr (by simp))).mono ?_
  rintro e w7 ⟨rfl, hc7⟩
  rw [decide_eq_true rfl]
  have HK7 := Lib.hid ((HK6.out.trans kl6 (by simp)).trans hc7 (by simp))
  clear kl6 hc7
  go_wp2_with fail
  go_ret
  exact ⟨rfl, HK7.out⟩

end Go.Proofs.Ytgkdlplocahnnaa
