/- slices.IndexFunc of packets at Expire's closure. -/
import Derived.Test.YtdlehpohpdepkaaQuF
namespace Go.Proofs.Ytdlehpohpdepkaa
open Go.RowKit
set_option linter.unusedVariables false
set_option linter.unusedSimpArgs false

def pkAt (ps : List Pk) (k : Nat) : Pk := ps.getD k ⟨0, 0, 0, 0, 0⟩

theorem flat_at : ∀ (ps : List Pk) (k : Nat), k < ps.length → ∀ r, r < 5 → (ps.flatMap pkC)[k * 5 + r]? = (pkC (pkAt ps k))[r]?
  | [], k, hk, _, _ => by simp at hk
  | p :: l, 0, hk, r, hr => by
    rw [List.flatMap_cons, Nat.zero_mul, Nat.zero_add, List.getElem?_append_left (by simp [pkC]; omega)]
    rfl
  | p :: l, k + 1, hk, r, hr => by
    rw [List.flatMap_cons, List.getElem?_append_right (by simp [pkC]; omega)]
    have := flat_at l k (by simpa using hk) r hr
    rw [show (k + 1) * 5 + r - (pkC p).length = k * 5 + r from by simp [pkC]; omega, this]
    rfl

/-- The packets ps lie in the block g, from its start. -/
def PB (w : World) (g : Nat) (ps : List Pk) : Prop := ∃ cur, Blk w g 24 cur ∧ ∀ k, k < ps.length → ∀ r, r < 5 → cur[k * 5 + r]? = (pkC (pkAt ps k))[r]?

theorem PB.chg {w w' : World} {S : List Nat} {g : Nat} {ps : List Pk} (h : PB w g ps) (hc : Chg S w w') (hg : g ∉ S) : PB w' g ps := by
  obtain ⟨cur, h1, h2⟩ := h
  exact ⟨cur, h1.chg hc hg, h2⟩
theorem PB.at_ {w : World} {g : Nat} {ps : List Pk} (h : PB w g ps) {k : Nat} (hk : k < ps.length) :
    w.cell? ⟨g, k * 5, none⟩ = some (.int .i64 (pkAt ps k).i) ∧ w.cell? ⟨g, k * 5 + 1, none⟩ = some (.int .i64 (pkAt ps k).f) ∧ w.cell? ⟨g, k * 5 + 2, none⟩ = some (.int .i64 (pkAt ps k).l) ∧ w.cell? ⟨g, k * 5 + 3, none⟩ = some (.int .i64 (pkAt ps k).a) ∧ w.cell? ⟨g, k * 5 + 4, none⟩ = some (.int .i64 (pkAt ps k).d) := by
  obtain ⟨cur, h1, h2⟩ := h
  have := fun r hr => (h1.cell (k * 5 + r)).trans (h2 k hk r hr)
  exact ⟨this 0 (by omega), this 1 (by omega), this 2 (by omega), this 3 (by omega), this 4 (by omega)⟩

theorem cell_chg {w w' : World} {b : Nat} {v : Value} (h : w.cell? ⟨b, 0, none⟩ = some v) (hc : Chg [] w w') : w'.cell? ⟨b, 0, none⟩ = some v := by
  rw [← h]
  exact hc.cell (block_lt_of_cell h) (by simp)

set_option maxHeartbeats 2000000 in
theorem idxf_c {w : World} {g b n c : Nat} {s : Int} {ps : List Pk} (hn : ps.length = n) (hn6 : n ≤ 64) (hp : PB w g ps) (hs : w.cell? ⟨b, 0, none⟩ = some (.int .i64 s)) :
    Calls Try.prog 40 #[.slice (some ⟨g, 0, none⟩) n c, .func (.func 32) #[] #[.pointer (some ⟨b, 0, none⟩)]] w fun e w' =>
      Chg [] w w' ∧ ∃ k : Nat, (∀ j, j < k → lateB (pkAt ps j).d s = false) ∧ ((k = n ∧ e = .returned (.int .i64 (-1))) ∨ (k < n ∧ lateB (pkAt ps k).d s = true ∧ e = .returned (.int .i64 k))) := by
  have HN := Lib.hid hn
  clear hn
  go_enter Try.func40, Try.ntmps40
  go_wp2
  go_loopw [8] (fun i wr => ∃ k : Nat, k ≤ n ∧ i = .int .i64 k ∧ Chg [] w wr ∧ ∀ j, j < k → lateB (pkAt ps j).d s = false) (fun i _ => n - (intOf i).toNat)
  case atStart => exact ⟨0, Nat.zero_le _, rfl, Chg.refl _ _, fun j hj => absurd hj (by omega)⟩
  case round =>
    obtain ⟨k, hk, rfl, hc, hP⟩ := hrel
    have HP := Lib.hid hP
    clear hP
    by_cases hlt : k < n
    · have hp' := hp.chg hc (by simp)
      obtain ⟨c0, c1, c2, c3, c4⟩ := hp'.at_ (k := k) (by have := HN.out; omega)
      have hs' := cell_chg hs hc
      have HH := Lib.hid (fun W : World => expfn_c (pkAt ps k) b s W)
      have hx := HP
      generalize hq : pkAt ps k = p at c0 c1 c2 c3 c4 HH
      have HQ := Lib.hid hq
      clear hq hx
      have hI : (k : Int) < (n : Int) := by omega
      have hJ : (0 : Int) ≤ (k : Int) := by omega
      go_wp2_with fail
      refine (HH.out _ (by first | exact hs' | simpa using hs')).mono ?_
      rintro e w2 ⟨rfl, hc2⟩
      have k2 := hc.trans hc2 (by simp)
      cases hb : lateB p.d s
      · go_wp2_with fail
        go_roundw
        case rel => exact ⟨k + 1, by omega, by go_num, k2, fun j hj => by
          by_cases h1 : j = k
          · subst h1; rw [HQ.out]; exact hb
          · exact HP.out j (by omega)⟩
        case measure => simp [intOf]; omega
      · go_wp2_with fail
        go_ret
        exact ⟨k2, k, HP.out, .inr ⟨hlt, by rw [HQ.out]; exact hb, rfl⟩⟩
    · go_wp2_with fail
      go_ret
      exact ⟨hc, k, HP.out, .inl ⟨by omega, rfl⟩⟩

end Go.Proofs.Ytdlehpohpdepkaa
