/- SenderScript: Ack of both; act. -/
import Derived.Test.YtgkhendbpehagaaSv
namespace Go.Proofs.Ytgkhendbpehagaa
open Go.RowKit
set_option linter.unusedVariables false
set_option linter.unusedSimpArgs false

theorem own_rdq {w : World} {base n c : Nat} {e : TypeId} {A : Option Addr} {L : List Int} (h : w.ownsRow base e 1 (.slice A n c) n (L.map (Value.int .i64))) (hl : L.length ≤ 9223372036854775807) : L.length = n ∧ ∃ g, base ≤ g ∧ Rd w g A L := by
  have hln : L.length = n := by have := h.1; simp at this; omega
  refine ⟨hln, ?_⟩
  rcases h.2 with ⟨hv, h0⟩ | ⟨g, cap, cur, hv, hg, hh, h1, h2, h3, h4⟩
  · subst h0
    have : L = [] := List.eq_nil_of_length_eq_zero hln
    subst this
    exact ⟨base, Nat.le_refl _, Rd.nil _ _ _⟩
  · injection hv with hv
    subst hv
    refine ⟨g, hg, ⟨hl, fun i hi => ⟨0, rfl, ?_⟩⟩⟩
    have hb : Blk w g e cur := hh
    rw [hb.cell]
    have h5 : (L.map (Value.int .i64))[i]? = some (.int .i64 (L.getD i 0)) := by simp [hi]
    rw [← h4, List.getElem?_take] at h5
    split at h5
    · rw [Nat.zero_add, ← Array.getElem?_toList]; exact h5
    · cases h5

open Classical in
/-- What an acknowledgement returns. -/
noncomputable def ackO (nx base bits : Int) (ps : List Sn) : List Int := if ackOk nx base ps then (acked base bits ps).map fun p => p.i else []
open Classical in
noncomputable def ackL (nx base bits : Int) (ps : List Sn) : List Sn := if ackOk nx base ps then kept base bits ps else ps

section
variable {w0 w : World} {B0 s r c : Nat} {zs : List Int} {k : Nat} {wd tr nx nx' : Int} {ps ps' : List Sn}
/-- The rows lie in blocks of their own type alone. -/
theorem Pq.tight (h : Pq w0 w B0 s r c zs k wd tr nx ps nx' ps') : ∃ O O', SA w w0.heap.size s O wd tr nx ps ∧ RA w w0.heap.size r O' wd tr nx' ps' ∧ (∀ j ∈ O, B0 ≤ j ∧ j ∉ O') ∧ (∀ j ∈ O', B0 ≤ j) ∧ (∀ g cs, Blk w g 37 cs → g ∉ O ∧ g ∉ O' ∧ g ≠ s ∧ g ≠ r) := by
  obtain ⟨O, O', h1, h2, h3, h4⟩ := h.SR
  obtain ⟨a1, a2, a3, a4, a5, a6, a7, a8, a9, A, cc, a10, a11, a12⟩ := h1
  obtain ⟨b1, b2, b3, b4, b5, b6, b7, b8, b9, A', cc', b10, b11, b12⟩ := h2
  refine ⟨ownL (.slice A ps.length cc), ownL (.slice A' ps'.length cc'), ⟨a1, fun hm => a2 (a12 _ hm), fun j hj => a3 j (a12 j hj), fun j hj => a4 j (a12 j hj), a5, a6, a7, a8, a9, A, cc, a10, a11, fun j hj => hj⟩,
    ⟨b1, fun hm => b2 (b12 _ hm), fun j hj => b3 j (b12 j hj), fun j hj => b4 j (b12 j hj), b5, b6, b7, b8, b9, A', cc', b10, b11, fun j hj => hj⟩, fun j hj => ⟨(h3 j (a12 j hj)).1, fun hm => (h3 j (a12 j hj)).2 (b12 j hm)⟩, fun j hj => h4 j (b12 j hj), fun g cs hb => ⟨ownL_blk a11 hb (by decide), ownL_blk b11 hb (by decide), hb.ne_ a10 (by decide), hb.ne_ b10 (by decide)⟩⟩
/-- A store into a bitmap's block. -/
theorem Pq.far {w' : World} {g : Nat} {cs : Array Value} (h : Pq w0 w B0 s r c zs k wd tr nx ps nx' ps') (hb : Blk w g 37 cs) (hg : B0 ≤ g) (hc : Chg [g] w w') : Pq w0 w' B0 s r c zs k wd tr nx ps nx' ps' := by
  obtain ⟨O, O', h1, h2, h3, h4, h5⟩ := h.tight
  obtain ⟨g1, g2, g3, g4⟩ := h5 g cs hb
  have a := h.cB
  have b := h.z0
  exact ⟨⟨O, O', h1.chg hc (by simp; exact fun e => g3 e.symm) (fun j hj => by simp; rintro rfl; exact g1 hj), h2.chg hc (by simp; exact fun e => g4 e.symm) (fun j hj => by simp; rintro rfl; exact g2 hj), h3, h4⟩, h.C.chg hc (by simp; omega) (by simp; omega), h.K.trans hc (by simp; omega), h.z0, Nat.le_trans h.z1 hc.size, h.sB, h.rB, h.cB, h.sr, h.cs, h.cr⟩

theorem pq_ack (h : Pq w0 w B0 s r c zs k wd tr nx ps nx' ps') (base bits : Int) (hb0 : 0 ≤ bits) (hb1 : bits < 18446744073709551616) :
    Calls Try.prog 12 #[.pointer (some ⟨s, 0, none⟩), .agg #[.int .i64 base, .int .u64 bits]] w fun e w' => ∃ A g c', e = .returned (.slice A (ackO nx base bits ps).length c') ∧ Rd w' g A (ackO nx base bits ps) ∧ w.heap.size ≤ g ∧ Pq w0 w' B0 s r c zs k wd tr nx (ackL nx base bits ps) nx' ps' ∧ (∀ g cs, Blk w g 37 cs → Blk w' g 37 cs) := by
  obtain ⟨O, O', h1, h2, h3, h4, h5⟩ := h.tight
  by_cases hk : ackOk nx base ps
  · refine (sack_c h1 base bits hk hb0 hb1).mono ?_
    rintro e w' ⟨A, c', O1, rfl, a1, a2, a3, a4, a5⟩
    have hl := h1.hl
    have hl2 := acked_le base bits ps
    have ho : ackO nx base bits ps = (acked base bits ps).map fun p => p.i := if_pos hk
    have hL : ackL nx base bits ps = kept base bits ps := if_pos hk
    have a1' : w'.ownsRow w.heap.size 3 1 (.slice A (acked base bits ps).length c') (acked base bits ps).length (((acked base bits ps).map fun p => p.i).map (Value.int .i64)) := by rw [List.map_map]; exact a1
    obtain ⟨_, g, hg, hR⟩ := own_rdq a1' (by simp; omega)
    rw [ho, hL]
    exact ⟨A, g, c', by simp, hR, hg, h.prog h2 h1 h3 h4 a2 (fun j hj => .inr (a3 j hj)) a5, fun g cs hb => hb.chg a5 (fun hm => by
      obtain ⟨g1, g2, g3, g4⟩ := h5 g cs hb
      rcases List.mem_cons.1 hm with e | hm
      · exact g3 e
      · exact g1 hm)⟩
  · refine (sack_bad h1 base bits hk).mono ?_
    rintro e w' ⟨rfl, hc⟩
    have ho : ackO nx base bits ps = [] := if_neg hk
    have hL : ackL nx base bits ps = ps := if_neg hk
    rw [ho, hL]
    exact ⟨none, w.heap.size, 0, rfl, Rd.nil _ _ _, Nat.le_refl _, h.quiet hc, fun g cs hb => hb.chg hc (by simp)⟩
theorem pq_rack (h : Pq w0 w B0 s r c zs k wd tr nx' ps' nx ps) (base bits : Int) (hb0 : 0 ≤ bits) (hb1 : bits < 18446744073709551616) :
    Calls Try.prog 36 #[.pointer (some ⟨r, 0, none⟩), .agg #[.int .i64 base, .int .u64 bits]] w fun e w' => ∃ A g c', e = .returned (.slice A (ackO nx base bits ps).length c') ∧ Rd w' g A (ackO nx base bits ps) ∧ Chg [r] w w' ∧ Pq w0 w' B0 s r c zs k wd tr nx' ps' nx (ackL nx base bits ps) := by
  obtain ⟨O, O', h1, h2, h3, h4⟩ := h.SR
  by_cases hk : ackOk nx base ps
  · refine (rack_c h2 h.K.size base bits hk hb0 hb1).mono ?_
    rintro e w' ⟨A, c', O1, rfl, a1, a2, a3, a5⟩
    have hl := h2.hl
    have hl2 := acked_le base bits ps
    have ho : ackO nx base bits ps = (acked base bits ps).map fun p => p.i := if_pos hk
    have hL : ackL nx base bits ps = kept base bits ps := if_pos hk
    have a1' : w'.ownsRow w.heap.size 3 1 (.slice A (acked base bits ps).length c') (acked base bits ps).length (((acked base bits ps).map fun p => p.i).map (Value.int .i64)) := by rw [List.map_map]; exact a1
    obtain ⟨_, g, hg, hR⟩ := own_rdq a1' (by simp; omega)
    rw [ho, hL]
    exact ⟨A, g, c', by simp, hR, a5, h.ref h1 h3 a2 a3 a5⟩
  · refine (rack_bad h2 base bits hk).mono ?_
    rintro e w' ⟨rfl, hc⟩
    have ho : ackO nx base bits ps = [] := if_neg hk
    have hL : ackL nx base bits ps = ps := if_neg hk
    rw [ho, hL]
    exact ⟨none, w.heap.size, 0, rfl, Rd.nil _ _ _, hc.mono (by simp), h.quiet hc⟩
end

def tOk (tr : Int) (ps : List Sn) : Prop := ∀ p ∈ ps, p.t ≤ tr
theorem asg_ok {wd tr nx : Int} {ps : List Sn} {id : Int} (h : tOk tr ps) (ht : 1 ≤ tr) : tOk tr (asgL wd nx ps id) ∧ (asgL wd nx ps id).length ≤ ps.length + 1 := by
  unfold asgL
  split
  · refine ⟨fun p hp => ?_, by simp⟩
    rcases List.mem_append.1 hp with hp | hp
    · exact h p hp
    · simp at hp; subst hp; show (0 : Int) ≤ tr; omega
  · exact ⟨h, by omega⟩
theorem snd_ok {tr x : Int} {ps : List Sn} (h : tOk tr ps) : tOk tr (sndL tr ps x) ∧ (sndL tr ps x).length ≤ ps.length + 1 := by
  unfold sndL
  cases hf : fnd x ps with
  | none => exact ⟨h, by simp⟩
  | some i =>
    obtain ⟨hi, _⟩ := fnd_spec hf
    simp only [List.getElem?_eq_getElem hi]
    split
    · rename_i hlt
      refine ⟨fun p hp => ?_, by simp [bump]⟩
      unfold bump at hp
      obtain ⟨j, hj, rfl⟩ := List.getElem_of_mem hp
      rw [List.getElem_modify]
      split
      · rename_i hij; subst hij; show ps[i].t + 1 ≤ tr; omega
      · exact h _ (by simp)
    · exact ⟨h, by omega⟩
theorem drp_ok {tr x : Int} {ps : List Sn} (h : tOk tr ps) : tOk tr (drpL ps x) ∧ (drpL ps x).length ≤ ps.length + 1 := by
  unfold drpL
  cases hf : fnd x ps with
  | none => exact ⟨h, by simp⟩
  | some i => exact ⟨fun p hp => h p (List.mem_of_mem_eraseIdx hp), by simp only; rw [List.length_eraseIdx]; split <;> omega⟩
theorem ack_ok {tr nx base bits : Int} {ps : List Sn} (h : tOk tr ps) : tOk tr (ackL nx base bits ps) ∧ (ackL nx base bits ps).length ≤ ps.length + 1 := by
  unfold ackL
  split
  · exact ⟨fun p hp => h p (List.mem_filter.1 hp).1, by have := kept_le base bits ps; omega⟩
  · exact ⟨h, by omega⟩

/-- What act leaves. -/
def ActPost (w0 : World) (B0 s r c : Nat) (zs : List Int) (k : Nat) (wd tr : Int) (n : Nat) (e : Ending) (w' : World) : Prop :=
  e = .returned (.bool true) ∧ ∃ k' nx2 ps2, Pq w0 w' B0 s r c zs k' wd tr nx2 ps2 nx2 ps2 ∧ k' ≤ k + 5 ∧ tOk tr ps2 ∧ ps2.length ≤ n + 1

theorem pick8 {v : Int} (h0 : 0 ≤ v) (h1 : v < 8) : (v = 0 ∨ v = 1 ∨ v = 2) ∨ (v = 3 ∨ v = 4) ∨ (v = 5 ∨ v = 6) ∨ v = 7 := by omega
theorem equal_qs {w : World} {g h c d : Nat} {a b : Option Addr} {L M : List Int} {n1 n2 : Nat} (e1 : L.length = n1) (e2 : M.length = n2) (hL : Rd w g a L) (hM : Rd w h b M) :
    Calls Try.prog 31 #[.slice a n1 c, .slice b n2 d] w fun e w' => e = .returned (.bool (decide (L = M))) ∧ Chg [] w w' :=
  (equal_c e1 e2 hL hM).mono (by rintro e w' ⟨rfl, m, rfl⟩; exact ⟨rfl, (Chg.refl [] _).drewN m⟩)

end Go.Proofs.Ytgkhendbpehagaa
