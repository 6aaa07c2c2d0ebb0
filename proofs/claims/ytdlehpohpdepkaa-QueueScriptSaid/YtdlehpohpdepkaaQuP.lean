/- Head and Pop. -/
import Derived.Test.YtdlehpohpdepkaaQuD
import Derived.Laws.ResultCell
namespace Go.Proofs.Ytdlehpohpdepkaa
open Go.RowKit
set_option linter.unusedVariables false
set_option linter.unusedSimpArgs false

theorem del_zero {w : World} {g k cap : Nat} {cur : Array Value} (hb : Blk w g 24 cur) (hcs : cur.size = cap * 5) (hn : k + 1 ≤ cap) (hn2 : k ≤ 1000) (hcap : cap ≤ 9223372036854775807) (hone : ∀ u ∈ cur.toList.take ((k + 1) * 5), u.oneCell' = true) :
    Calls Try.prog 29 #[.slice (some ⟨g, 0, none⟩) (k + 1) cap, .int .i64 0, .int .i64 1] w fun e w' => e = .returned (.slice (some ⟨g, 0, none⟩) k cap) ∧
      ∃ cs', Blk w' g 24 cs' ∧ cs'.size = cap * 5 ∧ (∀ j, j < k * 5 → cs'[j]? = cur[j + 5]?) ∧ Chg [g] w w' := by
  have h := del_raw (i := 0) hb hcs hn (by omega) hn2 hcap hone
  simpa using h

theorem Blk.far5 {w : World} {b r : Nat} {t : TypeId} {cs : Array Value} (h : Blk w b t cs) (hn : b ≠ r) (v0 v1 v2 v3 v4 : Value) :
    Blk (((((w.setCell ⟨r, 0, none⟩ v0).setCell ⟨r, 1, none⟩ v1).setCell ⟨r, 2, none⟩ v2).setCell ⟨r, 3, none⟩ v3).setCell ⟨r, 4, none⟩ v4) b t cs :=
  ((((h.far (p := ⟨r, 0, none⟩) hn v0).far (p := ⟨r, 1, none⟩) hn v1).far (p := ⟨r, 2, none⟩) hn v2).far (p := ⟨r, 3, none⟩) hn v3).far (p := ⟨r, 4, none⟩) hn v4

def pz : Value := .agg #[.int .i64 0, .int .i64 0, .int .i64 0, .int .i64 0, .int .i64 0]

set_option maxHeartbeats 1000000 in
theorem head_none (q : Nat) (A : Option Addr) (c : Nat) (w : World) (h : w.cell? ⟨q, 2, none⟩ = some (.slice A 0 c)) :
    Calls Try.prog 28 #[.pointer (some ⟨q, 0, none⟩)] w fun e w' => e = .returned (.tuple #[.agg #[.int .i64 0, .int .i64 0, .int .i64 0, .int .i64 0, .int .i64 0], .bool false]) ∧ Chg [] w w' := by
  have hq := block_lt_of_cell h
  simp at hq
  go_enter Try.func28, Try.ntmps28
  go_wp2
  refine bodyPost_ret (v := .tuple #[.agg #[.int .i64 0, .int .i64 0, .int .i64 0, .int .i64 0, .int .i64 0], .bool false]) (by simp [results, Try.results28, go_sem]) rfl ⟨rfl, ?_⟩
  repeat (first | (with_reducible exact Chg.refl _ _) | (with_reducible refine Chg.alloc ?_ _) | (with_reducible refine Chg.drew ?_) | ((with_reducible refine Chg.setCell ?_ ?hp _); case hp => simp))

set_option maxHeartbeats 1000000 in
theorem head_some (q g : Nat) (n c : Nat) (i f l a d : Int) (w : World) (h : w.cell? ⟨q, 2, none⟩ = some (.slice (some ⟨g, 0, none⟩) (n + 1) c))
    (h0 : w.cell? ⟨g, 0, none⟩ = some (.int .i64 i)) (h1 : w.cell? ⟨g, 1, none⟩ = some (.int .i64 f)) (h2 : w.cell? ⟨g, 2, none⟩ = some (.int .i64 l)) (h3 : w.cell? ⟨g, 3, none⟩ = some (.int .i64 a)) (h4 : w.cell? ⟨g, 4, none⟩ = some (.int .i64 d)) :
    Calls Try.prog 28 #[.pointer (some ⟨q, 0, none⟩)] w fun e w' => e = .returned (.tuple #[.agg #[.int .i64 i, .int .i64 f, .int .i64 l, .int .i64 a, .int .i64 d], .bool true]) ∧ Chg [] w w' := by
  have hq := block_lt_of_cell h
  have hg := block_lt_of_cell h0
  simp at hq hg
  have hd : ((n : Int) + 1 == 0) = false := by rw [beq_eq_false_iff_ne]; omega
  have hb1 : (0 : Int) < (n : Int) + 1 := by omega
  go_enter Try.func28, Try.ntmps28
  go_wp2
  refine bodyPost_ret (v := .tuple #[.agg #[.int .i64 i, .int .i64 f, .int .i64 l, .int .i64 a, .int .i64 d], .bool true]) (by simp [results, Try.results28, go_sem]) rfl ⟨rfl, ?_⟩
  repeat (first | (with_reducible exact Chg.refl _ _) | (with_reducible refine Chg.alloc ?_ _) | (with_reducible refine Chg.drew ?_) | ((with_reducible refine Chg.setCell ?_ ?hp _); case hp => simp))

set_option maxHeartbeats 1000000 in
theorem qpop_none (q : Nat) (A : Option Addr) (c : Nat) (w : World) (h : w.cell? ⟨q, 2, none⟩ = some (.slice A 0 c)) :
    Calls Try.prog 15 #[.pointer (some ⟨q, 0, none⟩)] w fun e w' => e = .returned (.tuple #[.agg #[.int .i64 0, .int .i64 0, .int .i64 0, .int .i64 0, .int .i64 0], .int .i64 5]) ∧ Chg [] w w' := by
  have hq := block_lt_of_cell h
  simp at hq
  have hh := head_none q A c (w.alloc (.cells #[.int .i64 0, .int .i64 0, .int .i64 0, .int .i64 0, .int .i64 0] 24)) (by rw [World.cell?_alloc_past _ _ _ hq]; exact h)
  have HH := Lib.hid hh
  clear hh
  go_enter Try.func15, Try.ntmps15
  go_wp2_with fail
  refine HH.out.mono ?_
  rintro e w1 ⟨rfl, hc1⟩
  have hr1 := (Blk.new w 24 #[.int .i64 0, .int .i64 0, .int .i64 0, .int .i64 0, .int .i64 0]).chg hc1 (by simp)
  have k1 := ((Chg.refl [] w).alloc (.cells #[.int .i64 0, .int .i64 0, .int .i64 0, .int .i64 0, .int .i64 0] 24)).trans hc1 (by simp)
  obtain ⟨r0, r1, r2, r3, r4⟩ := pk5 hr1
  obtain ⟨f0, f1, f2, f3, f4⟩ : w1.frozen? ⟨w.heap.size, 0, none⟩ = false ∧ w1.frozen? ⟨w.heap.size, 1, none⟩ = false ∧ w1.frozen? ⟨w.heap.size, 2, none⟩ = false ∧ w1.frozen? ⟨w.heap.size, 3, none⟩ = false ∧ w1.frozen? ⟨w.heap.size, 4, none⟩ = false := ⟨hr1.frozen 0, hr1.frozen 1, hr1.frozen 2, hr1.frozen 3, hr1.frozen 4⟩
  have hl1 := hr1.lt
  clear HH hr1 hc1
  go_wp2_with fail
  refine bodyPost_ret (v := .tuple #[.agg #[.int .i64 0, .int .i64 0, .int .i64 0, .int .i64 0, .int .i64 0], .int .i64 5]) (by simp [results, Try.results15, go_sem, *]) rfl ⟨rfl, ?_⟩
  repeat (first | (with_reducible exact k1) | (with_reducible refine Chg.alloc ?_ _) | (with_reducible refine Chg.drew ?_) | ((with_reducible refine Chg.setCell ?_ ?hp _); case hp => (right; simp)))

set_option maxRecDepth 100000 in
set_option maxHeartbeats 2000000 in
theorem qpop_some (q g k cap : Nat) (i f l a d most mb bts : Int) (cur : Array Value) (w : World) (hq : Blk w q 57 #[.int .i64 most, .int .i64 mb, .slice (some ⟨g, 0, none⟩) (k + 1) cap, .int .i64 bts])
    (hb : Blk w g 24 cur) (hcs : cur.size = cap * 5) (hn : k + 1 ≤ cap) (hn2 : k ≤ 1000) (hcap : cap ≤ 9223372036854775807) (hone : ∀ u ∈ cur.toList.take ((k + 1) * 5), u.oneCell' = true)
    (h0 : cur[0]? = some (.int .i64 i)) (h1 : cur[1]? = some (.int .i64 f)) (h2 : cur[2]? = some (.int .i64 l)) (h3 : cur[3]? = some (.int .i64 a)) (h4 : cur[4]? = some (.int .i64 d))
    (hl1 : 0 ≤ l) (hl2 : l ≤ 4096) (hb1 : 0 ≤ bts) (hb2 : bts ≤ 1000000) :
    Calls Try.prog 15 #[.pointer (some ⟨q, 0, none⟩)] w fun e w' => e = .returned (.tuple #[.agg #[.int .i64 i, .int .i64 f, .int .i64 l, .int .i64 a, .int .i64 d], .int .i64 0]) ∧
      ∃ cs', Blk w' q 57 #[.int .i64 most, .int .i64 mb, .slice (some ⟨g, 0, none⟩) k cap, .int .i64 (bts - l)] ∧ Blk w' g 24 cs' ∧ cs'.size = cap * 5 ∧ (∀ j, j < k * 5 → cs'[j]? = cur[j + 5]?) ∧ Chg [q, g] w w' := by
  have hgq : q ≠ g := hq.ne_ hb (by decide)
  have hql := hq.lt
  have hgl := hb.lt
  have hh := head_some q g k cap i f l a d (w.alloc (.cells #[.int .i64 0, .int .i64 0, .int .i64 0, .int .i64 0, .int .i64 0] 24)) (by rw [World.cell?_alloc_past _ _ _ hql]; exact (hq.cell 2).trans rfl)
    (by rw [World.cell?_alloc_past _ _ _ hgl]; exact (hb.cell 0).trans h0) (by rw [World.cell?_alloc_past _ _ _ hgl]; exact (hb.cell 1).trans h1) (by rw [World.cell?_alloc_past _ _ _ hgl]; exact (hb.cell 2).trans h2) (by rw [World.cell?_alloc_past _ _ _ hgl]; exact (hb.cell 3).trans h3) (by rw [World.cell?_alloc_past _ _ _ hgl]; exact (hb.cell 4).trans h4)
  have HH := Lib.hid hh
  have HCS := Lib.hid hcs
  have HCUR := Lib.hid (And.intro h0 (And.intro h1 (And.intro h2 (And.intro h3 h4))))
  clear hh hcs h0 h1 h2 h3 h4
  go_enter Try.func15, Try.ntmps15
  go_wp2_with fail
  refine HH.out.mono ?_
  rintro e w1 ⟨rfl, hc1⟩
  have k1 := ((Chg.refl [] w).alloc (.cells #[.int .i64 0, .int .i64 0, .int .i64 0, .int .i64 0, .int .i64 0] 24)).trans hc1 (by simp)
  have hlr0 := ((Blk.new w 24 #[.int .i64 0, .int .i64 0, .int .i64 0, .int .i64 0, .int .i64 0]).chg hc1 (by simp)).lt
  have hr1 := ((Blk.new w 24 #[.int .i64 0, .int .i64 0, .int .i64 0, .int .i64 0, .int .i64 0]).chg hc1 (by simp)).alloc (.cells #[.int .i64 i, .int .i64 f, .int .i64 l, .int .i64 a, .int .i64 d] 24)
  have hx1 := Blk.new w1 24 #[.int .i64 i, .int .i64 f, .int .i64 l, .int .i64 a, .int .i64 d]
  have hq1 := (hq.chg k1 (by simp)).alloc (.cells #[.int .i64 i, .int .i64 f, .int .i64 l, .int .i64 a, .int .i64 d] 24)
  have hb1' := (hb.chg k1 (by simp)).alloc (.cells #[.int .i64 i, .int .i64 f, .int .i64 l, .int .i64 a, .int .i64 d] 24)
  have hz1 := k1.size
  have hlr := hr1.lt
  have e2 : w1.cell? ⟨q, 2, none⟩ = some (.slice (some ⟨g, 0, none⟩) (k + 1) cap) := ((hq.chg k1 (by simp)).cell 2).trans rfl
  have hq1l := (hq.chg k1 (by simp)).lt
  simp only [World.size_alloc] at hlr
  clear HH
  go_wp2_with fail
  refine (del_zero hb1' HCS.out hn hn2 hcap hone).mono ?_
  rintro e w2 ⟨rfl, cs', hb2, hs2, hc2, kd⟩
  have hq2 := hq1.chg kd (by simpa using hgq)
  have hr2 := hr1.chg kd (by simp; omega)
  have hx2 := hx1.chg kd (by simp; omega)
  have hz2 := kd.size
  simp only [World.size_alloc] at hz2
  have HC2 := Lib.hid hc2
  have HS2 := Lib.hid hs2
  have k2 : Chg [q, g] w w2 := ((k1.mono (S' := [q, g]) (by simp)).alloc (.cells #[.int .i64 i, .int .i64 f, .int .i64 l, .int .i64 a, .int .i64 d] 24)).trans kd (by simp)
  clear hc2 hs2 hq1 hr1 hx1 hb1' hb hq k1 hc1 e2
  obtain ⟨e2, e3, x2, f2, f3⟩ := push_facts hq2 hx2
  obtain ⟨x0, x1, _, x3, x4⟩ := pk5 hx2
  obtain ⟨r0, r1, r2, r3, r4⟩ := pk5 hr2
  obtain ⟨g0, g1, g2, g3, g4⟩ : w2.frozen? ⟨w.heap.size, 0, none⟩ = false ∧ w2.frozen? ⟨w.heap.size, 1, none⟩ = false ∧ w2.frozen? ⟨w.heap.size, 2, none⟩ = false ∧ w2.frozen? ⟨w.heap.size, 3, none⟩ = false ∧ w2.frozen? ⟨w.heap.size, 4, none⟩ = false := ⟨hr2.frozen 0, hr2.frozen 1, hr2.frozen 2, hr2.frozen 3, hr2.frozen 4⟩
  have n1 : q ≠ w.heap.size := by omega
  have n2 : q ≠ w1.heap.size := by omega
  have n3 : w.heap.size ≠ w1.heap.size := by omega
  go_wp2_with fail
  try go_region
  go_wp2_with fail
  all_goals
    refine bodyPost_ret (v := .tuple #[.agg #[.int .i64 i, .int .i64 f, .int .i64 l, .int .i64 a, .int .i64 d], .int .i64 0]) (by simp [results, Try.results15, go_sem, *]) rfl ⟨rfl, cs', ?_, ?_, HS2.out, HC2.out, ?_⟩
    · have := (((hq2.set_ 2 (.slice (some ⟨g, 0, none⟩) k cap)).set_ 3 (.int .i64 (bts - l))).far5 n1 (.int .i64 i) (.int .i64 f) (.int .i64 l) (.int .i64 a) (.int .i64 d)).drew
      simp only [List.setIfInBounds_toArray, List.set_cons_succ, List.set_cons_zero] at this
      exact this
    · exact (((hb2.far (p := ⟨q, 2, none⟩) (Ne.symm hgq) _).far (p := ⟨q, 3, none⟩) (Ne.symm hgq) _).far5 (by omega) (.int .i64 i) (.int .i64 f) (.int .i64 l) (.int .i64 a) (.int .i64 d)).drew
    · repeat (first | (with_reducible exact k2) | (with_reducible refine Chg.drew ?_) | ((with_reducible refine Chg.setCell ?_ ?hp _); case hp => simp))

end Go.Proofs.Ytdlehpohpdepkaa
