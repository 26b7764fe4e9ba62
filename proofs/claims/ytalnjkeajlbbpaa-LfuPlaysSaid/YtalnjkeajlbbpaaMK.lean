/- Texts merged by merge.py: HeapW1, HeapW2, HeapW3. -/
import Derived.Test.YtalnjkeajlbbpaaRows
import Derived.Test.YtalnjkeajlbbpaaMA
import Derived.Deep.QuietTactic
import Derived.BigQuiet
import Derived.StillTailTactics
import Derived.Deep.RegionWith
import Derived.Deep.LoopGhost
import Derived.Deep.RegionHeld3
import Derived.Deep.DeepCutAuto

/- Walks: heap.Less, item.ahead, Heap.put (keys: strings). -/
namespace Go.Proofs.Ytalnjkeajlbbpaa
open Go.RowKit

noncomputable def SK : KeyT Try.prog 9 ByteArray := strKey Try.underlying9

theorem row_cellsS {tI : TypeId} {w : World} {g : Nat} {cur : Array Value} {l : List (Itm ByteArray)} (hg : Blk w g cur tI) (ht : cur.toList.take (l.length * 4) = flatI SK l) {i : Nat} {x : Itm ByteArray} (hx : l[i]? = some x) :
    w.cell? ⟨g, i * 4, none⟩ = some (.string x.key) ∧ w.cell? ⟨g, i * 4 + 1, none⟩ = some (.int .i64 x.one) ∧ w.cell? ⟨g, i * 4 + 2, none⟩ = some (.int .i64 x.two) ∧ w.cell? ⟨g, i * 4 + 3, none⟩ = some (.int .i64 x.came) := row_cells hg ht hx

theorem less_calls (a1 a2 b1 b2 : Int) (w : World) :
    Calls Try.prog 13 #[.agg #[.int .i64 a1, .int .i64 a2], .agg #[.int .i64 b1, .int .i64 b2]] w fun e w' => e = .returned (.bool (ltR a1 a2 b1 b2)) ∧ Upd Non w w' := by
  have hfin : ∀ b : Bool, Hid (b = ltR a1 a2 b1 b2) → Hid (Ending.returned (.bool b) = .returned (.bool (ltR a1 a2 b1 b2))) := by intro b hb; rw [hb.out]; rfl
  have hA : a1 < b1 → Hid (true = ltR a1 a2 b1 b2) := by intro h; simp [Hid, ltR, h]
  have hB : b1 ≤ a1 → a1 = b1 → Hid (decide (a2 < b2) = ltR a1 a2 b1 b2) := by intro h h'; simp [Hid, ltR, h']
  have hC : b1 ≤ a1 → ¬ a1 = b1 → Hid (false = ltR a1 a2 b1 b2) := by intro h h'; simp [Hid, ltR, h', show ¬ a1 < b1 by omega]
  by_cases h1 : a1 < b1
  · have H := (hfin _ (hA h1))
    clear hfin hA hB hC
    go_enter Try.func13, Try.ntmps13
    go_wp2
    go_ret
    exact ⟨H.out, ((Upd.refl _ _).alloc _).alloc _⟩
  · by_cases h2 : a1 = b1
    · have H := (hfin _ (hB (by omega) h2))
      clear hfin hA hB hC
      subst h2
      go_enter Try.func13, Try.ntmps13
      go_wp2
      go_ret
      exact ⟨H.out, ((Upd.refl _ _).alloc _).alloc _⟩
    · have H := (hfin _ (hC (by omega) h2))
      clear hfin hA hB hC
      go_enter Try.func13, Try.ntmps13
      go_wp2
      go_ret
      exact ⟨H.out, ((Upd.refl _ _).alloc _).alloc _⟩

/-- .. the answer known ahead. -/
theorem less_is (b : Bool) (a1 a2 b1 b2 : Int) (w : World) (h : Hid (ltR a1 a2 b1 b2 = b)) :
    Calls Try.prog 13 #[.agg #[.int .i64 a1, .int .i64 a2], .agg #[.int .i64 b1, .int .i64 b2]] w fun e w' => e = .returned (.bool b) ∧ Upd Non w w' := by
  rw [← h.out]; exact less_calls a1 a2 b1 b2 w

theorem box_cells (w w1 : World) (hu : Upd Non w w1) (b : Nat) (vs : Array Value) (T : TypeId) (h : Blk w b vs T) (i : Nat) (v : Value) (hv : vs[i]? = some v) : w1.cell? ⟨b, i, none⟩ = some v := (h.upd hu id).cell i hv

theorem cells4 {w w1 : World} (hu : Upd Non w w1) {b : Nat} {v0 v1 v2 v3 : Value} {T : TypeId} (h : Blk w b #[v0, v1, v2, v3] T) :
    w1.cell? ⟨b, 0, none⟩ = some v0 ∧ w1.cell? ⟨b, 1, none⟩ = some v1 ∧ w1.cell? ⟨b, 2, none⟩ = some v2 ∧ w1.cell? ⟨b, 3, none⟩ = some v3 :=
  ⟨(h.upd hu id).cell 0 rfl, (h.upd hu id).cell 1 rfl, (h.upd hu id).cell 2 rfl, (h.upd hu id).cell 3 rfl⟩

theorem Blk.new' {w : World} (b : Nat) (vs : Array Value) (T : TypeId) (h : b = w.heap.size) : Blk (w.alloc (.cells vs T)) b vs T := h ▸ Blk.new w vs T

set_option maxHeartbeats 800000 in
theorem ahead_is (k k' : ByteArray) (a1 a2 a3 b1 b2 b3 : Int) (r : Bool) (w : World) (h : Hid ((ltR a1 a2 b1 b2 || ((decide (a1 = b1) && decide (a2 = b2)) && decide (a3 < b3))) = r)) :
    Calls Try.prog 55 #[.agg #[.string k, .int .i64 a1, .int .i64 a2, .int .i64 a3], .agg #[.string k', .int .i64 b1, .int .i64 b2, .int .i64 b3]] w fun e w' => e = .returned (.bool r) ∧ Upd Non w w' := by
  cases hL : ltR a1 a2 b1 b2 with
  | true =>
    rw [hL] at h
    have hL' := hid hL
    clear hL
    obtain rfl : true = r := h.out
    clear h
    go_enter Try.func55, Try.ntmps55
    go_wp2_with fail
    refine (less_is true _ _ _ _ _ hL').mono ?_
    rintro e w1 ⟨rfl, hU⟩
    go_wp2_with fail
    go_ret
    exact ⟨rfl, (((Upd.refl _ _).alloc _).alloc _).trans hU (fun _ h => h.elim)⟩
  | false =>
    rw [hL] at h
    have hL' := hid hL
    clear hL
    by_cases he : a1 = b1 ∧ a2 = b2
    · obtain ⟨rfl, rfl⟩ := he
      obtain rfl : decide (a3 < b3) = r := by have := h.out; simpa using this
      clear h
      go_enter Try.func55, Try.ntmps55
      go_wp2_with fail
      refine (less_is false _ _ _ _ _ hL').mono ?_
      rintro e w1 ⟨rfl, hU⟩
      obtain ⟨c0, c1, c2, c3⟩ := cells4 hU ((Blk.new w _ _).alloc _)
      obtain ⟨d0, d1, d2, d3⟩ := cells4 hU (Blk.new' (w.heap.size + 1) _ _ (by simp))
      have hU2 := (((Upd.refl Non w).alloc _).alloc _).trans hU (fun _ h => h.elim)
      clear hU
      go_wp2_with fail
      all_goals go_ret
      all_goals exact ⟨rfl, hU2⟩
    · obtain rfl : false = r := by
        have := h.out
        rw [← this]
        by_cases h1 : a1 = b1 <;> by_cases h2 : a2 = b2 <;> simp_all
      clear h
      have he' : (a1 == b1 && a2 == b2) = false := by
        by_cases h1 : a1 = b1 <;> by_cases h2 : a2 = b2 <;> simp_all
      go_enter Try.func55, Try.ntmps55
      go_wp2_with fail
      refine (less_is false _ _ _ _ _ hL').mono ?_
      rintro e w1 ⟨rfl, hU⟩
      obtain ⟨c0, c1, c2, c3⟩ := cells4 hU ((Blk.new w _ _).alloc _)
      obtain ⟨d0, d1, d2, d3⟩ := cells4 hU (Blk.new' (w.heap.size + 1) _ _ (by simp))
      have hU2 := (((Upd.refl Non w).alloc _).alloc _).trans hU (fun _ h => h.elim)
      clear hU
      go_wp2_with fail
      all_goals go_ret
      all_goals exact ⟨rfl, hU2⟩

end Go.Proofs.Ytalnjkeajlbbpaa

/- Walk: Heap.put (keys: strings). -/
namespace Go.Proofs.Ytalnjkeajlbbpaa
open Go.RowKit

theorem zero3 (w : World) : (zeroValue 3).run Try.prog w = .ok (.int .i64 0) w := by kernel_rfl

set_option maxHeartbeats 800000 in
theorem put_is {w : World} {bh bm g cap n i : Nat} {l : List (Itm ByteArray)} {f : ByteArray → Option Value} {came : Int} (x : Itm ByteArray)
    (h : HRaw SK 91 94 w bh bm (.slice (some ⟨g, 0, none⟩) l.length cap) l f n came) (hi : i < l.length) (hl : l.length ≤ 1000000) (hn : n ≤ 1000000) (hk : x.key.size ≤ maxLen) :
    Calls Try.prog 50 #[.pointer (some ⟨bh, 0, none⟩), .int .i64 i, .agg #[.string x.key, .int .i64 x.one, .int .i64 x.two, .int .i64 x.came]] w fun e w' => e = .returned (.tuple #[]) ∧
      HRaw SK 91 94 w' bh bm (.slice (some ⟨g, 0, none⟩) l.length cap) (l.set i x) (put f x.key (.int .i64 i)) (if (f x.key).isSome then n else n + 1) came ∧ Upd (fun k => k = g ∨ k = bm) w w' := by
  obtain ⟨g', cap', cur, hv, hg, hcl, hcm, hcs, hct⟩ := h.open (by intro e; subst e; simp at hi)
  obtain ⟨rfl, rfl⟩ : g = g' ∧ cap = cap' := by simpa using hv
  obtain ⟨y, hy⟩ : ∃ y, l[i]? = some y := ⟨l[i], by simp [hi]⟩
  obtain ⟨g0, g1, g2, g3⟩ := row_cellsS hg hct hy
  have f0 := hg.frozen (i * 4)
  have f1 := hg.frozen (i * 4 + 1)
  have f2 := hg.frozen (i * 4 + 2)
  have f3 := hg.frozen (i * 4 + 3)
  have hbh := h.st.lt
  have hbg := hg.lt
  have hbm := h.mp.lt
  have c0 : w.cell? ⟨bh, 0, none⟩ = some (.slice (some ⟨g, 0, none⟩) l.length cap) := h.st.cell 0 rfl
  have c1 : w.cell? ⟨bh, 1, none⟩ = some (.map (some bm)) := h.st.cell 1 rfl
  have hgh : g ≠ bh := fun e => h.hv.1 (by simp [Value.ownBlock, e])
  have hgm : g ≠ bm := fun e => h.hv.2 (by simp [Value.ownBlock, e])
  have HV := hid hv
  clear hv
  have HS := hid hcs
  clear hcs
  have HY := hid hy
  clear hy
  have HT := hid hct
  clear hct
  unfold maxLen at hcm
  go_enter Try.func50, Try.ntmps50
  go_wp2
  go_region
  generalize hW : World.drew _ = w1
  obtain ⟨hs, hu⟩ := h.set4 i x
  obtain ⟨H1, U1, B1⟩ : HRaw SK 91 94 w1 bh bm (.slice (some ⟨g, 0, none⟩) l.length cap) (l.set i x) f n came ∧ Upd (fun k => k = g ∨ k = bm) w w1 ∧ Blk w1 w.heap.size #[.string x.key, .int .i64 x.one, .int .i64 x.two, .int .i64 x.came] 94 := by
    rw [← hW]
    exact ⟨(hs.alloc _).drew, ((hu.mono (fun _ h => .inl (.inl h))).alloc _).drew, Blk.new' _ _ _ (by simp)⟩
  clear hW hs hu c0 c1 f0 f1 f2 f3 g0 g1 g2 g3
  have c1 : w1.cell? ⟨bh, 1, none⟩ = some (.map (some bm)) := H1.st.cell 1 rfl
  have b0 : w1.cell? ⟨w.heap.size, 0, none⟩ = some (.string x.key) := B1.cell 0 rfl
  obtain ⟨w2, hrun, hm2, ht2⟩ := (H1.mp.drew).store Try.underlying54 (by unfold maxLen; omega) (a := x.key) hk (.int .i64 i)
  change (Instr.mapUpdate 54 (.map (some bm)) (.string x.key) (.int .i64 i)).run Try.prog w1.drew = _ at hrun
  have HM := hid hm2
  clear hm2
  have HT2 := hid ht2
  clear ht2
  go_wp2
  go_region
  go_end0
  have U2 := turned_upd HT2.out
  have H2 := H1.drew
  exact ⟨rfl, ⟨H2.st.upd U2 h.hm, ownsRow_upd H2.row U2 (fun k hk e => hgm (by simp [Value.ownBlock] at hk; omega)), HM.out, h.hm, h.hv⟩, U1.drew.trans U2 (fun _ e => .inl (.inr e))⟩

end Go.Proofs.Ytalnjkeajlbbpaa

/- Walk: Heap.settle and its closure (keys: strings). -/
namespace Go.Proofs.Ytalnjkeajlbbpaa
open Go.RowKit

/-- The boxes of settle: of i, of x, of h. -/
structure Boxes (w : World) (bi bx bp bh : Nat) (i : Nat) (x : Itm ByteArray) : Prop where
  i : Blk w bi #[.int .i64 i] 3
  x : Blk w bx #[.string x.key, .int .i64 x.one, .int .i64 x.two, .int .i64 x.came] 94
  p : Blk w bp #[.pointer (some ⟨bh, 0, none⟩)] 27

set_option maxHeartbeats 800000 in
set_option maxRecDepth 100000 in
theorem up_is {w : World} {bi bx bp bh bm g cap n i : Nat} {l : List (Itm ByteArray)} {f : ByteArray → Option Value} {came : Int} {x y : Itm ByteArray}
    (h : HRaw SK 91 94 w bh bm (.slice (some ⟨g, 0, none⟩) l.length cap) l f n came) (hB : Boxes w bi bx bp bh i x) (hi : i < l.length) (hl : l.length ≤ 1000000) (h0 : 0 < i) (hy : l[(i - 1) / 2]? = some y) :
    Calls Try.prog 65 #[.pointer (some ⟨bi, 0, none⟩), .pointer (some ⟨bx, 0, none⟩), .pointer (some ⟨bp, 0, none⟩)] w fun e w' => e = .returned (.bool (ltI x y)) ∧ Upd Non w w' := by
  obtain ⟨g', cap', cur, hv, hg, hcl, hcm, hcs, hct⟩ := h.open (by intro e; subst e; simp at hi)
  obtain ⟨rfl, rfl⟩ : g = g' ∧ cap = cap' := by simpa using hv
  obtain ⟨g0, g1, g2, g3⟩ := row_cellsS hg hct hy
  have c0 : w.cell? ⟨bh, 0, none⟩ = some (.slice (some ⟨g, 0, none⟩) l.length cap) := h.st.cell 0 rfl
  have i0 : w.cell? ⟨bi, 0, none⟩ = some (.int .i64 i) := hB.i.cell 0 rfl
  have p0 : w.cell? ⟨bp, 0, none⟩ = some (.pointer (some ⟨bh, 0, none⟩)) := hB.p.cell 0 rfl
  have x0 : w.cell? ⟨bx, 0, none⟩ = some (.string x.key) := hB.x.cell 0 rfl
  have x1 : w.cell? ⟨bx, 1, none⟩ = some (.int .i64 x.one) := hB.x.cell 1 rfl
  have x2 : w.cell? ⟨bx, 2, none⟩ = some (.int .i64 x.two) := hB.x.cell 2 rfl
  have x3 : w.cell? ⟨bx, 3, none⟩ = some (.int .i64 x.came) := hB.x.cell 3 rfl
  clear hv hcs hct hy hcm
  obtain ⟨j, hj⟩ : ∃ j, (i - 1) / 2 = j := ⟨_, rfl⟩
  rw [hj] at g0 g1 g2 g3
  have hjl : j < l.length := by omega
  have hw1 : IntKind.i64.wrap ((i : Int) - 1) = (i : Int) - 1 := by rw [IntKind.wrap_i64]; omega
  have hw2 : IntKind.i64.wrap (((i : Int) - 1).tdiv 2) = (j : Int) := by rw [Int.tdiv_eq_ediv_of_nonneg (by omega), IntKind.wrap_i64]; omega
  clear hj
  go_enter Try.func65, Try.ntmps65
  go_wp2_with fail
  have hA := fun W => ahead_is x.key y.key x.one x.two x.came y.one y.two y.came (ltI x y) W (hid rfl)
  have hi0 : (0 : Int) < (i : Int) := by omega
  have hj0 : (0 : Int) ≤ (j : Int) := by omega
  have hj1 : (j : Int) < (l.length : Int) := by omega
  go_region_held3 (fun w' => w'.cell? ⟨bi, 0, none⟩ = some (.int .i64 i) ∧ w'.cell? ⟨bp, 0, none⟩ = some (.pointer (some ⟨bh, 0, none⟩)) ∧ w'.cell? ⟨bh, 0, none⟩ = some (.slice (some ⟨g, 0, none⟩) l.length cap) ∧ w'.cell? ⟨bx, 0, none⟩ = some (.string x.key) ∧ w'.cell? ⟨bx, 1, none⟩ = some (.int .i64 x.one) ∧ w'.cell? ⟨bx, 2, none⟩ = some (.int .i64 x.two) ∧ w'.cell? ⟨bx, 3, none⟩ = some (.int .i64 x.came) ∧ w'.cell? ⟨g, j * 4, none⟩ = some (.string y.key) ∧ w'.cell? ⟨g, j * 4 + 1, none⟩ = some (.int .i64 y.one) ∧ w'.cell? ⟨g, j * 4 + 2, none⟩ = some (.int .i64 y.two) ∧ w'.cell? ⟨g, j * 4 + 3, none⟩ = some (.int .i64 y.came))
    (first | go_keep | (go_split_ands; refine ⟨hU.keep ?_, hU.keep ?_, hU.keep ?_, hU.keep ?_, hU.keep ?_, hU.keep ?_, hU.keep ?_, hU.keep ?_, hU.keep ?_, hU.keep ?_, hU.keep ?_⟩ <;> assumption))
    (first | (go_at_call 55; refine (hA _).mono ?_; rintro e w1 ⟨rfl, hU⟩))
  go_wp2
  go_ret
  exact ⟨rfl, (Upd.refl Non w).drew.trans hU (fun _ h => h.elim)⟩

set_option maxHeartbeats 800000 in
theorem up_zero {w : World} {bi bx bp : Nat} (hB : Blk w bi #[.int .i64 0] 3) :
    Calls Try.prog 65 #[.pointer (some ⟨bi, 0, none⟩), .pointer (some ⟨bx, 0, none⟩), .pointer (some ⟨bp, 0, none⟩)] w fun e w' => e = .returned (.bool false) ∧ Upd Non w w' := by
  have i0 : w.cell? ⟨bi, 0, none⟩ = some (.int .i64 0) := hB.cell 0 rfl
  go_enter Try.func65, Try.ntmps65
  go_wp2_with fail
  go_quiet (fail)
  go_wp2
  go_ret
  exact ⟨rfl, (Upd.refl Non w).drewN nq⟩

end Go.Proofs.Ytalnjkeajlbbpaa
