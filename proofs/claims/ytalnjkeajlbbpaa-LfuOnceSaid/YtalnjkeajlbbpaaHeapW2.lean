/- Walk: Heap.put (keys: strings). -/
import Derived.Test.YtalnjkeajlbbpaaHeapW1
namespace Go.Proofs.Ytalnjkeajlbbpaa
open Go.RowKit

theorem zero3 (w : World) : (zeroValue 3).run Try.prog w = .ok (.int .i64 0) w := by kernel_rfl

set_option maxHeartbeats 800000 in
theorem put_is {w : World} {bh bm g cap n i : Nat} {l : List (Itm ByteArray)} {f : ByteArray → Option Value} {came : Int} (x : Itm ByteArray)
    (h : HRaw SK 91 94 w bh bm (.slice (some ⟨g, 0, none⟩) l.length cap) l f n came) (hi : i < l.length) (hl : l.length ≤ 1000000) (hn : n ≤ 1000000) (hk : x.key.size ≤ maxLen) :
    Calls Try.prog 50 #[.pointer (some ⟨bh, 0, none⟩), .int .i64 i, .agg #[.string x.key, .int .i64 x.one, .int .i64 x.two, .int .i64 x.came]] w fun e w' => e = .returned (.tuple #[]) ∧
      HRaw SK 91 94 w' bh bm (.slice (some ⟨g, 0, none⟩) l.length cap) (l.set i x) (put f x.key (.int .i64 i)) (if (f x.key).isSome then n else n + 1) came ∧ Upd (fun k => k = g ∨ k = bm) w w' := by
  obtain ⟨g', cap', cur, hv, hg, hcl, hcm, hcs, hct⟩ := h.open (by intro e; subst e; simp at hi)
  obtain ⟨rfl, rfl⟩ : g = g' ∧ cap = cap' := by simpa using hv
  obtain ⟨y, hy⟩ : ∃ y, l[i]? = some y := ⟨l[i], by simp [hi]⟩
  obtain ⟨g0, g1, g2, g3⟩ := row_cellsS hg hct hy
  have f0 := hg.frozen (i * 4)
  have f1 := hg.frozen (i * 4 + 1)
  have f2 := hg.frozen (i * 4 + 2)
  have f3 := hg.frozen (i * 4 + 3)
  have hbh := h.st.lt
  have hbg := hg.lt
  have hbm := h.mp.lt
  have c0 : w.cell? ⟨bh, 0, none⟩ = some (.slice (some ⟨g, 0, none⟩) l.length cap) := h.st.cell 0 rfl
  have c1 : w.cell? ⟨bh, 1, none⟩ = some (.map (some bm)) := h.st.cell 1 rfl
  have hgh : g ≠ bh := fun e => h.hv.1 (by simp [Value.ownBlock, e])
  have hgm : g ≠ bm := fun e => h.hv.2 (by simp [Value.ownBlock, e])
  have HV := hid hv
  clear hv
  have HS := hid hcs
  clear hcs
  have HY := hid hy
  clear hy
  have HT := hid hct
  clear hct
  unfold maxLen at hcm
  go_enter Try.func50, Try.ntmps50
  go_wp2
  go_region
  generalize hW : World.drew _ = w1
  obtain ⟨hs, hu⟩ := h.set4 i x
  obtain ⟨H1, U1, B1⟩ : HRaw SK 91 94 w1 bh bm (.slice (some ⟨g, 0, none⟩) l.length cap) (l.set i x) f n came ∧ Upd (fun k => k = g ∨ k = bm) w w1 ∧ Blk w1 w.heap.size #[.string x.key, .int .i64 x.one, .int .i64 x.two, .int .i64 x.came] 94 := by
    rw [← hW]
    exact ⟨(hs.alloc _).drew, ((hu.mono (fun _ h => .inl (.inl h))).alloc _).drew, Blk.new' _ _ _ (by simp)⟩
  clear hW hs hu c0 c1 f0 f1 f2 f3 g0 g1 g2 g3
  have c1 : w1.cell? ⟨bh, 1, none⟩ = some (.map (some bm)) := H1.st.cell 1 rfl
  have b0 : w1.cell? ⟨w.heap.size, 0, none⟩ = some (.string x.key) := B1.cell 0 rfl
  obtain ⟨w2, hrun, hm2, ht2⟩ := (H1.mp.drew).store Try.underlying54 (by unfold maxLen; omega) (a := x.key) hk (.int .i64 i)
  change (Instr.mapUpdate 54 (.map (some bm)) (.string x.key) (.int .i64 i)).run Try.prog w1.drew = _ at hrun
  have HM := hid hm2
  clear hm2
  have HT2 := hid ht2
  clear ht2
  go_wp2
  go_region
  go_end0
  have U2 := turned_upd HT2.out
  have H2 := H1.drew
  exact ⟨rfl, ⟨H2.st.upd U2 h.hm, ownsRow_upd H2.row U2 (fun k hk e => hgm (by simp [Value.ownBlock] at hk; omega)), HM.out, h.hm, h.hv⟩, U1.drew.trans U2 (fun _ e => .inl (.inr e))⟩

end Go.Proofs.Ytalnjkeajlbbpaa
