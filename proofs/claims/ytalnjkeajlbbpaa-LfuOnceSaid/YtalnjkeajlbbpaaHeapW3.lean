/- Walk: Heap.settle and its closure (keys: strings). -/
import Derived.Test.YtalnjkeajlbbpaaHeapW2
import Derived.StillTailTactics
import Derived.Deep.RegionWith
import Derived.Deep.LoopGhost
import Derived.Deep.RegionHeld3
import Derived.Deep.DeepCutAuto
namespace Go.Proofs.Ytalnjkeajlbbpaa
open Go.RowKit

/-- The boxes of settle: of i, of x, of h. -/
structure Boxes (w : World) (bi bx bp bh : Nat) (i : Nat) (x : Itm ByteArray) : Prop where
  i : Blk w bi #[.int .i64 i] 3
  x : Blk w bx #[.string x.key, .int .i64 x.one, .int .i64 x.two, .int .i64 x.came] 94
  p : Blk w bp #[.pointer (some ⟨bh, 0, none⟩)] 27

set_option maxHeartbeats 800000 in
set_option maxRecDepth 100000 in
theorem up_is {w : World} {bi bx bp bh bm g cap n i : Nat} {l : List (Itm ByteArray)} {f : ByteArray → Option Value} {came : Int} {x y : Itm ByteArray}
    (h : HRaw SK 91 94 w bh bm (.slice (some ⟨g, 0, none⟩) l.length cap) l f n came) (hB : Boxes w bi bx bp bh i x) (hi : i < l.length) (hl : l.length ≤ 1000000) (h0 : 0 < i) (hy : l[(i - 1) / 2]? = some y) :
    Calls Try.prog 65 #[.pointer (some ⟨bi, 0, none⟩), .pointer (some ⟨bx, 0, none⟩), .pointer (some ⟨bp, 0, none⟩)] w fun e w' => e = .returned (.bool (ltI x y)) ∧ Upd Non w w' := by
  obtain ⟨g', cap', cur, hv, hg, hcl, hcm, hcs, hct⟩ := h.open (by intro e; subst e; simp at hi)
  obtain ⟨rfl, rfl⟩ : g = g' ∧ cap = cap' := by simpa using hv
  obtain ⟨g0, g1, g2, g3⟩ := row_cellsS hg hct hy
  have c0 : w.cell? ⟨bh, 0, none⟩ = some (.slice (some ⟨g, 0, none⟩) l.length cap) := h.st.cell 0 rfl
  have i0 : w.cell? ⟨bi, 0, none⟩ = some (.int .i64 i) := hB.i.cell 0 rfl
  have p0 : w.cell? ⟨bp, 0, none⟩ = some (.pointer (some ⟨bh, 0, none⟩)) := hB.p.cell 0 rfl
  have x0 : w.cell? ⟨bx, 0, none⟩ = some (.string x.key) := hB.x.cell 0 rfl
  have x1 : w.cell? ⟨bx, 1, none⟩ = some (.int .i64 x.one) := hB.x.cell 1 rfl
  have x2 : w.cell? ⟨bx, 2, none⟩ = some (.int .i64 x.two) := hB.x.cell 2 rfl
  have x3 : w.cell? ⟨bx, 3, none⟩ = some (.int .i64 x.came) := hB.x.cell 3 rfl
  clear hv hcs hct hy hcm
  obtain ⟨j, hj⟩ : ∃ j, (i - 1) / 2 = j := ⟨_, rfl⟩
  rw [hj] at g0 g1 g2 g3
  have hjl : j < l.length := by omega
  have hw1 : IntKind.i64.wrap ((i : Int) - 1) = (i : Int) - 1 := by rw [IntKind.wrap_i64]; omega
  have hw2 : IntKind.i64.wrap (((i : Int) - 1).tdiv 2) = (j : Int) := by rw [Int.tdiv_eq_ediv_of_nonneg (by omega), IntKind.wrap_i64]; omega
  clear hj
  go_enter Try.func65, Try.ntmps65
  go_wp2_with fail
  have hA := fun W => ahead_is x.key y.key x.one x.two x.came y.one y.two y.came (ltI x y) W (hid rfl)
  have hi0 : (0 : Int) < (i : Int) := by omega
  have hj0 : (0 : Int) ≤ (j : Int) := by omega
  have hj1 : (j : Int) < (l.length : Int) := by omega
  go_region_held3 (fun w' => w'.cell? ⟨bi, 0, none⟩ = some (.int .i64 i) ∧ w'.cell? ⟨bp, 0, none⟩ = some (.pointer (some ⟨bh, 0, none⟩)) ∧ w'.cell? ⟨bh, 0, none⟩ = some (.slice (some ⟨g, 0, none⟩) l.length cap) ∧ w'.cell? ⟨bx, 0, none⟩ = some (.string x.key) ∧ w'.cell? ⟨bx, 1, none⟩ = some (.int .i64 x.one) ∧ w'.cell? ⟨bx, 2, none⟩ = some (.int .i64 x.two) ∧ w'.cell? ⟨bx, 3, none⟩ = some (.int .i64 x.came) ∧ w'.cell? ⟨g, j * 4, none⟩ = some (.string y.key) ∧ w'.cell? ⟨g, j * 4 + 1, none⟩ = some (.int .i64 y.one) ∧ w'.cell? ⟨g, j * 4 + 2, none⟩ = some (.int .i64 y.two) ∧ w'.cell? ⟨g, j * 4 + 3, none⟩ = some (.int .i64 y.came))
    (first | go_keep | (go_split_ands; refine ⟨hU.keep ?_, hU.keep ?_, hU.keep ?_, hU.keep ?_, hU.keep ?_, hU.keep ?_, hU.keep ?_, hU.keep ?_, hU.keep ?_, hU.keep ?_, hU.keep ?_⟩ <;> assumption))
    (first | (go_at_call 55; refine (hA _).mono ?_; rintro e w1 ⟨rfl, hU⟩))
  go_wp2
  go_ret
  exact ⟨rfl, (Upd.refl Non w).drew.trans hU (fun _ h => h.elim)⟩

set_option maxHeartbeats 800000 in
theorem up_zero {w : World} {bi bx bp : Nat} (hB : Blk w bi #[.int .i64 0] 3) :
    Calls Try.prog 65 #[.pointer (some ⟨bi, 0, none⟩), .pointer (some ⟨bx, 0, none⟩), .pointer (some ⟨bp, 0, none⟩)] w fun e w' => e = .returned (.bool false) ∧ Upd Non w w' := by
  have i0 : w.cell? ⟨bi, 0, none⟩ = some (.int .i64 0) := hB.cell 0 rfl
  go_enter Try.func65, Try.ntmps65
  go_wp2_with fail
  go_quiet (fail)
  go_wp2
  go_ret
  exact ⟨rfl, (Upd.refl Non w).drewN nq⟩

end Go.Proofs.Ytalnjkeajlbbpaa
