/- Walks: heap.Less, item.ahead, Heap.put (keys: whole numbers). -/
import Derived.Test.YtalnjkeajlbbpaaHeapS
import Derived.Deep.QuietTactic
import Derived.BigQuiet
namespace Go.Proofs.Ytalnjkeajlbbpaa.KI
open Go.RowKit

def okI (a : Int) : Prop := (Lit.int .i64 a).wf = true

noncomputable def IK : KeyT Try.prog 3 Int := intKey Try.underlying3

theorem row_cellsS {tI : TypeId} {w : World} {g : Nat} {cur : Array Value} {l : List (Itm Int)} (hg : Blk w g cur tI) (ht : cur.toList.take (l.length * 4) = flatI IK l) {i : Nat} {x : Itm Int} (hx : l[i]? = some x) :
    w.cell? ⟨g, i * 4, none⟩ = some (.int .i64 x.key) ∧ w.cell? ⟨g, i * 4 + 1, none⟩ = some (.int .i64 x.one) ∧ w.cell? ⟨g, i * 4 + 2, none⟩ = some (.int .i64 x.two) ∧ w.cell? ⟨g, i * 4 + 3, none⟩ = some (.int .i64 x.came) := row_cells hg ht hx

set_option maxHeartbeats 800000 in
theorem ahead_is (k k' : Int) (a1 a2 a3 b1 b2 b3 : Int) (r : Bool) (w : World) (h : Hid ((ltR a1 a2 b1 b2 || ((decide (a1 = b1) && decide (a2 = b2)) && decide (a3 < b3))) = r)) :
    Calls Try.prog 61 #[.agg #[.int .i64 k, .int .i64 a1, .int .i64 a2, .int .i64 a3], .agg #[.int .i64 k', .int .i64 b1, .int .i64 b2, .int .i64 b3]] w fun e w' => e = .returned (.bool r) ∧ Upd Non w w' := by
  cases hL : ltR a1 a2 b1 b2 with
  | true =>
    rw [hL] at h
    have hL' := hid hL
    clear hL
    obtain rfl : true = r := h.out
    clear h
    go_enter Try.func61, Try.ntmps61
    go_wp2_with fail
    refine (less_is true _ _ _ _ _ hL').mono ?_
    rintro e w1 ⟨rfl, hU⟩
    go_wp2_with fail
    go_ret
    exact ⟨rfl, (((Upd.refl _ _).alloc _).alloc _).trans hU (fun _ h => h.elim)⟩
  | false =>
    rw [hL] at h
    have hL' := hid hL
    clear hL
    by_cases he : a1 = b1 ∧ a2 = b2
    · obtain ⟨rfl, rfl⟩ := he
      obtain rfl : decide (a3 < b3) = r := by have := h.out; simpa using this
      clear h
      go_enter Try.func61, Try.ntmps61
      go_wp2_with fail
      refine (less_is false _ _ _ _ _ hL').mono ?_
      rintro e w1 ⟨rfl, hU⟩
      obtain ⟨c0, c1, c2, c3⟩ := cells4 hU ((Blk.new w _ _).alloc _)
      obtain ⟨d0, d1, d2, d3⟩ := cells4 hU (Blk.new' (w.heap.size + 1) _ _ (by simp))
      have hU2 := (((Upd.refl Non w).alloc _).alloc _).trans hU (fun _ h => h.elim)
      clear hU
      go_wp2_with fail
      all_goals go_ret
      all_goals exact ⟨rfl, hU2⟩
    · obtain rfl : false = r := by
        have := h.out
        rw [← this]
        by_cases h1 : a1 = b1 <;> by_cases h2 : a2 = b2 <;> simp_all
      clear h
      have he' : (a1 == b1 && a2 == b2) = false := by
        by_cases h1 : a1 = b1 <;> by_cases h2 : a2 = b2 <;> simp_all
      go_enter Try.func61, Try.ntmps61
      go_wp2_with fail
      refine (less_is false _ _ _ _ _ hL').mono ?_
      rintro e w1 ⟨rfl, hU⟩
      obtain ⟨c0, c1, c2, c3⟩ := cells4 hU ((Blk.new w _ _).alloc _)
      obtain ⟨d0, d1, d2, d3⟩ := cells4 hU (Blk.new' (w.heap.size + 1) _ _ (by simp))
      have hU2 := (((Upd.refl Non w).alloc _).alloc _).trans hU (fun _ h => h.elim)
      clear hU
      go_wp2_with fail
      all_goals go_ret
      all_goals exact ⟨rfl, hU2⟩

end Go.Proofs.Ytalnjkeajlbbpaa.KI
