/- Walks: heap.Less, item.ahead, Heap.put (keys: strings). -/
import Derived.Test.YtalnjkeajlbbpaaRows
import Derived.Test.YtalnjkeajlbbpaaHeapP
import Derived.Deep.QuietTactic
import Derived.BigQuiet
namespace Go.Proofs.Ytalnjkeajlbbpaa
open Go.RowKit

noncomputable def SK : KeyT Try.prog 9 ByteArray := strKey Try.underlying9

theorem row_cellsS {tI : TypeId} {w : World} {g : Nat} {cur : Array Value} {l : List (Itm ByteArray)} (hg : Blk w g cur tI) (ht : cur.toList.take (l.length * 4) = flatI SK l) {i : Nat} {x : Itm ByteArray} (hx : l[i]? = some x) :
    w.cell? ⟨g, i * 4, none⟩ = some (.string x.key) ∧ w.cell? ⟨g, i * 4 + 1, none⟩ = some (.int .i64 x.one) ∧ w.cell? ⟨g, i * 4 + 2, none⟩ = some (.int .i64 x.two) ∧ w.cell? ⟨g, i * 4 + 3, none⟩ = some (.int .i64 x.came) := row_cells hg ht hx

theorem less_calls (a1 a2 b1 b2 : Int) (w : World) :
    Calls Try.prog 13 #[.agg #[.int .i64 a1, .int .i64 a2], .agg #[.int .i64 b1, .int .i64 b2]] w fun e w' => e = .returned (.bool (ltR a1 a2 b1 b2)) ∧ Upd Non w w' := by
  have hfin : ∀ b : Bool, Hid (b = ltR a1 a2 b1 b2) → Hid (Ending.returned (.bool b) = .returned (.bool (ltR a1 a2 b1 b2))) := by intro b hb; rw [hb.out]; rfl
  have hA : a1 < b1 → Hid (true = ltR a1 a2 b1 b2) := by intro h; simp [Hid, ltR, h]
  have hB : b1 ≤ a1 → a1 = b1 → Hid (decide (a2 < b2) = ltR a1 a2 b1 b2) := by intro h h'; simp [Hid, ltR, h']
  have hC : b1 ≤ a1 → ¬ a1 = b1 → Hid (false = ltR a1 a2 b1 b2) := by intro h h'; simp [Hid, ltR, h', show ¬ a1 < b1 by omega]
  by_cases h1 : a1 < b1
  · have H := (hfin _ (hA h1))
    clear hfin hA hB hC
    go_enter Try.func13, Try.ntmps13
    go_wp2
    go_ret
    exact ⟨H.out, ((Upd.refl _ _).alloc _).alloc _⟩
  · by_cases h2 : a1 = b1
    · have H := (hfin _ (hB (by omega) h2))
      clear hfin hA hB hC
      subst h2
      go_enter Try.func13, Try.ntmps13
      go_wp2
      go_ret
      exact ⟨H.out, ((Upd.refl _ _).alloc _).alloc _⟩
    · have H := (hfin _ (hC (by omega) h2))
      clear hfin hA hB hC
      go_enter Try.func13, Try.ntmps13
      go_wp2
      go_ret
      exact ⟨H.out, ((Upd.refl _ _).alloc _).alloc _⟩

/-- .. the answer known ahead. -/
theorem less_is (b : Bool) (a1 a2 b1 b2 : Int) (w : World) (h : Hid (ltR a1 a2 b1 b2 = b)) :
    Calls Try.prog 13 #[.agg #[.int .i64 a1, .int .i64 a2], .agg #[.int .i64 b1, .int .i64 b2]] w fun e w' => e = .returned (.bool b) ∧ Upd Non w w' := by
  rw [← h.out]; exact less_calls a1 a2 b1 b2 w

theorem box_cells (w w1 : World) (hu : Upd Non w w1) (b : Nat) (vs : Array Value) (T : TypeId) (h : Blk w b vs T) (i : Nat) (v : Value) (hv : vs[i]? = some v) : w1.cell? ⟨b, i, none⟩ = some v := (h.upd hu id).cell i hv

theorem cells4 {w w1 : World} (hu : Upd Non w w1) {b : Nat} {v0 v1 v2 v3 : Value} {T : TypeId} (h : Blk w b #[v0, v1, v2, v3] T) :
    w1.cell? ⟨b, 0, none⟩ = some v0 ∧ w1.cell? ⟨b, 1, none⟩ = some v1 ∧ w1.cell? ⟨b, 2, none⟩ = some v2 ∧ w1.cell? ⟨b, 3, none⟩ = some v3 :=
  ⟨(h.upd hu id).cell 0 rfl, (h.upd hu id).cell 1 rfl, (h.upd hu id).cell 2 rfl, (h.upd hu id).cell 3 rfl⟩

theorem Blk.new' {w : World} (b : Nat) (vs : Array Value) (T : TypeId) (h : b = w.heap.size) : Blk (w.alloc (.cells vs T)) b vs T := h ▸ Blk.new w vs T

set_option maxHeartbeats 800000 in
theorem ahead_is (k k' : ByteArray) (a1 a2 a3 b1 b2 b3 : Int) (r : Bool) (w : World) (h : Hid ((ltR a1 a2 b1 b2 || ((decide (a1 = b1) && decide (a2 = b2)) && decide (a3 < b3))) = r)) :
    Calls Try.prog 55 #[.agg #[.string k, .int .i64 a1, .int .i64 a2, .int .i64 a3], .agg #[.string k', .int .i64 b1, .int .i64 b2, .int .i64 b3]] w fun e w' => e = .returned (.bool r) ∧ Upd Non w w' := by
  cases hL : ltR a1 a2 b1 b2 with
  | true =>
    rw [hL] at h
    have hL' := hid hL
    clear hL
    obtain rfl : true = r := h.out
    clear h
    go_enter Try.func55, Try.ntmps55
    go_wp2_with fail
    refine (less_is true _ _ _ _ _ hL').mono ?_
    rintro e w1 ⟨rfl, hU⟩
    go_wp2_with fail
    go_ret
    exact ⟨rfl, (((Upd.refl _ _).alloc _).alloc _).trans hU (fun _ h => h.elim)⟩
  | false =>
    rw [hL] at h
    have hL' := hid hL
    clear hL
    by_cases he : a1 = b1 ∧ a2 = b2
    · obtain ⟨rfl, rfl⟩ := he
      obtain rfl : decide (a3 < b3) = r := by have := h.out; simpa using this
      clear h
      go_enter Try.func55, Try.ntmps55
      go_wp2_with fail
      refine (less_is false _ _ _ _ _ hL').mono ?_
      rintro e w1 ⟨rfl, hU⟩
      obtain ⟨c0, c1, c2, c3⟩ := cells4 hU ((Blk.new w _ _).alloc _)
      obtain ⟨d0, d1, d2, d3⟩ := cells4 hU (Blk.new' (w.heap.size + 1) _ _ (by simp))
      have hU2 := (((Upd.refl Non w).alloc _).alloc _).trans hU (fun _ h => h.elim)
      clear hU
      go_wp2_with fail
      all_goals go_ret
      all_goals exact ⟨rfl, hU2⟩
    · obtain rfl : false = r := by
        have := h.out
        rw [← this]
        by_cases h1 : a1 = b1 <;> by_cases h2 : a2 = b2 <;> simp_all
      clear h
      have he' : (a1 == b1 && a2 == b2) = false := by
        by_cases h1 : a1 = b1 <;> by_cases h2 : a2 = b2 <;> simp_all
      go_enter Try.func55, Try.ntmps55
      go_wp2_with fail
      refine (less_is false _ _ _ _ _ hL').mono ?_
      rintro e w1 ⟨rfl, hU⟩
      obtain ⟨c0, c1, c2, c3⟩ := cells4 hU ((Blk.new w _ _).alloc _)
      obtain ⟨d0, d1, d2, d3⟩ := cells4 hU (Blk.new' (w.heap.size + 1) _ _ (by simp))
      have hU2 := (((Upd.refl Non w).alloc _).alloc _).trans hU (fun _ h => h.elim)
      clear hU
      go_wp2_with fail
      all_goals go_ret
      all_goals exact ⟨rfl, hU2⟩

end Go.Proofs.Ytalnjkeajlbbpaa
