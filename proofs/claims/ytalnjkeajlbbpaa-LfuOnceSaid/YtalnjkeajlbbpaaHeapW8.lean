/- Walks: ahead and Order's closure, as the sort wants them (keys: strings). -/
import Derived.Test.YtalnjkeajlbbpaaHeapW7
import Derived.Test.YtalnjkeajlbbpaaSort
namespace Go.Proofs.Ytalnjkeajlbbpaa
open Go.RowKit Go.Sort

theorem less_grow (b : Bool) (a1 a2 b1 b2 : Int) (w : World) (h : Hid (ltR a1 a2 b1 b2 = b)) :
    Calls Try.prog 13 #[.agg #[.int .i64 a1, .int .i64 a2], .agg #[.int .i64 b1, .int .i64 b2]] w fun e w' => e = .returned (.bool b) ∧ ∃ os, w' = grow w os := by
  have g2 : ∀ o o' : Obj, ∃ os, (w.alloc o).alloc o' = grow w os := fun o o' => ⟨_, by rw [alloc_eq_grow, alloc_eq_grow, grow_grow]⟩
  by_cases h1 : a1 < b1
  · obtain rfl : true = b := by rw [← h.out]; simp [ltR, h1]
    clear h
    go_enter Try.func13, Try.ntmps13
    go_wp2
    go_ret
    exact ⟨rfl, g2 _ _⟩
  · by_cases h2 : a1 = b1
    · obtain rfl : decide (a2 < b2) = b := by rw [← h.out]; simp [ltR, h2]
      clear h
      subst h2
      go_enter Try.func13, Try.ntmps13
      go_wp2
      go_ret
      exact ⟨rfl, g2 _ _⟩
    · obtain rfl : false = b := by rw [← h.out]; simp [ltR, h1, h2]
      clear h
      go_enter Try.func13, Try.ntmps13
      go_wp2
      go_ret
      exact ⟨rfl, g2 _ _⟩

theorem grow_of {w w' : World} {os : Array Obj} (h : w' = grow w os) : Upd Non w w' := by rw [h]; exact ⟨rfl, rfl, rfl, by simp, fun k hk _ => heap_grow_old w os hk⟩
theorem grow_non {w : World} {os : Array Obj} : Upd Non w (grow w os) := ⟨rfl, rfl, rfl, by simp, fun k hk _ => heap_grow_old w os hk⟩

set_option maxHeartbeats 800000 in
theorem ahead_grow (k k' : ByteArray) (a1 a2 a3 b1 b2 b3 : Int) (r : Bool) (w : World) (h : Hid ((ltR a1 a2 b1 b2 || ((decide (a1 = b1) && decide (a2 = b2)) && decide (a3 < b3))) = r)) :
    Calls Try.prog 55 #[.agg #[.string k, .int .i64 a1, .int .i64 a2, .int .i64 a3], .agg #[.string k', .int .i64 b1, .int .i64 b2, .int .i64 b3]] w fun e w' => e = .returned (.bool r) ∧ ∃ os, w' = grow w os := by
  have g3 : ∀ (o o' : Obj) (os : Array Obj), ∃ os', grow ((w.alloc o).alloc o') os = grow w os' := fun o o' os => ⟨_, by rw [alloc_eq_grow, alloc_eq_grow, grow_grow, grow_grow]⟩
  have G3 := hid g3
  clear g3
  cases hL : ltR a1 a2 b1 b2 with
  | true =>
    rw [hL] at h
    have hL' := hid hL
    clear hL
    obtain rfl : true = r := h.out
    clear h
    go_enter Try.func55, Try.ntmps55
    go_wp2_with fail
    refine (less_grow true _ _ _ _ _ hL').mono ?_
    rintro e w1 ⟨rfl, os, rfl⟩
    go_wp2_with fail
    go_ret
    exact ⟨rfl, G3.out _ _ _⟩
  | false =>
    rw [hL] at h
    have hL' := hid hL
    clear hL
    by_cases he : a1 = b1 ∧ a2 = b2
    · obtain ⟨rfl, rfl⟩ := he
      obtain rfl : decide (a3 < b3) = r := by have := h.out; simpa using this
      clear h
      go_enter Try.func55, Try.ntmps55
      go_wp2_with fail
      refine (less_grow false _ _ _ _ _ hL').mono ?_
      rintro e w1 ⟨rfl, os, hw1⟩
      have hU := grow_of hw1
      obtain ⟨c0, c1, c2, c3⟩ := cells4 hU ((Blk.new w _ _).alloc _)
      obtain ⟨d0, d1, d2, d3⟩ := cells4 hU (Blk.new' (w.heap.size + 1) _ _ (by simp))
      have HW := hid hw1
      clear hU hw1
      go_wp2_with fail
      all_goals go_ret
      all_goals exact ⟨rfl, by rw [HW.out]; exact G3.out _ _ _⟩
    · obtain rfl : false = r := by
        have := h.out
        rw [← this]
        by_cases h1 : a1 = b1 <;> by_cases h2 : a2 = b2 <;> simp_all
      clear h
      have he' : (a1 == b1 && a2 == b2) = false := by
        by_cases h1 : a1 = b1 <;> by_cases h2 : a2 = b2 <;> simp_all
      go_enter Try.func55, Try.ntmps55
      go_wp2_with fail
      refine (less_grow false _ _ _ _ _ hL').mono ?_
      rintro e w1 ⟨rfl, os, hw1⟩
      have hU := grow_of hw1
      obtain ⟨c0, c1, c2, c3⟩ := cells4 hU ((Blk.new w _ _).alloc _)
      obtain ⟨d0, d1, d2, d3⟩ := cells4 hU (Blk.new' (w.heap.size + 1) _ _ (by simp))
      have HW := hid hw1
      clear hU hw1
      go_wp2_with fail
      all_goals go_ret
      all_goals exact ⟨rfl, by rw [HW.out]; exact G3.out _ _ _⟩

/-- What Order's closure answers. -/
def cmpI (x y : Itm ByteArray) : Int := if ltI x y then -1 else if ltI y x then 1 else 0

set_option maxHeartbeats 1600000 in
theorem cmp_grow (x y : Itm ByteArray) (w : World) :
    Calls Try.prog 54 #[.agg #[.string x.key, .int .i64 x.one, .int .i64 x.two, .int .i64 x.came], .agg #[.string y.key, .int .i64 y.one, .int .i64 y.two, .int .i64 y.came]] w fun e w' => e = .returned (.int .i64 (cmpI x y)) ∧ ∃ q os, w' = grow (w.drewN q) os := by
  have g3 : ∀ (o o' : Obj) (os : Array Obj), ∃ q os', grow ((w.alloc o).alloc o') os = grow (w.drewN q) os' := fun o o' os => ⟨0, _, by rw [alloc_eq_grow, alloc_eq_grow, grow_grow, grow_grow]; rfl⟩
  have G3 := hid g3
  clear g3
  have G2 : Hid (∀ (a b : Array Obj) (W : World), grow (grow W a) b = grow W (a ++ b)) := fun a b W => grow_grow W a b
  have hA := fun b W (hb : Hid (ltI x y = b)) => ahead_grow x.key y.key x.one x.two x.came y.one y.two y.came b W hb
  have hA2 := fun b W (hb : Hid (ltI y x = b)) => ahead_grow y.key x.key y.one y.two y.came x.one x.two x.came b W hb
  cases h1 : ltI x y with
  | true =>
    have e1 : Hid (cmpI x y = -1) := by simp [Hid, cmpI, h1]
    have H1 := hid h1
    clear h1
    have hA' := fun W => hA true W H1
    clear hA hA2
    go_enter Try.func54, Try.ntmps54
    go_wp2_with fail
    refine (hA' _).mono ?_
    rintro e w1 ⟨rfl, os, rfl⟩
    go_wp2_with fail
    go_ret
    exact ⟨by rw [e1.out]; rfl, G3.out _ _ _⟩
  | false =>
    have H1 := hid h1
    have hA' := fun W => hA false W H1
    cases h2 : ltI y x with
    | true =>
      have e1 : Hid (cmpI x y = 1) := by simp [Hid, cmpI, h1, h2]
      have H2 := hid h2
      clear h1 h2
      have hA2' := fun W => hA2 true W H2
      clear hA hA2
      go_enter Try.func54, Try.ntmps54
      go_wp2_with fail
      refine (hA' _).mono ?_
      rintro e w1 ⟨rfl, os, hw1⟩
      have hU := grow_of hw1
      obtain ⟨c0, c1, c2, c3⟩ := cells4 hU ((Blk.new w _ _).alloc _)
      obtain ⟨d0, d1, d2, d3⟩ := cells4 hU (Blk.new' (w.heap.size + 1) _ _ (by simp))
      have HW := hid hw1
      clear hU hw1
      go_wp2_with fail
      refine (hA2' _).mono ?_
      rintro e w2 ⟨rfl, os2, rfl⟩
      go_wp2_with fail
      go_ret
      exact ⟨by rw [e1.out]; rfl, by rw [HW.out, G2.out]; exact G3.out _ _ _⟩
    | false =>
      have e1 : Hid (cmpI x y = 0) := by simp [Hid, cmpI, h1, h2]
      have H2 := hid h2
      clear h1 h2
      have hA2' := fun W => hA2 false W H2
      clear hA hA2
      go_enter Try.func54, Try.ntmps54
      go_wp2_with fail
      refine (hA' _).mono ?_
      rintro e w1 ⟨rfl, os, hw1⟩
      have hU := grow_of hw1
      obtain ⟨c0, c1, c2, c3⟩ := cells4 hU ((Blk.new w _ _).alloc _)
      obtain ⟨d0, d1, d2, d3⟩ := cells4 hU (Blk.new' (w.heap.size + 1) _ _ (by simp))
      have HW := hid hw1
      clear hU hw1
      go_wp2_with fail
      refine (hA2' _).mono ?_
      rintro e w2 ⟨rfl, os2, rfl⟩
      go_wp2_with fail
      go_ret
      exact ⟨by rw [e1.out]; rfl, by rw [HW.out, G2.out]; exact G3.out _ _ _⟩

end Go.Proofs.Ytalnjkeajlbbpaa
