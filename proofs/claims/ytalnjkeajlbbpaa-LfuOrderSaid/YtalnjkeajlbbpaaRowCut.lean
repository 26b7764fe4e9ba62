/- Slices of a row of strings: the first n, the rest. -/
import Derived.Test.YtalnjkeajlbbpaaLfuH
import Derived.Laws.Slices
namespace Go.Proofs.Ytalnjkeajlbbpaa
open Go.RowKit

theorem Arr.take {w : World} {F : Nat → Prop} {av : Option Addr} {ks : List ByteArray} (h : Arr w F av 1 (strC ks)) (n : Nat) : Arr w F av 1 (strC (ks.take n)) := by
  intro hl
  obtain ⟨g, off, he, hg, hF, hc⟩ := h (by intro e; simp [strC] at e; subst e; simp [strC] at hl)
  refine ⟨g, off, he, hg, hF, fun i c hi j v hj => hc i c ?_ j v hj⟩
  simp only [strC, List.getElem?_map, List.getElem?_take] at hi ⊢
  split at hi
  · exact hi
  · cases hi

theorem Arr.drop {w : World} {F : Nat → Prop} {av : Option Addr} {ks : List ByteArray} (h : Arr w F av 1 (strC ks)) (n : Nat) : Arr w F (av.map (·.add (n * 1))) 1 (strC (ks.drop n)) := by
  intro hl
  obtain ⟨g, off, he, hg, hF, hc⟩ := h (by intro e; simp [strC] at e; subst e; simp [strC] at hl)
  subst he
  refine ⟨g, off + n, by simp [Addr.add], hg, hF, fun i c hi j v hj => ?_⟩
  simp only [strC, List.getElem?_map, List.getElem?_drop] at hi
  have := hc (n + i) c (by simp only [strC, List.getElem?_map]; exact hi) j v hj
  rw [show off + n + i * 1 + j = off + (n + i) * 1 + j by omega]
  exact this

theorem elemS : Try.prog.underlying 33 = some (.slice (Try.prog.elem 33)) := by kernel_rfl
theorem sizeS (w : World) : (sizeOf (Try.prog.elem 33)).run Try.prog w = .ok 1 w := by kernel_rfl

theorem cut_first (av : Option Addr) (len cap n : Nat) (hn : n ≤ cap) (W : World) : (Instr.slice 33 (.slice av len cap) none (some (.int .i64 n)) none).run Try.prog W = .ok (.slice av n cap) W := by
  rw [run_slice_h (w := W) _ av len cap elemS .i64 (n : Int) (by omega) (by omega), sizeS]
  have : (av.map (fun x => x.add (0 * 1))) = av := by cases av <;> simp [Addr.add]
  simp [Result.andThen, sliced, this]

theorem cut_rest (av : Option Addr) (len cap n : Nat) (hn : n ≤ len) (W : World) : (Instr.slice 33 (.slice av len cap) (some (.int .i64 n)) none none).run Try.prog W = .ok (.slice (if cap = n then av else av.map (·.add (n * 1))) (len - n) (cap - n)) W := by
  rw [run_slice_l (w := W) _ av len cap elemS .i64 (n : Int) (by omega) (by omega), sizeS]
  simp [Result.andThen, sliced]

theorem rest_arr {w : World} {F : Nat → Prop} {av : Option Addr} {ks : List ByteArray} {cap n : Nat} (h : Arr w F av 1 (strC ks)) (hc : ks.length ≤ cap) (hn : n ≤ ks.length) : Arr w F (if cap = n then av else av.map (·.add (n * 1))) 1 (strC (ks.drop n)) := by
  by_cases he : cap = n
  · have : ks.drop n = [] := List.drop_eq_nil_of_le (by omega)
    rw [this]
    intro hl
    exact absurd rfl hl
  · rw [if_neg he]
    exact h.drop n

variable {w w' : World} {bc : Nat} {G : Nat → Prop} {m : List (Itm ByteArray)} {most now : Int} {churn : Bool}

set_option maxHeartbeats 800000 in
/-- Keys; the slice's room, too. -/
theorem keys_lrC {F' : Nat → Prop} (h : LR w bc G m most now churn) (hl : now ≤ 1000000) (hF : ∀ k, F' k → k < w.heap.size) :
    Calls Try.prog 26 #[.pointer (some ⟨bc, 0, none⟩)] w fun e w' => ∃ av cap, e = .returned (.slice av m.length cap) ∧ m.length ≤ cap ∧ Arr w' F' av 1 (strC (keysM m)) ∧ Upd Non w w' := by
  obtain ⟨bh, F, c, hG⟩ := h
  obtain ⟨c0, c1, c2, c3⟩ := c.cells
  have hO : Calls Try.prog 17 #[.pointer (some ⟨bh, 0, none⟩)] w fun e w' => ∃ av cap, e = .returned (.slice av m.length cap) ∧ m.length ≤ cap ∧ Arr w' F' av 1 (strC (keysM m)) ∧ Upd Non w w' := by
    refine (order_hr c.hr (by have := c.len; omega)).mono fun e w' ⟨vo, he, hr, hu⟩ => ?_
    have e1 : keysV m = (keysM m).map Value.string := by simp [keysV, keysM]
    have e2 : m.length = (keysM m).length := by simp [keysM]
    rw [e1, e2] at hr
    have hcap : ∀ av len cap, vo = .slice av len cap → (keysM m).length ≤ cap := by
      intro av len cap hv
      obtain ⟨-, ⟨h1, h0⟩ | ⟨g, cap', cur, h1, hb, hg, hn, hm, hs, ht⟩⟩ := hr
      · omega
      · rw [hv] at h1
        simp only [Value.slice.injEq] at h1
        omega
    obtain ⟨av, cap, rfl, ha⟩ := owned_arr hr (F := F') hF
    exact ⟨av, cap, by rw [he, e2], by rw [e2]; exact hcap _ _ _ rfl, ha, hu⟩
  go_enter Try.func26, Try.ntmps26
  go_wp2_with fail
  refine hO.mono ?_
  rintro e w1 ⟨av, cap, rfl, hc, ha, u⟩
  go_wp2_with fail
  go_ret
  exact ⟨av, cap, rfl, hc, ha, u⟩

end Go.Proofs.Ytalnjkeajlbbpaa
