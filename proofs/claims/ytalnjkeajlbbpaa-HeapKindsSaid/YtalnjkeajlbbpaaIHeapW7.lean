/- Walks: Heap.Len, Rank, Least, New, Pop (keys: whole numbers). -/
import Derived.Test.YtalnjkeajlbbpaaIHeapW5
namespace Go.Proofs.Ytalnjkeajlbbpaa.KI
open Go.RowKit

set_option maxHeartbeats 800000 in
theorem new_is (w : World) :
    Calls Try.prog 21 #[] w fun e w' => ∃ bh bm, e = .returned (.pointer (some ⟨bh, 0, none⟩)) ∧ HC w' bh bm (.slice none 0 0) [] (fun _ => none) 0 ∧ Upd Non w w' ∧ w.heap.size ≤ bh ∧ w.heap.size ≤ bm := by
  have hmm := @run_makeMap Try.prog
  go_enter Try.func21, Try.ntmps21
  go_wp2
  go_ret
  refine ⟨w.heap.size + 1, w.heap.size, rfl, ⟨⟨Blk.new' _ _ _ (by simp), ⟨rfl, .inl ⟨rfl, rfl⟩⟩, (MapA.made IK w).alloc _, by omega, by simp [Value.ownBlock]⟩, fun j y z _ hy => by simp at hy, ⟨fun j y hy => by simp at hy, fun k => by simp⟩, List.Pairwise.nil, fun y hy => by simp at hy⟩, ((Upd.refl _ _).alloc _).alloc _, by omega, by omega⟩

theorem HC.non {w w' : World} {bh bm : Nat} {v : Value} {l : List (Itm Int)} {f : Int → Option Value} {came : Int} (h : HC w bh bm v l f came) (hu : Upd Non w w') : HC w' bh bm v l f came :=
  ⟨h.raw.non hu, h.heap, h.idx, h.nt, h.ok⟩
