/- Walks: Heap.Len, Rank, Least, New, Pop (keys: strings). -/
import Derived.Test.YtalnjkeajlbbpaaHeapW6
namespace Go.Proofs.Ytalnjkeajlbbpaa
open Go.RowKit

set_option maxHeartbeats 800000 in
theorem len_is {w : World} {bh bm : Nat} {v : Value} {l : List (Itm ByteArray)} {f : ByteArray → Option Value} {came : Int} (h : HC w bh bm v l f came) :
    Calls Try.prog 20 #[.pointer (some ⟨bh, 0, none⟩)] w fun e w' => e = .returned (.int .i64 l.length) ∧ w = w' := by
  obtain ⟨av, cap, rfl⟩ := h.raw.slice
  have c0 : w.cell? ⟨bh, 0, none⟩ = some (.slice av l.length cap) := h.raw.st.cell 0 rfl
  go_enter Try.func20, Try.ntmps20
  go_wp2
  go_ret
  exact ⟨rfl, rfl⟩

set_option maxHeartbeats 800000 in
theorem new_is (w : World) :
    Calls Try.prog 14 #[] w fun e w' => ∃ bh bm, e = .returned (.pointer (some ⟨bh, 0, none⟩)) ∧ HC w' bh bm (.slice none 0 0) [] (fun _ => none) 0 ∧ Upd Non w w' ∧ w.heap.size ≤ bh ∧ w.heap.size ≤ bm := by
  have hmm := @run_makeMap Try.prog
  go_enter Try.func14, Try.ntmps14
  go_wp2
  go_ret
  refine ⟨w.heap.size + 1, w.heap.size, rfl, ⟨⟨Blk.new' _ _ _ (by simp), ⟨rfl, .inl ⟨rfl, rfl⟩⟩, (MapA.made SK w).alloc _, by omega, by simp [Value.ownBlock]⟩, fun j y z _ hy => by simp at hy, ⟨fun j y hy => by simp at hy, fun k => by simp⟩, List.Pairwise.nil, fun y hy => by simp at hy⟩, ((Upd.refl _ _).alloc _).alloc _, by omega, by omega⟩

set_option maxHeartbeats 800000 in
theorem rank_no {w : World} {bh bm : Nat} {v : Value} {l : List (Itm ByteArray)} {f : ByteArray → Option Value} {came : Int} {key : ByteArray} (h : HC w bh bm v l f came) (hkey : key.size ≤ maxLen) (hfk : f key = none) :
    Calls Try.prog 18 #[.pointer (some ⟨bh, 0, none⟩), .string key] w fun e w' => e = .returned (.tuple #[.agg #[.int .i64 0, .int .i64 0], .bool false]) ∧ Upd Non w w' := by
  have c1 : w.cell? ⟨bh, 1, none⟩ = some (.map (some bm)) := h.raw.st.cell 1 rfl
  have hrun := (h.raw.mp.alloc (.cells #[.int .i64 0, .int .i64 0] 24)).look Try.underlying54 (zero3 _) (a := key) hkey
  change (Instr.lookup 54 (.map (some bm)) (.string key) true).run Try.prog _ = _ at hrun
  rw [hfk] at hrun
  simp only [Option.getD_none, Option.isSome_none] at hrun
  clear hfk
  have hbh := h.raw.st.lt
  go_enter Try.func18, Try.ntmps18
  go_wp2
  refine bodyPost_ret (v := .tuple #[.agg #[.int .i64 0, .int .i64 0], .bool false]) (by simp [results, Try.results18, go_sem]) rfl ⟨rfl, ?_⟩
  exact (Upd.refl _ _).alloc _

set_option maxHeartbeats 800000 in
theorem rank_yes {w : World} {bh bm : Nat} {v : Value} {l : List (Itm ByteArray)} {f : ByteArray → Option Value} {came : Int} {key : ByteArray} {i : Nat} {y : Itm ByteArray} (h : HC w bh bm v l f came) (hl : l.length ≤ 1000000) (hkey : key.size ≤ maxLen) (hy : l[i]? = some y) (hk : key = y.key) :
    Calls Try.prog 18 #[.pointer (some ⟨bh, 0, none⟩), .string key] w fun e w' => e = .returned (.tuple #[.agg #[.int .i64 y.one, .int .i64 y.two], .bool true]) ∧ Upd Non w w' := by
  have hi := (List.getElem?_eq_some_iff.1 hy).1
  obtain ⟨g, cap, cur, rfl, hg, hcl, hcm, hcs, hct⟩ := h.raw.open (by intro e; subst e; simp at hi)
  have c0 : w.cell? ⟨bh, 0, none⟩ = some (.slice (some ⟨g, 0, none⟩) l.length cap) := h.raw.st.cell 0 rfl
  have c1 : w.cell? ⟨bh, 1, none⟩ = some (.map (some bm)) := h.raw.st.cell 1 rfl
  have hrun := (h.raw.mp.alloc (.cells #[.int .i64 0, .int .i64 0] 24)).look Try.underlying54 (zero3 _) (a := key) hkey
  change (Instr.lookup 54 (.map (some bm)) (.string key) true).run Try.prog _ = _ at hrun
  rw [show f key = some (.int .i64 i) by rw [hk]; exact h.idx.1 i y hy] at hrun
  simp only [Option.getD_some, Option.isSome_some] at hrun
  have hbh := h.raw.st.lt
  have hbg := hg.lt
  obtain ⟨g0, g1, g2, g3⟩ := row_cellsS hg hct hy
  have hi1 : (i : Int) < (l.length : Int) := by omega
  clear hk hy hcs hct hcm hg
  go_enter Try.func18, Try.ntmps18
  go_wp2
  refine bodyPost_ret (v := .tuple #[.agg #[.int .i64 y.one, .int .i64 y.two], .bool true]) (by simp [results, Try.results18, go_sem]) rfl ⟨rfl, ?_⟩
  exact (Upd.refl _ _).alloc _

set_option maxHeartbeats 800000 in
theorem least_no {w : World} {bh bm : Nat} {v : Value} {f : ByteArray → Option Value} {came : Int} (h : HC w bh bm v [] f came) :
    Calls Try.prog 49 #[.pointer (some ⟨bh, 0, none⟩)] w fun e w' => e = .returned (.tuple #[.string ⟨#[]⟩, .agg #[.int .i64 0, .int .i64 0], .bool false]) ∧ Upd Non w w' := by
  obtain ⟨av, cap, rfl⟩ := h.raw.slice
  have c0 : w.cell? ⟨bh, 0, none⟩ = some (.slice av 0 cap) := h.raw.st.cell 0 rfl
  have hbh := h.raw.st.lt
  go_enter Try.func49, Try.ntmps49
  go_wp2
  refine bodyPost_ret (v := .tuple #[.string ⟨#[]⟩, .agg #[.int .i64 0, .int .i64 0], .bool false]) (by simp [results, Try.results49, go_sem]) rfl ⟨rfl, ?_⟩
  exact (Upd.refl _ _).alloc _

set_option maxHeartbeats 800000 in
theorem least_yes {w : World} {bh bm : Nat} {v : Value} {l : List (Itm ByteArray)} {f : ByteArray → Option Value} {came : Int} {y : Itm ByteArray} (h : HC w bh bm v l f came) (hl : l.length ≤ 1000000) (hy : l[0]? = some y) :
    Calls Try.prog 49 #[.pointer (some ⟨bh, 0, none⟩)] w fun e w' => e = .returned (.tuple #[.string y.key, .agg #[.int .i64 y.one, .int .i64 y.two], .bool true]) ∧ Upd Non w w' := by
  have hi := (List.getElem?_eq_some_iff.1 hy).1
  obtain ⟨g, cap, cur, rfl, hg, hcl, hcm, hcs, hct⟩ := h.raw.open (by intro e; subst e; simp at hi)
  have c0 : w.cell? ⟨bh, 0, none⟩ = some (.slice (some ⟨g, 0, none⟩) l.length cap) := h.raw.st.cell 0 rfl
  have hbh := h.raw.st.lt
  have hbg := hg.lt
  obtain ⟨g0, g1, g2, g3⟩ := row_cellsS hg hct hy
  have g0' : w.cell? ⟨g, 0, none⟩ = some (.string y.key) := g0
  have g1' : w.cell? ⟨g, 1, none⟩ = some (.int .i64 y.one) := g1
  have g2' : w.cell? ⟨g, 2, none⟩ = some (.int .i64 y.two) := g2
  have hi1 : (0 : Int) < (l.length : Int) := by omega
  have hne : ((l.length : Int) == 0) = false := by rw [beq_eq_false_iff_ne]; omega
  clear hy hcs hct hcm hg g0 g1 g2 g3
  go_enter Try.func49, Try.ntmps49
  go_wp2
  go_region
  go_wp2
  refine bodyPost_ret (v := .tuple #[.string y.key, .agg #[.int .i64 y.one, .int .i64 y.two], .bool true]) (by simp [results, Try.results49, go_sem]) rfl ⟨rfl, ?_⟩
  exact ((Upd.refl _ _).alloc _).drew

set_option maxHeartbeats 800000 in
theorem pop_no {w : World} {bh bm : Nat} {v : Value} {f : ByteArray → Option Value} {came : Int} (h : HC w bh bm v [] f came) :
    Calls Try.prog 19 #[.pointer (some ⟨bh, 0, none⟩)] w fun e w' => e = .returned (.tuple #[.string ⟨#[]⟩, .bool false]) ∧ Upd Non w w' := by
  go_enter Try.func19, Try.ntmps19
  go_wp2_with fail
  refine (least_no h).mono ?_
  rintro e w1 ⟨rfl, hU⟩
  go_wp2_with fail
  go_ret2
  exact ⟨rfl, hU.alloc _⟩

theorem HC.non {w w' : World} {bh bm : Nat} {v : Value} {l : List (Itm ByteArray)} {f : ByteArray → Option Value} {came : Int} (h : HC w bh bm v l f came) (hu : Upd Non w w') : HC w' bh bm v l f came :=
  ⟨h.raw.non hu, h.heap, h.idx, h.nt, h.ok⟩

set_option maxHeartbeats 800000 in
theorem pop_yes {w : World} {bh bm : Nat} {v : Value} {l : List (Itm ByteArray)} {f : ByteArray → Option Value} {came : Int} {y : Itm ByteArray} (h : HC w bh bm v l f came) (hl : l.length ≤ 1000000) (hy : l[0]? = some y) :
    Calls Try.prog 19 #[.pointer (some ⟨bh, 0, none⟩)] w fun e w' => e = .returned (.tuple #[.string y.key, .bool true]) ∧
      ∃ v' l' f', HC w' bh bm v' l' f' came ∧ (y :: l').Perm l ∧ Upd (own3 bh bm v) w w' ∧ (∀ k, v'.ownBlock = some k → v.ownBlock = some k ∨ w.heap.size ≤ k) := by
  have hL := least_yes h hl hy
  have hky := h.ok y (List.mem_iff_getElem?.2 ⟨0, hy⟩)
  have HY := hid hy
  clear hy
  go_enter Try.func19, Try.ntmps19
  go_wp2_with fail
  refine hL.mono ?_
  rintro e w1 ⟨rfl, hU⟩
  have hR := rem_yes ((h.non hU).non ((Upd.refl Non w1).alloc (.cells #[.int .i64 y.one, .int .i64 y.two] 24))) hl hky HY.out rfl
  go_wp2_with fail
  refine hR.mono ?_
  rintro e w2 ⟨rfl, v', l', f', h2, hp, hu, hv⟩
  go_wp2_with fail
  go_ret2
  exact ⟨rfl, v', l', f', h2, hp, (hU.alloc _).mono (fun _ h => h.elim) |>.trans hu (fun k hk => .inl hk), fun k hk => (hv k hk).imp id (fun h => by have := hU.size; simp at h; omega)⟩

end Go.Proofs.Ytalnjkeajlbbpaa
