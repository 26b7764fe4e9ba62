/- Texts merged by merge.py: HeapW5, HeapW6, HeapW7. -/
import Derived.Test.YtalnjkeajlbbpaaMB

/- Walk: Heap.Set (keys: strings). -/
namespace Go.Proofs.Ytalnjkeajlbbpaa
open Go.RowKit

/-- A heap that stands: in memory, in order, its index right. -/
structure HC (w : World) (bh bm : Nat) (v : Value) (l : List (Itm ByteArray)) (f : ByteArray → Option Value) (came : Int) : Prop where
  raw : HRaw SK 91 94 w bh bm v l f l.length came
  heap : Heapd l
  idx : Idx l f
  nt : NoTwice l
  ok : ∀ y ∈ l, y.key.size ≤ maxLen

/-- The heap's own blocks. -/
def own3 (bh bm : Nat) (v : Value) : Nat → Prop := fun k => k = bh ∨ k = bm ∨ v.ownBlock = some k

theorem HRaw.setCame {P : Program} {kt : TypeId} {α : Type} {K : KeyT P kt α} {tH tI : TypeId} {w : World} {bh bm : Nat} {v : Value} {l : List (Itm α)} {f : α → Option Value} {n : Nat} {came : Int} (h : HRaw K tH tI w bh bm v l f n came) (c : Int) :
    HRaw K tH tI (w.setCell ⟨bh, 2, none⟩ (.int .i64 c)) bh bm v l f n c ∧ Upd (fun k => k = bh) w (w.setCell ⟨bh, 2, none⟩ (.int .i64 c)) := by
  have hu : Upd (fun k => k = bh) w (w.setCell ⟨bh, 2, none⟩ (.int .i64 c)) := (Upd.refl _ w).set1 2 _
  exact ⟨⟨h.st.set 2 _, ownsRow_upd h.row hu (fun k hk e => h.hv.1 (by rw [hk, e])), h.mp.upd hu (fun e => h.hm e.symm), h.hm, h.hv⟩, hu⟩

theorem heapd_wh {l : List (Itm ByteArray)} {i : Nat} {x : Itm ByteArray} (h : Heapd l) (hi : i < l.length) : WH (l.set i x) i := by
  have k := get_one (x := x) hi
  refine ⟨fun j y z hj hji hpi hy hz => ?_, fun j y z hj hpj h0 hy hz => ?_⟩
  · rw [k, if_neg hji] at hy
    rw [k, if_neg hpi] at hz
    exact h j y z hj hy hz
  · have hp := par_lt h0
    have hpj' := par_lt hj
    rw [k, if_neg (by omega)] at hy
    rw [k, if_neg (by omega)] at hz
    obtain ⟨u, hu⟩ : ∃ u, l[i]? = some u := ⟨l[i], List.getElem?_eq_getElem hi⟩
    exact ltI_ntrans (h j y u hj hy (by rw [hpj]; exact hu)) (h i u z h0 hu hz)

theorem set_noTwice {l : List (Itm ByteArray)} {i : Nat} {x y : Itm ByteArray} (h : NoTwice l) (hy : l[i]? = some y) (hk : x.key = y.key) : NoTwice (l.set i x) := by
  have hi := (List.getElem?_eq_some_iff.1 hy).1
  have k := get_one (x := x) hi
  have e : ∀ (j : Nat) (u : Itm ByteArray), (l.set i x)[j]? = some u → ∃ u', l[j]? = some u' ∧ u'.key = u.key := by
    intro j u hu
    rw [k] at hu
    split at hu
    · next e => cases hu; subst e; exact ⟨y, hy, hk.symm⟩
    · exact ⟨u, hu, rfl⟩
  rw [NoTwice, List.pairwise_iff_getElem]
  intro a b ha hb hab he
  obtain ⟨u, hu, hu'⟩ := e a _ (List.getElem?_eq_getElem ha)
  obtain ⟨u2, hu2, hu2'⟩ := e b _ (List.getElem?_eq_getElem hb)
  have := h.at hu hu2 (by rw [hu', hu2', he])
  omega

theorem set_idx {l : List (Itm ByteArray)} {f : ByteArray → Option Value} {i : Nat} {x y : Itm ByteArray} (h : Idx l f) (hN : NoTwice l) (hy : l[i]? = some y) (hk : x.key = y.key) : Idx (l.set i x) (put f x.key (.int .i64 i)) := by
  have hi := (List.getElem?_eq_some_iff.1 hy).1
  have k := get_one (x := x) hi
  refine idx_end hi (set_noTwice hN hy hk) ⟨fun j u hji hu => ?_, fun kk => ?_⟩
  · rw [k, if_neg hji] at hu
    exact h.1 j u hu
  · rw [h.2]
    constructor
    · rintro ⟨j, u, hu, hk'⟩
      by_cases hji : j = i
      · rw [hji, hy] at hu
        cases hu
        exact ⟨i, x, by rw [k, if_pos rfl], by rw [hk]; exact hk'⟩
      · exact ⟨j, u, by rw [k, if_neg hji]; exact hu, hk'⟩
    · rintro ⟨j, u, hu, hk'⟩
      rw [k] at hu
      split at hu
      · cases hu; exact ⟨i, y, hy, by rw [← hk]; exact hk'⟩
      · exact ⟨j, u, hu, hk'⟩

theorem mem_set_ok {l : List (Itm ByteArray)} {i : Nat} {x : Itm ByteArray} (hok : ∀ y ∈ l, y.key.size ≤ maxLen) (hx : x.key.size ≤ maxLen) : ∀ y ∈ l.set i x, y.key.size ≤ maxLen := by
  intro y hy
  rcases List.mem_or_eq_of_mem_set hy with h | h
  · exact hok y h
  · rw [h]; exact hx

set_option maxRecDepth 100000 in
set_option maxHeartbeats 1600000 in
/-- Set, of a key that is there. -/
theorem set_old {w : World} {bh bm : Nat} {v : Value} {l : List (Itm ByteArray)} {f : ByteArray → Option Value} {came r1 r2 : Int} {key : ByteArray} {i : Nat} {y : Itm ByteArray}
    (h : HC w bh bm v l f came) (hl : l.length ≤ 1000000) (hkey : key.size ≤ maxLen) (hy : l[i]? = some y) (hk : key = y.key) (hc0 : 0 ≤ came) (hc1 : came < 1000000000000) :
    Calls Try.prog 15 #[.pointer (some ⟨bh, 0, none⟩), .string key, .agg #[.int .i64 r1, .int .i64 r2]] w fun e w' => e = .returned (.tuple #[]) ∧
      ∃ v' l' f', HC w' bh bm v' l' f' (came + 1) ∧ l'.Perm (l.set i ⟨key, r1, r2, came + 1⟩) ∧ Upd (own3 bh bm v) w w' ∧ (∀ k, v'.ownBlock = some k → v.ownBlock = some k ∨ w.heap.size ≤ k) := by
  have hi := (List.getElem?_eq_some_iff.1 hy).1
  obtain ⟨g, cap, cur, rfl, hg, hcl, hcm, hcs, hct⟩ := h.raw.open (by intro e; subst e; simp at hi)
  have c0 : w.cell? ⟨bh, 0, none⟩ = some (.slice (some ⟨g, 0, none⟩) l.length cap) := h.raw.st.cell 0 rfl
  have c1 : w.cell? ⟨bh, 1, none⟩ = some (.map (some bm)) := h.raw.st.cell 1 rfl
  have c2 : w.cell? ⟨bh, 2, none⟩ = some (.int .i64 came) := h.raw.st.cell 2 rfl
  have f2 := h.raw.st.frozen 2
  have hbh := h.raw.st.lt
  have hbg := hg.lt
  have hbm := h.raw.mp.lt
  have hfk : f key = some (.int .i64 i) := by rw [hk]; exact h.idx.1 i y hy
  have hrun := (h.raw.mp.alloc (.cells #[.int .i64 r1, .int .i64 r2] 24)).look Try.underlying54 (zero3 _) (a := key) hkey
  change (Instr.lookup 54 (.map (some bm)) (.string key) true).run Try.prog _ = _ at hrun
  rw [hfk] at hrun
  simp only [Option.getD_some, Option.isSome_some] at hrun
  have hgh : g ≠ bh := fun e => h.raw.hv.1 (by simp [Value.ownBlock, e])
  have hgm : g ≠ bm := fun e => h.raw.hv.2 (by simp [Value.ownBlock, e])
  have hhm := h.raw.hm
  have HFK := hid hfk
  have HK := hid hk
  have HY := hid hy
  clear hfk hk hy hcs hct hcm hg
  go_enter Try.func15, Try.ntmps15
  go_wp2_with fail
  generalize hW : World.alloc _ _ = w1
  obtain ⟨H1, U1, B1⟩ : HRaw SK 91 94 w1 bh bm (.slice (some ⟨g, 0, none⟩) l.length cap) l f l.length (came + 1) ∧ Upd (own3 bh bm (.slice (some ⟨g, 0, none⟩) l.length cap)) w w1 ∧ Blk w1 w.heap.size #[.int .i64 r1, .int .i64 r2] 24 := by
    rw [← hW]
    have hs := h.raw.setCame (came + 1)
    exact ⟨hs.1.alloc _, (hs.2.mono (fun k hk => .inl (.inl hk))).alloc _, Blk.new' _ _ _ (by simp)⟩
  clear hW c0 c1 c2 f2 hrun
  have c2 : w1.cell? ⟨bh, 2, none⟩ = some (.int .i64 (came + 1)) := H1.st.cell 2 rfl
  have b0 : w1.cell? ⟨w.heap.size, 0, none⟩ = some (.int .i64 r1) := B1.cell 0 rfl
  have b1 : w1.cell? ⟨w.heap.size, 1, none⟩ = some (.int .i64 r2) := B1.cell 1 rfl
  have HP := put_is ⟨key, r1, r2, came + 1⟩ H1.drew hi hl hl hkey
  rw [show (f key).isSome = true by rw [HFK.out]; rfl, if_pos rfl] at HP
  refine wp_region_still_tail 9 (by kernel_rfl) (by kernel_rfl) ?_
  simp only [List.take_succ_cons, List.take_zero, List.drop_succ_cons, List.drop_zero]
  change wpStill _ _ (World.drew _) (fun a' => wpList _ _ _ _ a' (World.drew _)) _ _
  repeat still_step
  refine wpStill_nil ?_
  go_wp2_with fail
  refine HP.mono ?_
  rintro e w3 ⟨rfl, hr3, hu3⟩
  clear HP
  have hll : (l.set i ⟨key, r1, r2, came + 1⟩).length = l.length := List.length_set
  rw [← hll] at hr3
  have HLL := hid hll
  clear hll
  have hx' : (l.set i ⟨key, r1, r2, came + 1⟩)[i]? = some ⟨key, r1, r2, came + 1⟩ := by rw [get_one hi, if_pos rfl]
  have HS := settle_is hr3 hx' (by rw [HLL.out]; exact hl) (by rw [HLL.out]; exact hl) (mem_set_ok h.ok hkey) (heapd_wh h.heap hi) (set_noTwice h.nt HY.out HK.out) (set_idx h.idx h.nt HY.out HK.out)
  clear hx'
  go_wp2_with fail
  refine HS.mono ?_
  rintro e w4 ⟨rfl, l', f', hr4, hperm, hheap, hidx, hu4⟩
  go_wp2
  go_end0
  have hlen : l'.length = (l.set i ⟨key, r1, r2, came + 1⟩).length := hperm.length_eq
  refine ⟨rfl, _, l', f', ⟨by rw [hlen]; rw [← hlen]; rw [hlen] at hr4; rw [hlen]; exact hr4, hheap, hidx, (set_noTwice h.nt HY.out HK.out).perm hperm, fun y hy => mem_set_ok h.ok hkey y (hperm.mem_iff.1 hy)⟩, hperm, ?_, fun k hk => .inl (by simpa [Value.ownBlock] using hk)⟩
  exact (U1.trans hu3.drew0 (fun k hk => .inl (hk.elim (fun e => .inr (.inr (by simp [Value.ownBlock, e]))) (fun e => .inr (.inl e))))).trans hu4 (fun k hk => .inl (hk.elim (fun e => .inr (.inr (by simp [Value.ownBlock, e]))) (fun e => .inr (.inl e))))

theorem HRaw.slice {P : Program} {kt : TypeId} {α : Type} {K : KeyT P kt α} {tH tI : TypeId} {w : World} {bh bm : Nat} {v : Value} {l : List (Itm α)} {f : α → Option Value} {n : Nat} {came : Int} (h : HRaw K tH tI w bh bm v l f n came) : ∃ a cap, v = .slice a l.length cap := by
  rcases h.row.2 with ⟨rfl, h0⟩ | ⟨g, cap, cur, rfl, _⟩
  · exact ⟨none, 0, by rw [h0]⟩
  · exact ⟨_, _, rfl⟩

theorem infoI : (Try.prog.info? 94).map (fun i => (i.zero, i.size, i.bytes)) = some (some (.agg #[.string ByteArray.empty, .int .i64 0, .int .i64 0, .int .i64 0]), 4, 40) := by kernel_rfl

theorem news_blk {W : World} {b : Nat} {vs : Array Value} {T : TypeId} (h : Blk W b vs T) : ∀ (j : Nat) (u : Value), vs.toList[j]? = some u → W.cell? ((⟨b, 0, none⟩ : Addr).add j) = some u := by
  intro j u hu
  rw [Addr.add_lit, Nat.zero_add]
  exact h.cell j (by simpa using hu)

theorem zero_one : ∀ u ∈ ([.string ByteArray.empty, .int .i64 0, .int .i64 0, .int .i64 0] : List Value), u.oneCell' = true := by
  intro u hu
  simp at hu
  rcases hu with rfl | rfl <;> rfl

def zeroI : Itm ByteArray := ⟨ByteArray.empty, 0, 0, 0⟩

theorem new_right {l : List (Itm ByteArray)} {f : ByteArray → Option Value} {key : ByteArray} (hh : Heapd l) (hI : Idx l f) (hN : NoTwice l) (hf : f key = none) (r1 r2 c : Int) :
    WH (l ++ [⟨key, r1, r2, c⟩]) l.length ∧ NoTwice (l ++ [⟨key, r1, r2, c⟩]) ∧ Idx (l ++ [⟨key, r1, r2, c⟩]) (put f key (.int .i64 l.length)) := by
  have old : ∀ (j : Nat) (y : Itm ByteArray), j ≠ l.length → (l ++ [⟨key, r1, r2, c⟩])[j]? = some y → l[j]? = some y := by
    intro j y hj hy
    have hlt := (List.getElem?_eq_some_iff.1 hy).1
    simp at hlt
    rwa [List.getElem?_append_left (by omega)] at hy
  have hno : ∀ y ∈ l, y.key ≠ key := by
    intro y hy e
    obtain ⟨j, hj⟩ := List.mem_iff_getElem?.1 hy
    have := (hI.2 key).2 ⟨j, y, hj, e⟩
    rw [hf] at this
    cases this
  refine ⟨⟨fun j y z hj hji hpi hy hz => hh j y z hj (old j y hji hy) (old _ z hpi hz), fun j y z hj hpj h0 hy hz => ?_⟩, ?_, ⟨fun j y hy => ?_, fun kk => ?_⟩⟩
  · have := (List.getElem?_eq_some_iff.1 hy).1
    have := par_lt hj
    simp at *
    omega
  · rw [NoTwice, List.pairwise_append]
    exact ⟨hN, by simp, fun a ha b hb => by simp at hb; rw [hb]; exact hno a ha⟩
  · by_cases hj : j = l.length
    · rw [hj, List.getElem?_append_right (Nat.le_refl _)] at hy
      simp at hy
      rw [← hy, hj]
      simp [put]
    · have hy' := old j y hj hy
      have : y.key ≠ key := hno y (List.mem_iff_getElem?.2 ⟨j, hy'⟩)
      simp only [put, if_neg this]
      exact hI.1 j y hy'
  · unfold put
    by_cases hk : kk = key
    · rw [if_pos hk]
      simp only [Option.isSome_some, true_iff]
      exact ⟨l.length, ⟨key, r1, r2, c⟩, by simp, hk.symm⟩
    · rw [if_neg hk, hI.2]
      constructor
      · rintro ⟨j, y, hy, e⟩
        exact ⟨j, y, by rw [List.getElem?_append_left (List.getElem?_eq_some_iff.1 hy).1]; exact hy, e⟩
      · rintro ⟨j, y, hy, e⟩
        by_cases hj : j = l.length
        · rw [hj, List.getElem?_append_right (Nat.le_refl _)] at hy
          simp at hy
          rw [← hy] at e
          exact absurd e.symm hk
        · exact ⟨j, y, old j y hj hy, e⟩

/-- Behind the append: what the walk reads; the heap with one item more. -/
theorem set_new_facts {w w1 : World} {bh bm g cap cap' : Nat} {av : Option Addr} {l : List (Itm ByteArray)} {f : ByteArray → Option Value} {came r1 r2 : Int} {z : Obj}
    (h : HC w bh bm (.slice av l.length cap) l f came) (hvb : ∀ k, Value.ownBlock (.slice av l.length cap) = some k → k ≠ bh ∧ k ≠ bm ∧ k < w.heap.size)
    (hown : w1.ownsRow 0 94 4 (.slice (some ⟨g, 0, none⟩) (l.length + 1) cap') (l.length + 1) (flatI SK l ++ [.string ByteArray.empty, .int .i64 0, .int .i64 0, .int .i64 0]))
    (hgrow : ((w.alloc (.cells #[.int .i64 r1, .int .i64 r2] 24)).alloc z).grownBy w1 (Value.ownBlock (.slice av l.length cap)))
    (hat : Value.ownBlock (.slice av l.length cap) = some g ∨ g = ((w.alloc (.cells #[.int .i64 r1, .int .i64 r2] 24)).alloc z).heap.size) :
    w1.cell? ⟨bh, 0, none⟩ = some (.slice av l.length cap) ∧ w1.frozen? ⟨bh, 0, none⟩ = false ∧ w1.cell? ⟨bh, 2, none⟩ = some (.int .i64 came) ∧ w1.frozen? ⟨bh, 2, none⟩ = false ∧
    w1.cell? ⟨w.heap.size, 0, none⟩ = some (.int .i64 r1) ∧ w1.cell? ⟨w.heap.size, 1, none⟩ = some (.int .i64 r2) ∧
    Hid (HRaw SK 91 94 (w1.setCell ⟨bh, 0, none⟩ (.slice (some ⟨g, 0, none⟩) (l.length + 1) cap')) bh bm (.slice (some ⟨g, 0, none⟩) (l ++ [zeroI]).length cap') (l ++ [zeroI]) f l.length came ∧
      Upd (own3 bh bm (.slice av l.length cap)) w (w1.setCell ⟨bh, 0, none⟩ (.slice (some ⟨g, 0, none⟩) (l.length + 1) cap')) ∧ Blk (w1.setCell ⟨bh, 0, none⟩ (.slice (some ⟨g, 0, none⟩) (l.length + 1) cap')) w.heap.size #[.int .i64 r1, .int .i64 r2] 24 ∧
      (Value.ownBlock (.slice av l.length cap) = some g ∨ w.heap.size + 1 < g) ∧ bh < w.heap.size ∧ bm < w.heap.size) := by
  have hbh := h.raw.st.lt
  have hbm := h.raw.mp.lt
  have hu : Upd (fun k => Value.ownBlock (.slice av l.length cap) = some k) w w1 := (((Upd.refl _ w).alloc _).alloc _).grown hgrow (fun k hk => .inl hk)
  have hst := h.raw.st.upd hu (fun e => (hvb _ e).1 rfl)
  have hbox : Blk w1 w.heap.size #[.int .i64 r1, .int .i64 r2] 24 := ((Blk.new w _ _).alloc _).upd ((Upd.refl (fun k => Value.ownBlock (.slice av l.length cap) = some k) _).grown hgrow (fun k hk => .inl hk)) (fun e => by have := (hvb _ e).2.2; omega)
  have hg : g ≠ bh ∧ g ≠ bm ∧ (Value.ownBlock (.slice av l.length cap) = some g ∨ w.heap.size + 1 < g) := by
    rcases hat with e | e
    · exact ⟨(hvb _ e).1, (hvb _ e).2.1, .inl e⟩
    · simp at e
      exact ⟨by omega, by omega, .inr (by omega)⟩
  refine ⟨hst.cell 0 rfl, hst.frozen 0, hst.cell 2 rfl, hst.frozen 2, hbox.cell 0 rfl, hbox.cell 1 rfl, ⟨⟨by rw [show (l ++ [zeroI]).length = l.length + 1 by simp]; exact hst.set 0 _, ?_, (h.raw.mp.upd hu (fun e => (hvb _ e).2.1 rfl)).setCell (fun e => h.raw.hm e.symm) _, h.raw.hm, ?_⟩, ?_, hbox.setOther (by show w.heap.size ≠ bh; omega) _, hg.2.2, hbh, hbm⟩⟩
  · rw [flatI_append, show (l ++ [zeroI]).length = l.length + 1 by simp]
    exact ownsRow_upd hown ((Upd.refl (fun k => k = bh) w1).set1 0 _) (fun k hk e => by simp [Value.ownBlock] at hk; exact hg.1 (by rw [hk, e]))
  · simp only [Value.ownBlock]
    exact ⟨fun e => hg.1 (by simpa using e), fun e => hg.2.1 (by simpa using e)⟩
  · exact (hu.mono (fun k hk => .inl (.inr (.inr hk)))).setCell (p := ⟨bh, 0, none⟩) (.inl (.inl rfl)) _

set_option maxRecDepth 100000 in
set_option maxHeartbeats 1600000 in
/-- Set, of a key that is not there. -/
theorem set_new {w : World} {bh bm : Nat} {v : Value} {l : List (Itm ByteArray)} {f : ByteArray → Option Value} {came r1 r2 : Int} {key : ByteArray}
    (h : HC w bh bm v l f came) (hl : l.length < 1000000) (hkey : key.size ≤ maxLen) (hfk : f key = none) (hc0 : 0 ≤ came) (hc1 : came < 1000000000000) :
    Calls Try.prog 15 #[.pointer (some ⟨bh, 0, none⟩), .string key, .agg #[.int .i64 r1, .int .i64 r2]] w fun e w' => e = .returned (.tuple #[]) ∧
      ∃ v' l' f', HC w' bh bm v' l' f' (came + 1) ∧ l'.Perm (l ++ [⟨key, r1, r2, came + 1⟩]) ∧ Upd (own3 bh bm v) w w' ∧ (∀ k, v'.ownBlock = some k → v.ownBlock = some k ∨ w.heap.size ≤ k) := by
  obtain ⟨av, cap, rfl⟩ := h.raw.slice
  obtain ⟨i0, hi, hz0, hz1, hz2⟩ := info_parts infoI
  have c0 : w.cell? ⟨bh, 0, none⟩ = some (.slice av l.length cap) := h.raw.st.cell 0 rfl
  have c1 : w.cell? ⟨bh, 1, none⟩ = some (.map (some bm)) := h.raw.st.cell 1 rfl
  have hbh := h.raw.st.lt
  have hbm := h.raw.mp.lt
  have hrun := (h.raw.mp.alloc (.cells #[.int .i64 r1, .int .i64 r2] 24)).look Try.underlying54 (zero3 _) (a := key) hkey
  change (Instr.lookup 54 (.map (some bm)) (.string key) true).run Try.prog _ = _ at hrun
  rw [hfk] at hrun
  simp only [Option.getD_none, Option.isSome_none] at hrun
  have hhm := h.raw.hm
  have HFK := hid hfk
  clear hfk
  have HOWN := hid h.raw.row
  go_enter Try.func15, Try.ntmps15
  have hvb : ∀ k, Value.ownBlock (.slice av l.length cap) = some k → k ≠ bh ∧ k ≠ bm ∧ k < w.heap.size := fun k hk => ⟨fun e => h.raw.hv.1 (by rw [hk, e]), fun e => h.raw.hv.2 (by rw [hk, e]), (h.raw.row.lt k hk).2⟩
  go_wp2_with (at_builtin; refine wpList_append_some rfl (.tmp 28) (.tmp 30) 89 rfl 0 94 i0 (.agg #[.string ByteArray.empty, .int .i64 0, .int .i64 0, .int .i64 0]) 4 40 Try.underlying89 hi hz0 hz1 hz2 rfl (by decide) (.slice av l.length cap) l.length (flatI SK l) rfl ((HOWN.out.alloc _).alloc _) ⟨w.heap.size + 1, 0, none⟩ 1 1 [.string ByteArray.empty, .int .i64 0, .int .i64 0, .int .i64 0] rfl rfl (news_blk (vs := #[.string ByteArray.empty, .int .i64 0, .int .i64 0, .int .i64 0]) (Blk.new' (w.heap.size + 1) _ 94 (by simp))) zero_one (by unfold maxLen; omega) (by omega) (by simp) (by decide) ?_; intro g cap' w1 hown1 hgrow hat; obtain ⟨k0, k1, k2, k3, k4, k5, HW1⟩ := set_new_facts h hvb hown1 hgrow hat)
  generalize hW : World.setCell (World.setCell w1 _ _) _ _ = w2
  obtain ⟨H1, U1, B1, hga, -, -⟩ := HW1.out
  obtain ⟨H2, U2, B2⟩ : HRaw SK 91 94 w2 bh bm (.slice (some ⟨g, 0, none⟩) (l ++ [zeroI]).length cap') (l ++ [zeroI]) f l.length (came + 1) ∧ Upd (own3 bh bm (.slice av l.length cap)) w w2 ∧ Blk w2 w.heap.size #[.int .i64 r1, .int .i64 r2] 24 := by
    rw [← hW]
    have hs := H1.setCame (came + 1)
    exact ⟨hs.1, U1.setCell (p := ⟨bh, 2, none⟩) (.inl (.inl rfl)) _, B1.setOther (by show w.heap.size ≠ bh; omega) _⟩
  clear hW c0 c1 hrun k0 k1 k2 k3 k4 k5 H1 U1 B1 HW1 hown1 hgrow hat
  have c2 : w2.cell? ⟨bh, 2, none⟩ = some (.int .i64 (came + 1)) := H2.st.cell 2 rfl
  have b0 : w2.cell? ⟨w.heap.size, 0, none⟩ = some (.int .i64 r1) := B2.cell 0 rfl
  have b1 : w2.cell? ⟨w.heap.size, 1, none⟩ = some (.int .i64 r2) := B2.cell 1 rfl
  have HP := put_is (i := l.length) ⟨key, r1, r2, came + 1⟩ H2.drew (by simp) (by simp; omega) (by omega) hkey
  rw [show (f key).isSome = false by rw [HFK.out]; rfl, if_neg (by simp), show (l ++ [zeroI]).set l.length ⟨key, r1, r2, came + 1⟩ = l ++ [⟨key, r1, r2, came + 1⟩] by simp] at HP
  refine wp_region_still_tail 9 (by kernel_rfl) (by kernel_rfl) ?_
  simp only [List.take_succ_cons, List.take_zero, List.drop_succ_cons, List.drop_zero]
  change wpStill _ _ (World.drew _) (fun a' => wpList _ _ _ _ a' (World.drew _)) _ _
  repeat still_step
  refine wpStill_nil ?_
  go_wp2_with fail
  refine HP.mono ?_
  rintro e w3 ⟨rfl, hr3, hu3⟩
  clear HP
  obtain ⟨n1, n2, n3⟩ := new_right h.heap h.idx h.nt HFK.out r1 r2 (came + 1)
  have hr4 : HRaw SK 91 94 w3 bh bm (.slice (some ⟨g, 0, none⟩) (l ++ [(⟨key, r1, r2, came + 1⟩ : Itm ByteArray)]).length cap') (l ++ [⟨key, r1, r2, came + 1⟩]) (put f key (.int .i64 l.length)) (l.length + 1) (came + 1) := by
    rw [show (l ++ [(⟨key, r1, r2, came + 1⟩ : Itm ByteArray)]).length = (l ++ [zeroI]).length by simp]; exact hr3
  have hok' : ∀ y ∈ l ++ [(⟨key, r1, r2, came + 1⟩ : Itm ByteArray)], y.key.size ≤ maxLen := by
    intro y hy
    rcases List.mem_append.1 hy with hy | hy
    · exact h.ok y hy
    · simp at hy; rw [hy]; exact hkey
  have HS := settle_is (i := l.length) (n := l.length + 1) (x := ⟨key, r1, r2, came + 1⟩) hr4 (by simp) (by simp; omega) (by omega) hok' n1 n2 n3
  go_wp2_with fail
  refine HS.mono ?_
  rintro e w4 ⟨rfl, l', f', hr4, hperm, hheap, hidx, hu4⟩
  go_wp2
  go_end0
  have hlen : l'.length = l.length + 1 := by rw [hperm.length_eq]; simp
  have hgo : ∀ k, k = g ∨ k = bm → own3 bh bm (.slice av l.length cap) k ∨ w.heap.size ≤ k := by
    rintro k (rfl | rfl)
    · rcases hga with e | e
      · exact .inl (.inr (.inr e))
      · exact .inr (by omega)
    · exact .inl (.inr (.inl rfl))
  refine ⟨rfl, _, l', f', ⟨by rw [← hlen] at hr4; exact hr4, hheap, hidx, n2.perm hperm, fun y hy => hok' y (hperm.mem_iff.1 hy)⟩, hperm, (U2.trans hu3.drew0 hgo).trans hu4 hgo, fun k hk => ?_⟩
  simp only [Value.ownBlock, Option.some.injEq] at hk
  rw [← hk]
  rcases hga with e | e
  · exact .inl e
  · exact .inr (by omega)

end Go.Proofs.Ytalnjkeajlbbpaa

/- Walk: Heap.Remove (keys: strings). -/
namespace Go.Proofs.Ytalnjkeajlbbpaa
open Go.RowKit

theorem set_perm1 {α : Type} {x y : α} : ∀ (D : List α) (i : Nat), D[i]? = some y → (y :: D.set i x).Perm (x :: D)
  | [], i, h => by simp at h
  | a :: D, 0, h => by simp at h; subst h; exact List.Perm.swap _ _ _
  | a :: D, i + 1, h => ((List.Perm.swap _ _ _).trans ((set_perm1 D i (by simpa using h)).cons a)).trans (List.Perm.swap _ _ _)

theorem noTwice_sub {l : List (Itm ByteArray)} {y : Itm ByteArray} {l' : List (Itm ByteArray)} (h : NoTwice l) (hp : (y :: l').Perm l) : NoTwice l' := (List.pairwise_cons.1 (h.perm hp)).2

theorem heapd_take {l : List (Itm ByteArray)} (h : Heapd l) (n : Nat) : Heapd (l.take n) := by
  intro j y z hj hy hz
  rw [List.getElem?_take] at hy hz
  have := par_lt hj
  split at hy
  · rw [if_pos (by omega)] at hz
    exact h j y z hj hy hz
  · cases hy

theorem HRaw.take {P : Program} {kt : TypeId} {α : Type} {K : KeyT P kt α} {tH tI : TypeId} {w : World} {bh bm g cap : Nat} {l : List (Itm α)} {f : α → Option Value} {n : Nat} {came : Int} (h : HRaw K tH tI w bh bm (.slice (some ⟨g, 0, none⟩) l.length cap) l f n came) {m : Nat} (hm : m ≤ l.length) :
    HRaw K tH tI (w.setCell ⟨bh, 0, none⟩ (.slice (some ⟨g, 0, none⟩) m cap)) bh bm (.slice (some ⟨g, 0, none⟩) (l.take m).length cap) (l.take m) f n came ∧ Upd (fun k => k = bh) w (w.setCell ⟨bh, 0, none⟩ (.slice (some ⟨g, 0, none⟩) m cap)) := by
  have hu : Upd (fun k => k = bh) w (w.setCell ⟨bh, 0, none⟩ (.slice (some ⟨g, 0, none⟩) m cap)) := (Upd.refl _ w).set1 0 _
  have hlen : (l.take m).length = m := by simp; omega
  have hgh : g ≠ bh := fun e => h.hv.1 (by simp [Value.ownBlock, e])
  rw [hlen]
  refine ⟨⟨h.st.set 0 _, ?_, h.mp.upd hu (fun e => h.hm e.symm), h.hm, h.hv⟩, hu⟩
  rw [hlen]
  rcases h.row.2 with ⟨h0, _⟩ | ⟨g', cap', cur, hv, hb, hg, hcl, hcm, hcs, hct⟩
  · cases h0
  · obtain ⟨rfl, rfl⟩ : g = g' ∧ cap = cap' := by simpa using hv
    refine ⟨by rw [flatI_length, hlen], .inr ⟨g, cap, cur, rfl, hb, (Blk.upd (vs := cur) hg hu hgh), by omega, hcm, hcs, ?_⟩⟩
    rw [flatI_take, ← hct, List.take_take, Nat.min_eq_left (by omega)]

theorem take_last {α : Type} {l : List α} {m : Nat} {x : α} (hm : l.length = m + 1) (hx : l[m]? = some x) : l = l.take m ++ [x] := by
  have h1 := List.take_append_drop m l
  have h2 : l.drop m = [x] := by
    apply List.ext_getElem?
    intro j
    rw [List.getElem?_drop]
    cases j with
    | zero => simpa using hx
    | succ j => simp; omega
  rw [h2] at h1
  exact h1.symm

/-- What Remove leaves, item m, the last one, in the hand: plainly. -/
theorem rem_right {l : List (Itm ByteArray)} {f : ByteArray → Option Value} {m i : Nat} {x y : Itm ByteArray} {key : ByteArray} (hh : Heapd l) (hI : Idx l f) (hN : NoTwice l) (hm : l.length = m + 1) (hy : l[i]? = some y) (hk : key = y.key) (hx : l[m]? = some x) :
    (i < m → (y :: (l.take m).set i x).Perm l ∧ WH ((l.take m).set i x) i ∧ NoTwice ((l.take m).set i x) ∧ Idx ((l.take m).set i x) (put (del f key) x.key (.int .i64 i)) ∧ (del f key x.key).isSome = true) ∧
    (i = m → (y :: l.take m).Perm l ∧ Idx (l.take m) (del f key) ∧ NoTwice (l.take m)) := by
  have hlm : (l.take m).length = m := by simp; omega
  have hl := take_last hm hx
  have hold : ∀ j, j < m → (l.take m)[j]? = l[j]? := fun j hj => by rw [List.getElem?_take, if_pos hj]
  have hlt : ∀ (j : Nat) (u : Itm ByteArray), (l.take m)[j]? = some u → j < m := fun j u hu => by have := (List.getElem?_eq_some_iff.1 hu).1; omega
  refine ⟨fun him => ?_, fun him => ?_⟩
  · have hyt : (l.take m)[i]? = some y := by rw [hold i him]; exact hy
    have hxk : x.key ≠ key := fun e => by have := hN.at hx hy (by rw [e, hk]); omega
    have hperm : (y :: (l.take m).set i x).Perm l := by
      have h1 := set_perm1 (x := x) (l.take m) i hyt
      have h2 : (x :: l.take m).Perm l := by
        have : (l.take m ++ [x]).Perm (x :: l.take m) := List.perm_append_comm
        rw [← hl] at this
        exact this.symm
      exact h1.trans h2
    have hN' := noTwice_sub hN hperm
    have gs := get_one (x := x) (l := l.take m) (i := i) (by omega)
    refine ⟨hperm, heapd_wh (heapd_take hh m) (by omega), hN', ⟨fun j u hu => ?_, fun kk => ?_⟩, ?_⟩
    · rw [gs] at hu
      by_cases hj : j = i
      · rw [if_pos hj] at hu
        cases hu
        simp [put, hj]
      · rw [if_neg hj] at hu
        have hjm := hlt j u hu
        rw [hold j hjm] at hu
        have e1 : u.key ≠ x.key := fun e => by have := hN.at hu hx e; omega
        have e2 : u.key ≠ key := fun e => by have := hN.at hu hy (by rw [e, hk]); omega
        simp only [put, if_neg e1, del, if_neg e2]
        exact hI.1 j u hu
    · constructor
      · intro hs
        by_cases e1 : kk = x.key
        · exact ⟨i, x, by rw [gs, if_pos rfl], e1.symm⟩
        · simp only [put, if_neg e1] at hs
          by_cases e2 : kk = key
          · simp [del, e2] at hs
          · simp only [del, if_neg e2] at hs
            obtain ⟨j, u, hu, hku⟩ := (hI.2 kk).1 hs
            have hjm : j ≠ m := fun e => by rw [e, hx] at hu; cases hu; exact e1 hku.symm
            have hji : j ≠ i := fun e => by rw [e, hy] at hu; cases hu; exact e2 (by rw [hk]; exact hku.symm)
            have := (List.getElem?_eq_some_iff.1 hu).1
            exact ⟨j, u, by rw [gs, if_neg hji, hold j (by omega)]; exact hu, hku⟩
      · rintro ⟨j, u, hu, hku⟩
        rw [gs] at hu
        by_cases hj : j = i
        · rw [if_pos hj] at hu
          cases hu
          simp [put, hku]
        · rw [if_neg hj] at hu
          have hjm := hlt j u hu
          rw [hold j hjm] at hu
          have e1 : kk ≠ x.key := fun e => by have := hN.at hu hx (by rw [hku, e]); omega
          have e2 : kk ≠ key := fun e => by have := hN.at hu hy (by rw [hku, e, hk]); omega
          simp only [put, if_neg e1, del, if_neg e2]
          exact (hI.2 kk).2 ⟨j, u, hu, hku⟩
    · simp only [del, if_neg hxk]
      exact (hI.2 x.key).2 ⟨m, x, hx, rfl⟩
  · subst him
    obtain rfl : x = y := by rw [hx] at hy; cases hy; rfl
    have hperm : (x :: l.take i).Perm l := by
      have : (l.take i ++ [x]).Perm (x :: l.take i) := List.perm_append_comm
      rw [← hl] at this
      exact this.symm
    refine ⟨hperm, ⟨fun j u hu => ?_, fun kk => ?_⟩, noTwice_sub hN hperm⟩
    · have hjm := hlt j u hu
      rw [hold j hjm] at hu
      have e2 : u.key ≠ key := fun e => by have := hN.at hu hy (by rw [e, hk]); omega
      simp only [del, if_neg e2]
      exact hI.1 j u hu
    · constructor
      · intro hs
        by_cases e2 : kk = key
        · simp [del, e2] at hs
        · simp only [del, if_neg e2] at hs
          obtain ⟨j, u, hu, hku⟩ := (hI.2 kk).1 hs
          have hji : j ≠ i := fun e => by rw [e, hy] at hu; cases hu; exact e2 (by rw [hk]; exact hku.symm)
          have := (List.getElem?_eq_some_iff.1 hu).1
          exact ⟨j, u, by rw [hold j (by omega)]; exact hu, hku⟩
      · rintro ⟨j, u, hu, hku⟩
        have hjm := hlt j u hu
        rw [hold j hjm] at hu
        have e2 : kk ≠ key := fun e => by have := hN.at hu hy (by rw [hku, e, hk]); omega
        simp only [del, if_neg e2]
        exact (hI.2 kk).2 ⟨j, u, hu, hku⟩

set_option maxRecDepth 100000 in
set_option maxHeartbeats 1600000 in
/-- Remove, of a key that is not there. -/
theorem rem_no {w : World} {bh bm : Nat} {v : Value} {l : List (Itm ByteArray)} {f : ByteArray → Option Value} {came : Int} {key : ByteArray}
    (h : HC w bh bm v l f came) (hkey : key.size ≤ maxLen) (hfk : f key = none) :
    Calls Try.prog 16 #[.pointer (some ⟨bh, 0, none⟩), .string key] w fun e w' => e = .returned (.bool false) ∧ w = w' := by
  have c1 : w.cell? ⟨bh, 1, none⟩ = some (.map (some bm)) := h.raw.st.cell 1 rfl
  have hrun := h.raw.mp.look Try.underlying54 (zero3 _) (a := key) hkey
  change (Instr.lookup 54 (.map (some bm)) (.string key) true).run Try.prog _ = _ at hrun
  rw [hfk] at hrun
  simp only [Option.getD_none, Option.isSome_none] at hrun
  clear hfk
  go_enter Try.func16, Try.ntmps16
  go_wp2
  go_ret
  exact ⟨rfl, rfl⟩

set_option maxRecDepth 100000 in
set_option maxHeartbeats 1600000 in
/-- Remove, of a key that is there. -/
theorem rem_yes {w : World} {bh bm : Nat} {v : Value} {l : List (Itm ByteArray)} {f : ByteArray → Option Value} {came : Int} {key : ByteArray} {i : Nat} {y : Itm ByteArray}
    (h : HC w bh bm v l f came) (hl : l.length ≤ 1000000) (hkey : key.size ≤ maxLen) (hy : l[i]? = some y) (hk : key = y.key) :
    Calls Try.prog 16 #[.pointer (some ⟨bh, 0, none⟩), .string key] w fun e w' => e = .returned (.bool true) ∧
      ∃ v' l' f', HC w' bh bm v' l' f' came ∧ (y :: l').Perm l ∧ Upd (own3 bh bm v) w w' ∧ (∀ k, v'.ownBlock = some k → v.ownBlock = some k ∨ w.heap.size ≤ k) := by
  have hi := (List.getElem?_eq_some_iff.1 hy).1
  obtain ⟨g, cap, cur, rfl, hg, hcl, hcm, hcs, hct⟩ := h.raw.open (by intro e; subst e; simp at hi)
  have c0 : w.cell? ⟨bh, 0, none⟩ = some (.slice (some ⟨g, 0, none⟩) l.length cap) := h.raw.st.cell 0 rfl
  have c1 : w.cell? ⟨bh, 1, none⟩ = some (.map (some bm)) := h.raw.st.cell 1 rfl
  have f0 := h.raw.st.frozen 0
  have hbh := h.raw.st.lt
  have hbg := hg.lt
  have hbm := h.raw.mp.lt
  have hfk : f key = some (.int .i64 i) := by rw [hk]; exact h.idx.1 i y hy
  have hrun := h.raw.mp.look Try.underlying54 (zero3 _) (a := key) hkey
  change (Instr.lookup 54 (.map (some bm)) (.string key) true).run Try.prog _ = _ at hrun
  rw [hfk] at hrun
  simp only [Option.getD_some, Option.isSome_some] at hrun
  have hgh : g ≠ bh := fun e => h.raw.hv.1 (by simp [Value.ownBlock, e])
  have hgm : g ≠ bm := fun e => h.raw.hv.2 (by simp [Value.ownBlock, e])
  have hhm := h.raw.hm
  obtain ⟨m, hm⟩ : ∃ m, l.length = m + 1 := ⟨l.length - 1, by omega⟩
  obtain ⟨x, hx⟩ : ∃ x, l[m]? = some x := ⟨l[m], List.getElem?_eq_getElem (by omega)⟩
  obtain ⟨g0, g1, g2, g3⟩ := row_cellsS hg hct hx
  obtain ⟨hT, hTu⟩ := h.raw.take (m := m) (by omega)
  have hw1 : ((l.length : Nat) : Int) - 1 = (m : Int) := by omega
  have hml : (m : Int) < (l.length : Int) := by omega
  have hcap : m ≤ cap := by omega
  have hmc : l.length ≤ cap := by omega
  have HFK := hid hfk
  have HK := hid hk
  have HY := hid hy
  have HX := hid hx
  have HM := hid hm
  clear hfk hk hy hcs hct hcm hg hx hm
  have hTa := hT.alloc (.cells #[.string x.key, .int .i64 x.one, .int .i64 x.two, .int .i64 x.came] 94)
  obtain ⟨w5, hdrun, hmd, htd⟩ := hTa.mp.drop Try.underlying54 (a := key) hkey 0
  change (Builtin.delete_ #[54, 9] 0 #[.map (some bm), .string key]).run Try.prog _ = _ at hdrun
  rw [HFK.out, Option.isSome_some, if_pos rfl, HM.out, Nat.add_sub_cancel] at hmd
  have hu5 := turned_upd htd
  have hlm : (l.take m).length = m := by simp; omega
  have H5 : HRaw SK 91 94 w5 bh bm (.slice (some ⟨g, 0, none⟩) (l.take m).length cap) (l.take m) (del f key) m came :=
    ⟨hTa.st.upd hu5 hhm, ownsRow_upd hTa.row hu5 (fun k hk e => hgm (by simp [Value.ownBlock] at hk; omega)), hmd, hhm, hTa.hv⟩
  have hb5 : Blk w5 w.heap.size #[.string x.key, .int .i64 x.one, .int .i64 x.two, .int .i64 x.came] 94 := (Blk.new' w.heap.size _ _ (by simp)).upd hu5 (by show ¬ w.heap.size = bm; omega)
  have hU5 : Upd (own3 bh bm (.slice (some ⟨g, 0, none⟩) l.length cap)) w w5 := ((hTu.mono (fun k hk => .inl (.inl hk))).alloc _).trans hu5 (fun k hk => .inl (.inr (.inl hk)))
  have b0 : w5.cell? ⟨w.heap.size, 0, none⟩ = some (.string x.key) := hb5.cell 0 rfl
  have b1 : w5.cell? ⟨w.heap.size, 1, none⟩ = some (.int .i64 x.one) := hb5.cell 1 rfl
  have b2 : w5.cell? ⟨w.heap.size, 2, none⟩ = some (.int .i64 x.two) := hb5.cell 2 rfl
  have b3 : w5.cell? ⟨w.heap.size, 3, none⟩ = some (.int .i64 x.came) := hb5.cell 3 rfl
  have hgone := rem_right h.heap h.idx h.nt HM.out HY.out HK.out HX.out
  have hok5 : ∀ y ∈ l.take m, y.key.size ≤ maxLen := fun y hy => h.ok y (List.mem_of_mem_take hy)
  have HLM := hid hlm
  clear hmd htd hu5 hT hTu hTa hb5 hlm
  by_cases him : i < m
  · obtain ⟨q1, q2, q3, q4, q5⟩ := hgone.1 him
    have HP := put_is (i := i) x H5 (by rw [HLM.out]; exact him) (by rw [HLM.out]; omega) (by omega) (h.ok x (List.mem_iff_getElem?.2 ⟨m, HX.out⟩))
    rw [q5, if_pos rfl] at HP
    have hll : ((l.take m).set i x).length = (l.take m).length := List.length_set
    have HLL := hid hll
    clear hll q5 hgone H5
    go_enter Try.func16, Try.ntmps16
    go_wp2_with fail
    refine HP.mono ?_
    rintro e w6 ⟨rfl, hr6, hu6⟩
    clear HP
    rw [← HLL.out] at hr6
    have hx' : ((l.take m).set i x)[i]? = some x := by rw [get_one (by rw [HLM.out]; exact him), if_pos rfl]
    have HS := settle_is hr6 hx' (by rw [HLL.out, HLM.out]; omega) (by omega) (mem_set_ok hok5 (h.ok x (List.mem_iff_getElem?.2 ⟨m, HX.out⟩))) q2 q3 q4
    clear hx'
    go_wp2_with fail
    refine HS.mono ?_
    rintro e w7 ⟨rfl, l', f', hr7, hperm, hheap, hidx, hu7⟩
    go_wp2
    go_ret
    have hlen : l'.length = m := by rw [hperm.length_eq, HLL.out, HLM.out]
    have hgo : ∀ k, k = g ∨ k = bm → own3 bh bm (.slice (some ⟨g, 0, none⟩) l.length cap) k ∨ w.heap.size ≤ k := by
      rintro k (rfl | rfl)
      · exact .inl (.inr (.inr rfl))
      · exact .inl (.inr (.inl rfl))
    refine ⟨rfl, _, l', f', ⟨by rw [← hlen] at hr7; exact hr7, hheap, hidx, q3.perm hperm, fun y hy => mem_set_ok hok5 (h.ok x (List.mem_iff_getElem?.2 ⟨m, HX.out⟩)) y (hperm.mem_iff.1 hy)⟩, (hperm.cons y).trans q1, (hU5.trans hu6 hgo).trans hu7 hgo, fun k hk => .inl (by simpa [Value.ownBlock] using hk)⟩
  · obtain ⟨q1, q2, q3⟩ := hgone.2 (by omega)
    clear hgone
    go_enter Try.func16, Try.ntmps16
    go_wp2_with fail
    go_ret
    refine ⟨rfl, _, l.take m, del f key, ⟨by rw [HLM.out] at H5 ⊢; exact H5, heapd_take h.heap m, q2, q3, hok5⟩, q1, hU5, fun k hk => .inl (by simpa [Value.ownBlock] using hk)⟩

end Go.Proofs.Ytalnjkeajlbbpaa

/- Walks: Heap.Len, Rank, Least, New, Pop (keys: strings). -/
namespace Go.Proofs.Ytalnjkeajlbbpaa
open Go.RowKit

set_option maxHeartbeats 800000 in
theorem len_is {w : World} {bh bm : Nat} {v : Value} {l : List (Itm ByteArray)} {f : ByteArray → Option Value} {came : Int} (h : HC w bh bm v l f came) :
    Calls Try.prog 20 #[.pointer (some ⟨bh, 0, none⟩)] w fun e w' => e = .returned (.int .i64 l.length) ∧ w = w' := by
  obtain ⟨av, cap, rfl⟩ := h.raw.slice
  have c0 : w.cell? ⟨bh, 0, none⟩ = some (.slice av l.length cap) := h.raw.st.cell 0 rfl
  go_enter Try.func20, Try.ntmps20
  go_wp2
  go_ret
  exact ⟨rfl, rfl⟩

set_option maxHeartbeats 800000 in
theorem new_is (w : World) :
    Calls Try.prog 14 #[] w fun e w' => ∃ bh bm, e = .returned (.pointer (some ⟨bh, 0, none⟩)) ∧ HC w' bh bm (.slice none 0 0) [] (fun _ => none) 0 ∧ Upd Non w w' ∧ w.heap.size ≤ bh ∧ w.heap.size ≤ bm := by
  have hmm := @run_makeMap Try.prog
  go_enter Try.func14, Try.ntmps14
  go_wp2
  go_ret
  refine ⟨w.heap.size + 1, w.heap.size, rfl, ⟨⟨Blk.new' _ _ _ (by simp), ⟨rfl, .inl ⟨rfl, rfl⟩⟩, (MapA.made SK w).alloc _, by omega, by simp [Value.ownBlock]⟩, fun j y z _ hy => by simp at hy, ⟨fun j y hy => by simp at hy, fun k => by simp⟩, List.Pairwise.nil, fun y hy => by simp at hy⟩, ((Upd.refl _ _).alloc _).alloc _, by omega, by omega⟩

set_option maxHeartbeats 800000 in
theorem rank_no {w : World} {bh bm : Nat} {v : Value} {l : List (Itm ByteArray)} {f : ByteArray → Option Value} {came : Int} {key : ByteArray} (h : HC w bh bm v l f came) (hkey : key.size ≤ maxLen) (hfk : f key = none) :
    Calls Try.prog 18 #[.pointer (some ⟨bh, 0, none⟩), .string key] w fun e w' => e = .returned (.tuple #[.agg #[.int .i64 0, .int .i64 0], .bool false]) ∧ Upd Non w w' := by
  have c1 : w.cell? ⟨bh, 1, none⟩ = some (.map (some bm)) := h.raw.st.cell 1 rfl
  have hrun := (h.raw.mp.alloc (.cells #[.int .i64 0, .int .i64 0] 24)).look Try.underlying54 (zero3 _) (a := key) hkey
  change (Instr.lookup 54 (.map (some bm)) (.string key) true).run Try.prog _ = _ at hrun
  rw [hfk] at hrun
  simp only [Option.getD_none, Option.isSome_none] at hrun
  clear hfk
  have hbh := h.raw.st.lt
  go_enter Try.func18, Try.ntmps18
  go_wp2
  refine bodyPost_ret (v := .tuple #[.agg #[.int .i64 0, .int .i64 0], .bool false]) (by simp [results, Try.results18, go_sem]) rfl ⟨rfl, ?_⟩
  exact (Upd.refl _ _).alloc _

set_option maxHeartbeats 800000 in
theorem rank_yes {w : World} {bh bm : Nat} {v : Value} {l : List (Itm ByteArray)} {f : ByteArray → Option Value} {came : Int} {key : ByteArray} {i : Nat} {y : Itm ByteArray} (h : HC w bh bm v l f came) (hl : l.length ≤ 1000000) (hkey : key.size ≤ maxLen) (hy : l[i]? = some y) (hk : key = y.key) :
    Calls Try.prog 18 #[.pointer (some ⟨bh, 0, none⟩), .string key] w fun e w' => e = .returned (.tuple #[.agg #[.int .i64 y.one, .int .i64 y.two], .bool true]) ∧ Upd Non w w' := by
  have hi := (List.getElem?_eq_some_iff.1 hy).1
  obtain ⟨g, cap, cur, rfl, hg, hcl, hcm, hcs, hct⟩ := h.raw.open (by intro e; subst e; simp at hi)
  have c0 : w.cell? ⟨bh, 0, none⟩ = some (.slice (some ⟨g, 0, none⟩) l.length cap) := h.raw.st.cell 0 rfl
  have c1 : w.cell? ⟨bh, 1, none⟩ = some (.map (some bm)) := h.raw.st.cell 1 rfl
  have hrun := (h.raw.mp.alloc (.cells #[.int .i64 0, .int .i64 0] 24)).look Try.underlying54 (zero3 _) (a := key) hkey
  change (Instr.lookup 54 (.map (some bm)) (.string key) true).run Try.prog _ = _ at hrun
  rw [show f key = some (.int .i64 i) by rw [hk]; exact h.idx.1 i y hy] at hrun
  simp only [Option.getD_some, Option.isSome_some] at hrun
  have hbh := h.raw.st.lt
  have hbg := hg.lt
  obtain ⟨g0, g1, g2, g3⟩ := row_cellsS hg hct hy
  have hi1 : (i : Int) < (l.length : Int) := by omega
  clear hk hy hcs hct hcm hg
  go_enter Try.func18, Try.ntmps18
  go_wp2
  refine bodyPost_ret (v := .tuple #[.agg #[.int .i64 y.one, .int .i64 y.two], .bool true]) (by simp [results, Try.results18, go_sem]) rfl ⟨rfl, ?_⟩
  exact (Upd.refl _ _).alloc _

set_option maxHeartbeats 800000 in
theorem least_no {w : World} {bh bm : Nat} {v : Value} {f : ByteArray → Option Value} {came : Int} (h : HC w bh bm v [] f came) :
    Calls Try.prog 49 #[.pointer (some ⟨bh, 0, none⟩)] w fun e w' => e = .returned (.tuple #[.string ⟨#[]⟩, .agg #[.int .i64 0, .int .i64 0], .bool false]) ∧ Upd Non w w' := by
  obtain ⟨av, cap, rfl⟩ := h.raw.slice
  have c0 : w.cell? ⟨bh, 0, none⟩ = some (.slice av 0 cap) := h.raw.st.cell 0 rfl
  have hbh := h.raw.st.lt
  go_enter Try.func49, Try.ntmps49
  go_wp2
  refine bodyPost_ret (v := .tuple #[.string ⟨#[]⟩, .agg #[.int .i64 0, .int .i64 0], .bool false]) (by simp [results, Try.results49, go_sem]) rfl ⟨rfl, ?_⟩
  exact (Upd.refl _ _).alloc _

set_option maxHeartbeats 800000 in
theorem least_yes {w : World} {bh bm : Nat} {v : Value} {l : List (Itm ByteArray)} {f : ByteArray → Option Value} {came : Int} {y : Itm ByteArray} (h : HC w bh bm v l f came) (hl : l.length ≤ 1000000) (hy : l[0]? = some y) :
    Calls Try.prog 49 #[.pointer (some ⟨bh, 0, none⟩)] w fun e w' => e = .returned (.tuple #[.string y.key, .agg #[.int .i64 y.one, .int .i64 y.two], .bool true]) ∧ Upd Non w w' := by
  have hi := (List.getElem?_eq_some_iff.1 hy).1
  obtain ⟨g, cap, cur, rfl, hg, hcl, hcm, hcs, hct⟩ := h.raw.open (by intro e; subst e; simp at hi)
  have c0 : w.cell? ⟨bh, 0, none⟩ = some (.slice (some ⟨g, 0, none⟩) l.length cap) := h.raw.st.cell 0 rfl
  have hbh := h.raw.st.lt
  have hbg := hg.lt
  obtain ⟨g0, g1, g2, g3⟩ := row_cellsS hg hct hy
  have g0' : w.cell? ⟨g, 0, none⟩ = some (.string y.key) := g0
  have g1' : w.cell? ⟨g, 1, none⟩ = some (.int .i64 y.one) := g1
  have g2' : w.cell? ⟨g, 2, none⟩ = some (.int .i64 y.two) := g2
  have hi1 : (0 : Int) < (l.length : Int) := by omega
  have hne : ((l.length : Int) == 0) = false := by rw [beq_eq_false_iff_ne]; omega
  clear hy hcs hct hcm hg g0 g1 g2 g3
  go_enter Try.func49, Try.ntmps49
  go_wp2
  go_region
  go_wp2
  refine bodyPost_ret (v := .tuple #[.string y.key, .agg #[.int .i64 y.one, .int .i64 y.two], .bool true]) (by simp [results, Try.results49, go_sem]) rfl ⟨rfl, ?_⟩
  exact ((Upd.refl _ _).alloc _).drew

set_option maxHeartbeats 800000 in
theorem pop_no {w : World} {bh bm : Nat} {v : Value} {f : ByteArray → Option Value} {came : Int} (h : HC w bh bm v [] f came) :
    Calls Try.prog 19 #[.pointer (some ⟨bh, 0, none⟩)] w fun e w' => e = .returned (.tuple #[.string ⟨#[]⟩, .bool false]) ∧ Upd Non w w' := by
  go_enter Try.func19, Try.ntmps19
  go_wp2_with fail
  refine (least_no h).mono ?_
  rintro e w1 ⟨rfl, hU⟩
  go_wp2_with fail
  go_ret2
  exact ⟨rfl, hU.alloc _⟩

theorem HC.non {w w' : World} {bh bm : Nat} {v : Value} {l : List (Itm ByteArray)} {f : ByteArray → Option Value} {came : Int} (h : HC w bh bm v l f came) (hu : Upd Non w w') : HC w' bh bm v l f came :=
  ⟨h.raw.non hu, h.heap, h.idx, h.nt, h.ok⟩

set_option maxHeartbeats 800000 in
theorem pop_yes {w : World} {bh bm : Nat} {v : Value} {l : List (Itm ByteArray)} {f : ByteArray → Option Value} {came : Int} {y : Itm ByteArray} (h : HC w bh bm v l f came) (hl : l.length ≤ 1000000) (hy : l[0]? = some y) :
    Calls Try.prog 19 #[.pointer (some ⟨bh, 0, none⟩)] w fun e w' => e = .returned (.tuple #[.string y.key, .bool true]) ∧
      ∃ v' l' f', HC w' bh bm v' l' f' came ∧ (y :: l').Perm l ∧ Upd (own3 bh bm v) w w' ∧ (∀ k, v'.ownBlock = some k → v.ownBlock = some k ∨ w.heap.size ≤ k) := by
  have hL := least_yes h hl hy
  have hky := h.ok y (List.mem_iff_getElem?.2 ⟨0, hy⟩)
  have HY := hid hy
  clear hy
  go_enter Try.func19, Try.ntmps19
  go_wp2_with fail
  refine hL.mono ?_
  rintro e w1 ⟨rfl, hU⟩
  have hR := rem_yes ((h.non hU).non ((Upd.refl Non w1).alloc (.cells #[.int .i64 y.one, .int .i64 y.two] 24))) hl hky HY.out rfl
  go_wp2_with fail
  refine hR.mono ?_
  rintro e w2 ⟨rfl, v', l', f', h2, hp, hu, hv⟩
  go_wp2_with fail
  go_ret2
  exact ⟨rfl, v', l', f', h2, hp, (hU.alloc _).mono (fun _ h => h.elim) |>.trans hu (fun k hk => .inl hk), fun k hk => (hv k hk).imp id (fun h => by have := hU.size; simp at h; omega)⟩

end Go.Proofs.Ytalnjkeajlbbpaa
