/- Walk: Heap.Set (keys: strings). -/
import Derived.Test.YtalnjkeajlbbpaaHeapW4
namespace Go.Proofs.Ytalnjkeajlbbpaa
open Go.RowKit

/-- A heap that stands: in memory, in order, its index right. -/
structure HC (w : World) (bh bm : Nat) (v : Value) (l : List (Itm ByteArray)) (f : ByteArray → Option Value) (came : Int) : Prop where
  raw : HRaw SK 91 94 w bh bm v l f l.length came
  heap : Heapd l
  idx : Idx l f
  nt : NoTwice l
  ok : ∀ y ∈ l, y.key.size ≤ maxLen

/-- The heap's own blocks. -/
def own3 (bh bm : Nat) (v : Value) : Nat → Prop := fun k => k = bh ∨ k = bm ∨ v.ownBlock = some k

theorem HRaw.setCame {P : Program} {kt : TypeId} {α : Type} {K : KeyT P kt α} {tH tI : TypeId} {w : World} {bh bm : Nat} {v : Value} {l : List (Itm α)} {f : α → Option Value} {n : Nat} {came : Int} (h : HRaw K tH tI w bh bm v l f n came) (c : Int) :
    HRaw K tH tI (w.setCell ⟨bh, 2, none⟩ (.int .i64 c)) bh bm v l f n c ∧ Upd (fun k => k = bh) w (w.setCell ⟨bh, 2, none⟩ (.int .i64 c)) := by
  have hu : Upd (fun k => k = bh) w (w.setCell ⟨bh, 2, none⟩ (.int .i64 c)) := (Upd.refl _ w).set1 2 _
  exact ⟨⟨h.st.set 2 _, ownsRow_upd h.row hu (fun k hk e => h.hv.1 (by rw [hk, e])), h.mp.upd hu (fun e => h.hm e.symm), h.hm, h.hv⟩, hu⟩

theorem heapd_wh {l : List (Itm ByteArray)} {i : Nat} {x : Itm ByteArray} (h : Heapd l) (hi : i < l.length) : WH (l.set i x) i := by
  have k := get_one (x := x) hi
  refine ⟨fun j y z hj hji hpi hy hz => ?_, fun j y z hj hpj h0 hy hz => ?_⟩
  · rw [k, if_neg hji] at hy
    rw [k, if_neg hpi] at hz
    exact h j y z hj hy hz
  · have hp := par_lt h0
    have hpj' := par_lt hj
    rw [k, if_neg (by omega)] at hy
    rw [k, if_neg (by omega)] at hz
    obtain ⟨u, hu⟩ : ∃ u, l[i]? = some u := ⟨l[i], List.getElem?_eq_getElem hi⟩
    exact ltI_ntrans (h j y u hj hy (by rw [hpj]; exact hu)) (h i u z h0 hu hz)

theorem set_noTwice {l : List (Itm ByteArray)} {i : Nat} {x y : Itm ByteArray} (h : NoTwice l) (hy : l[i]? = some y) (hk : x.key = y.key) : NoTwice (l.set i x) := by
  have hi := (List.getElem?_eq_some_iff.1 hy).1
  have k := get_one (x := x) hi
  have e : ∀ (j : Nat) (u : Itm ByteArray), (l.set i x)[j]? = some u → ∃ u', l[j]? = some u' ∧ u'.key = u.key := by
    intro j u hu
    rw [k] at hu
    split at hu
    · next e => cases hu; subst e; exact ⟨y, hy, hk.symm⟩
    · exact ⟨u, hu, rfl⟩
  rw [NoTwice, List.pairwise_iff_getElem]
  intro a b ha hb hab he
  obtain ⟨u, hu, hu'⟩ := e a _ (List.getElem?_eq_getElem ha)
  obtain ⟨u2, hu2, hu2'⟩ := e b _ (List.getElem?_eq_getElem hb)
  have := h.at hu hu2 (by rw [hu', hu2', he])
  omega

theorem set_idx {l : List (Itm ByteArray)} {f : ByteArray → Option Value} {i : Nat} {x y : Itm ByteArray} (h : Idx l f) (hN : NoTwice l) (hy : l[i]? = some y) (hk : x.key = y.key) : Idx (l.set i x) (put f x.key (.int .i64 i)) := by
  have hi := (List.getElem?_eq_some_iff.1 hy).1
  have k := get_one (x := x) hi
  refine idx_end hi (set_noTwice hN hy hk) ⟨fun j u hji hu => ?_, fun kk => ?_⟩
  · rw [k, if_neg hji] at hu
    exact h.1 j u hu
  · rw [h.2]
    constructor
    · rintro ⟨j, u, hu, hk'⟩
      by_cases hji : j = i
      · rw [hji, hy] at hu
        cases hu
        exact ⟨i, x, by rw [k, if_pos rfl], by rw [hk]; exact hk'⟩
      · exact ⟨j, u, by rw [k, if_neg hji]; exact hu, hk'⟩
    · rintro ⟨j, u, hu, hk'⟩
      rw [k] at hu
      split at hu
      · cases hu; exact ⟨i, y, hy, by rw [← hk]; exact hk'⟩
      · exact ⟨j, u, hu, hk'⟩

theorem mem_set_ok {l : List (Itm ByteArray)} {i : Nat} {x : Itm ByteArray} (hok : ∀ y ∈ l, y.key.size ≤ maxLen) (hx : x.key.size ≤ maxLen) : ∀ y ∈ l.set i x, y.key.size ≤ maxLen := by
  intro y hy
  rcases List.mem_or_eq_of_mem_set hy with h | h
  · exact hok y h
  · rw [h]; exact hx

set_option maxRecDepth 100000 in
set_option maxHeartbeats 1600000 in
/-- Set, of a key that is there. -/
theorem set_old {w : World} {bh bm : Nat} {v : Value} {l : List (Itm ByteArray)} {f : ByteArray → Option Value} {came r1 r2 : Int} {key : ByteArray} {i : Nat} {y : Itm ByteArray}
    (h : HC w bh bm v l f came) (hl : l.length ≤ 1000000) (hkey : key.size ≤ maxLen) (hy : l[i]? = some y) (hk : key = y.key) (hc0 : 0 ≤ came) (hc1 : came < 1000000000000) :
    Calls Try.prog 15 #[.pointer (some ⟨bh, 0, none⟩), .string key, .agg #[.int .i64 r1, .int .i64 r2]] w fun e w' => e = .returned (.tuple #[]) ∧
      ∃ v' l' f', HC w' bh bm v' l' f' (came + 1) ∧ l'.Perm (l.set i ⟨key, r1, r2, came + 1⟩) ∧ Upd (own3 bh bm v) w w' ∧ (∀ k, v'.ownBlock = some k → v.ownBlock = some k ∨ w.heap.size ≤ k) := by
  have hi := (List.getElem?_eq_some_iff.1 hy).1
  obtain ⟨g, cap, cur, rfl, hg, hcl, hcm, hcs, hct⟩ := h.raw.open (by intro e; subst e; simp at hi)
  have c0 : w.cell? ⟨bh, 0, none⟩ = some (.slice (some ⟨g, 0, none⟩) l.length cap) := h.raw.st.cell 0 rfl
  have c1 : w.cell? ⟨bh, 1, none⟩ = some (.map (some bm)) := h.raw.st.cell 1 rfl
  have c2 : w.cell? ⟨bh, 2, none⟩ = some (.int .i64 came) := h.raw.st.cell 2 rfl
  have f2 := h.raw.st.frozen 2
  have hbh := h.raw.st.lt
  have hbg := hg.lt
  have hbm := h.raw.mp.lt
  have hfk : f key = some (.int .i64 i) := by rw [hk]; exact h.idx.1 i y hy
  have hrun := (h.raw.mp.alloc (.cells #[.int .i64 r1, .int .i64 r2] 24)).look Try.underlying54 (zero3 _) (a := key) hkey
  change (Instr.lookup 54 (.map (some bm)) (.string key) true).run Try.prog _ = _ at hrun
  rw [hfk] at hrun
  simp only [Option.getD_some, Option.isSome_some] at hrun
  have hgh : g ≠ bh := fun e => h.raw.hv.1 (by simp [Value.ownBlock, e])
  have hgm : g ≠ bm := fun e => h.raw.hv.2 (by simp [Value.ownBlock, e])
  have hhm := h.raw.hm
  have HFK := hid hfk
  have HK := hid hk
  have HY := hid hy
  clear hfk hk hy hcs hct hcm hg
  go_enter Try.func15, Try.ntmps15
  go_wp2_with fail
  generalize hW : World.alloc _ _ = w1
  obtain ⟨H1, U1, B1⟩ : HRaw SK 91 94 w1 bh bm (.slice (some ⟨g, 0, none⟩) l.length cap) l f l.length (came + 1) ∧ Upd (own3 bh bm (.slice (some ⟨g, 0, none⟩) l.length cap)) w w1 ∧ Blk w1 w.heap.size #[.int .i64 r1, .int .i64 r2] 24 := by
    rw [← hW]
    have hs := h.raw.setCame (came + 1)
    exact ⟨hs.1.alloc _, (hs.2.mono (fun k hk => .inl (.inl hk))).alloc _, Blk.new' _ _ _ (by simp)⟩
  clear hW c0 c1 c2 f2 hrun
  have c2 : w1.cell? ⟨bh, 2, none⟩ = some (.int .i64 (came + 1)) := H1.st.cell 2 rfl
  have b0 : w1.cell? ⟨w.heap.size, 0, none⟩ = some (.int .i64 r1) := B1.cell 0 rfl
  have b1 : w1.cell? ⟨w.heap.size, 1, none⟩ = some (.int .i64 r2) := B1.cell 1 rfl
  have HP := put_is ⟨key, r1, r2, came + 1⟩ H1.drew hi hl hl hkey
  rw [show (f key).isSome = true by rw [HFK.out]; rfl, if_pos rfl] at HP
  refine wp_region_still_tail 9 (by kernel_rfl) (by kernel_rfl) ?_
  simp only [List.take_succ_cons, List.take_zero, List.drop_succ_cons, List.drop_zero]
  change wpStill _ _ (World.drew _) (fun a' => wpList _ _ _ _ a' (World.drew _)) _ _
  repeat still_step
  refine wpStill_nil ?_
  go_wp2_with fail
  refine HP.mono ?_
  rintro e w3 ⟨rfl, hr3, hu3⟩
  clear HP
  have hll : (l.set i ⟨key, r1, r2, came + 1⟩).length = l.length := List.length_set
  rw [← hll] at hr3
  have HLL := hid hll
  clear hll
  have hx' : (l.set i ⟨key, r1, r2, came + 1⟩)[i]? = some ⟨key, r1, r2, came + 1⟩ := by rw [get_one hi, if_pos rfl]
  have HS := settle_is hr3 hx' (by rw [HLL.out]; exact hl) (by rw [HLL.out]; exact hl) (mem_set_ok h.ok hkey) (heapd_wh h.heap hi) (set_noTwice h.nt HY.out HK.out) (set_idx h.idx h.nt HY.out HK.out)
  clear hx'
  go_wp2_with fail
  refine HS.mono ?_
  rintro e w4 ⟨rfl, l', f', hr4, hperm, hheap, hidx, hu4⟩
  go_wp2
  go_end0
  have hlen : l'.length = (l.set i ⟨key, r1, r2, came + 1⟩).length := hperm.length_eq
  refine ⟨rfl, _, l', f', ⟨by rw [hlen]; rw [← hlen]; rw [hlen] at hr4; rw [hlen]; exact hr4, hheap, hidx, (set_noTwice h.nt HY.out HK.out).perm hperm, fun y hy => mem_set_ok h.ok hkey y (hperm.mem_iff.1 hy)⟩, hperm, ?_, fun k hk => .inl (by simpa [Value.ownBlock] using hk)⟩
  exact (U1.trans hu3.drew0 (fun k hk => .inl (hk.elim (fun e => .inr (.inr (by simp [Value.ownBlock, e]))) (fun e => .inr (.inl e))))).trans hu4 (fun k hk => .inl (hk.elim (fun e => .inr (.inr (by simp [Value.ownBlock, e]))) (fun e => .inr (.inl e))))

theorem HRaw.slice {P : Program} {kt : TypeId} {α : Type} {K : KeyT P kt α} {tH tI : TypeId} {w : World} {bh bm : Nat} {v : Value} {l : List (Itm α)} {f : α → Option Value} {n : Nat} {came : Int} (h : HRaw K tH tI w bh bm v l f n came) : ∃ a cap, v = .slice a l.length cap := by
  rcases h.row.2 with ⟨rfl, h0⟩ | ⟨g, cap, cur, rfl, _⟩
  · exact ⟨none, 0, by rw [h0]⟩
  · exact ⟨_, _, rfl⟩

theorem infoI : (Try.prog.info? 94).map (fun i => (i.zero, i.size, i.bytes)) = some (some (.agg #[.string ByteArray.empty, .int .i64 0, .int .i64 0, .int .i64 0]), 4, 40) := by kernel_rfl

theorem news_blk {W : World} {b : Nat} {vs : Array Value} {T : TypeId} (h : Blk W b vs T) : ∀ (j : Nat) (u : Value), vs.toList[j]? = some u → W.cell? ((⟨b, 0, none⟩ : Addr).add j) = some u := by
  intro j u hu
  rw [Addr.add_lit, Nat.zero_add]
  exact h.cell j (by simpa using hu)

theorem zero_one : ∀ u ∈ ([.string ByteArray.empty, .int .i64 0, .int .i64 0, .int .i64 0] : List Value), u.oneCell' = true := by
  intro u hu
  simp at hu
  rcases hu with rfl | rfl <;> rfl

def zeroI : Itm ByteArray := ⟨ByteArray.empty, 0, 0, 0⟩

theorem new_right {l : List (Itm ByteArray)} {f : ByteArray → Option Value} {key : ByteArray} (hh : Heapd l) (hI : Idx l f) (hN : NoTwice l) (hf : f key = none) (r1 r2 c : Int) :
    WH (l ++ [⟨key, r1, r2, c⟩]) l.length ∧ NoTwice (l ++ [⟨key, r1, r2, c⟩]) ∧ Idx (l ++ [⟨key, r1, r2, c⟩]) (put f key (.int .i64 l.length)) := by
  have old : ∀ (j : Nat) (y : Itm ByteArray), j ≠ l.length → (l ++ [⟨key, r1, r2, c⟩])[j]? = some y → l[j]? = some y := by
    intro j y hj hy
    have hlt := (List.getElem?_eq_some_iff.1 hy).1
    simp at hlt
    rwa [List.getElem?_append_left (by omega)] at hy
  have hno : ∀ y ∈ l, y.key ≠ key := by
    intro y hy e
    obtain ⟨j, hj⟩ := List.mem_iff_getElem?.1 hy
    have := (hI.2 key).2 ⟨j, y, hj, e⟩
    rw [hf] at this
    cases this
  refine ⟨⟨fun j y z hj hji hpi hy hz => hh j y z hj (old j y hji hy) (old _ z hpi hz), fun j y z hj hpj h0 hy hz => ?_⟩, ?_, ⟨fun j y hy => ?_, fun kk => ?_⟩⟩
  · have := (List.getElem?_eq_some_iff.1 hy).1
    have := par_lt hj
    simp at *
    omega
  · rw [NoTwice, List.pairwise_append]
    exact ⟨hN, by simp, fun a ha b hb => by simp at hb; rw [hb]; exact hno a ha⟩
  · by_cases hj : j = l.length
    · rw [hj, List.getElem?_append_right (Nat.le_refl _)] at hy
      simp at hy
      rw [← hy, hj]
      simp [put]
    · have hy' := old j y hj hy
      have : y.key ≠ key := hno y (List.mem_iff_getElem?.2 ⟨j, hy'⟩)
      simp only [put, if_neg this]
      exact hI.1 j y hy'
  · unfold put
    by_cases hk : kk = key
    · rw [if_pos hk]
      simp only [Option.isSome_some, true_iff]
      exact ⟨l.length, ⟨key, r1, r2, c⟩, by simp, hk.symm⟩
    · rw [if_neg hk, hI.2]
      constructor
      · rintro ⟨j, y, hy, e⟩
        exact ⟨j, y, by rw [List.getElem?_append_left (List.getElem?_eq_some_iff.1 hy).1]; exact hy, e⟩
      · rintro ⟨j, y, hy, e⟩
        by_cases hj : j = l.length
        · rw [hj, List.getElem?_append_right (Nat.le_refl _)] at hy
          simp at hy
          rw [← hy] at e
          exact absurd e.symm hk
        · exact ⟨j, y, old j y hj hy, e⟩

/-- Behind the append: what the walk reads; the heap with one item more. -/
theorem set_new_facts {w w1 : World} {bh bm g cap cap' : Nat} {av : Option Addr} {l : List (Itm ByteArray)} {f : ByteArray → Option Value} {came r1 r2 : Int} {z : Obj}
    (h : HC w bh bm (.slice av l.length cap) l f came) (hvb : ∀ k, Value.ownBlock (.slice av l.length cap) = some k → k ≠ bh ∧ k ≠ bm ∧ k < w.heap.size)
    (hown : w1.ownsRow 0 94 4 (.slice (some ⟨g, 0, none⟩) (l.length + 1) cap') (l.length + 1) (flatI SK l ++ [.string ByteArray.empty, .int .i64 0, .int .i64 0, .int .i64 0]))
    (hgrow : ((w.alloc (.cells #[.int .i64 r1, .int .i64 r2] 24)).alloc z).grownBy w1 (Value.ownBlock (.slice av l.length cap)))
    (hat : Value.ownBlock (.slice av l.length cap) = some g ∨ g = ((w.alloc (.cells #[.int .i64 r1, .int .i64 r2] 24)).alloc z).heap.size) :
    w1.cell? ⟨bh, 0, none⟩ = some (.slice av l.length cap) ∧ w1.frozen? ⟨bh, 0, none⟩ = false ∧ w1.cell? ⟨bh, 2, none⟩ = some (.int .i64 came) ∧ w1.frozen? ⟨bh, 2, none⟩ = false ∧
    w1.cell? ⟨w.heap.size, 0, none⟩ = some (.int .i64 r1) ∧ w1.cell? ⟨w.heap.size, 1, none⟩ = some (.int .i64 r2) ∧
    Hid (HRaw SK 91 94 (w1.setCell ⟨bh, 0, none⟩ (.slice (some ⟨g, 0, none⟩) (l.length + 1) cap')) bh bm (.slice (some ⟨g, 0, none⟩) (l ++ [zeroI]).length cap') (l ++ [zeroI]) f l.length came ∧
      Upd (own3 bh bm (.slice av l.length cap)) w (w1.setCell ⟨bh, 0, none⟩ (.slice (some ⟨g, 0, none⟩) (l.length + 1) cap')) ∧ Blk (w1.setCell ⟨bh, 0, none⟩ (.slice (some ⟨g, 0, none⟩) (l.length + 1) cap')) w.heap.size #[.int .i64 r1, .int .i64 r2] 24 ∧
      (Value.ownBlock (.slice av l.length cap) = some g ∨ w.heap.size + 1 < g) ∧ bh < w.heap.size ∧ bm < w.heap.size) := by
  have hbh := h.raw.st.lt
  have hbm := h.raw.mp.lt
  have hu : Upd (fun k => Value.ownBlock (.slice av l.length cap) = some k) w w1 := (((Upd.refl _ w).alloc _).alloc _).grown hgrow (fun k hk => .inl hk)
  have hst := h.raw.st.upd hu (fun e => (hvb _ e).1 rfl)
  have hbox : Blk w1 w.heap.size #[.int .i64 r1, .int .i64 r2] 24 := ((Blk.new w _ _).alloc _).upd ((Upd.refl (fun k => Value.ownBlock (.slice av l.length cap) = some k) _).grown hgrow (fun k hk => .inl hk)) (fun e => by have := (hvb _ e).2.2; omega)
  have hg : g ≠ bh ∧ g ≠ bm ∧ (Value.ownBlock (.slice av l.length cap) = some g ∨ w.heap.size + 1 < g) := by
    rcases hat with e | e
    · exact ⟨(hvb _ e).1, (hvb _ e).2.1, .inl e⟩
    · simp at e
      exact ⟨by omega, by omega, .inr (by omega)⟩
  refine ⟨hst.cell 0 rfl, hst.frozen 0, hst.cell 2 rfl, hst.frozen 2, hbox.cell 0 rfl, hbox.cell 1 rfl, ⟨⟨by rw [show (l ++ [zeroI]).length = l.length + 1 by simp]; exact hst.set 0 _, ?_, (h.raw.mp.upd hu (fun e => (hvb _ e).2.1 rfl)).setCell (fun e => h.raw.hm e.symm) _, h.raw.hm, ?_⟩, ?_, hbox.setOther (by show w.heap.size ≠ bh; omega) _, hg.2.2, hbh, hbm⟩⟩
  · rw [flatI_append, show (l ++ [zeroI]).length = l.length + 1 by simp]
    exact ownsRow_upd hown ((Upd.refl (fun k => k = bh) w1).set1 0 _) (fun k hk e => by simp [Value.ownBlock] at hk; exact hg.1 (by rw [hk, e]))
  · simp only [Value.ownBlock]
    exact ⟨fun e => hg.1 (by simpa using e), fun e => hg.2.1 (by simpa using e)⟩
  · exact (hu.mono (fun k hk => .inl (.inr (.inr hk)))).setCell (p := ⟨bh, 0, none⟩) (.inl (.inl rfl)) _

set_option maxRecDepth 100000 in
set_option maxHeartbeats 1600000 in
/-- Set, of a key that is not there. -/
theorem set_new {w : World} {bh bm : Nat} {v : Value} {l : List (Itm ByteArray)} {f : ByteArray → Option Value} {came r1 r2 : Int} {key : ByteArray}
    (h : HC w bh bm v l f came) (hl : l.length < 1000000) (hkey : key.size ≤ maxLen) (hfk : f key = none) (hc0 : 0 ≤ came) (hc1 : came < 1000000000000) :
    Calls Try.prog 15 #[.pointer (some ⟨bh, 0, none⟩), .string key, .agg #[.int .i64 r1, .int .i64 r2]] w fun e w' => e = .returned (.tuple #[]) ∧
      ∃ v' l' f', HC w' bh bm v' l' f' (came + 1) ∧ l'.Perm (l ++ [⟨key, r1, r2, came + 1⟩]) ∧ Upd (own3 bh bm v) w w' ∧ (∀ k, v'.ownBlock = some k → v.ownBlock = some k ∨ w.heap.size ≤ k) := by
  obtain ⟨av, cap, rfl⟩ := h.raw.slice
  obtain ⟨i0, hi, hz0, hz1, hz2⟩ := info_parts infoI
  have c0 : w.cell? ⟨bh, 0, none⟩ = some (.slice av l.length cap) := h.raw.st.cell 0 rfl
  have c1 : w.cell? ⟨bh, 1, none⟩ = some (.map (some bm)) := h.raw.st.cell 1 rfl
  have hbh := h.raw.st.lt
  have hbm := h.raw.mp.lt
  have hrun := (h.raw.mp.alloc (.cells #[.int .i64 r1, .int .i64 r2] 24)).look Try.underlying54 (zero3 _) (a := key) hkey
  change (Instr.lookup 54 (.map (some bm)) (.string key) true).run Try.prog _ = _ at hrun
  rw [hfk] at hrun
  simp only [Option.getD_none, Option.isSome_none] at hrun
  have hhm := h.raw.hm
  have HFK := hid hfk
  clear hfk
  have HOWN := hid h.raw.row
  go_enter Try.func15, Try.ntmps15
  have hvb : ∀ k, Value.ownBlock (.slice av l.length cap) = some k → k ≠ bh ∧ k ≠ bm ∧ k < w.heap.size := fun k hk => ⟨fun e => h.raw.hv.1 (by rw [hk, e]), fun e => h.raw.hv.2 (by rw [hk, e]), (h.raw.row.lt k hk).2⟩
  go_wp2_with (at_builtin; refine wpList_append_some rfl (.tmp 28) (.tmp 30) 89 rfl 0 94 i0 (.agg #[.string ByteArray.empty, .int .i64 0, .int .i64 0, .int .i64 0]) 4 40 Try.underlying89 hi hz0 hz1 hz2 rfl (by decide) (.slice av l.length cap) l.length (flatI SK l) rfl ((HOWN.out.alloc _).alloc _) ⟨w.heap.size + 1, 0, none⟩ 1 1 [.string ByteArray.empty, .int .i64 0, .int .i64 0, .int .i64 0] rfl rfl (news_blk (vs := #[.string ByteArray.empty, .int .i64 0, .int .i64 0, .int .i64 0]) (Blk.new' (w.heap.size + 1) _ 94 (by simp))) zero_one (by unfold maxLen; omega) (by omega) (by simp) (by decide) ?_; intro g cap' w1 hown1 hgrow hat; obtain ⟨k0, k1, k2, k3, k4, k5, HW1⟩ := set_new_facts h hvb hown1 hgrow hat)
  generalize hW : World.setCell (World.setCell w1 _ _) _ _ = w2
  obtain ⟨H1, U1, B1, hga, -, -⟩ := HW1.out
  obtain ⟨H2, U2, B2⟩ : HRaw SK 91 94 w2 bh bm (.slice (some ⟨g, 0, none⟩) (l ++ [zeroI]).length cap') (l ++ [zeroI]) f l.length (came + 1) ∧ Upd (own3 bh bm (.slice av l.length cap)) w w2 ∧ Blk w2 w.heap.size #[.int .i64 r1, .int .i64 r2] 24 := by
    rw [← hW]
    have hs := H1.setCame (came + 1)
    exact ⟨hs.1, U1.setCell (p := ⟨bh, 2, none⟩) (.inl (.inl rfl)) _, B1.setOther (by show w.heap.size ≠ bh; omega) _⟩
  clear hW c0 c1 hrun k0 k1 k2 k3 k4 k5 H1 U1 B1 HW1 hown1 hgrow hat
  have c2 : w2.cell? ⟨bh, 2, none⟩ = some (.int .i64 (came + 1)) := H2.st.cell 2 rfl
  have b0 : w2.cell? ⟨w.heap.size, 0, none⟩ = some (.int .i64 r1) := B2.cell 0 rfl
  have b1 : w2.cell? ⟨w.heap.size, 1, none⟩ = some (.int .i64 r2) := B2.cell 1 rfl
  have HP := put_is (i := l.length) ⟨key, r1, r2, came + 1⟩ H2.drew (by simp) (by simp; omega) (by omega) hkey
  rw [show (f key).isSome = false by rw [HFK.out]; rfl, if_neg (by simp), show (l ++ [zeroI]).set l.length ⟨key, r1, r2, came + 1⟩ = l ++ [⟨key, r1, r2, came + 1⟩] by simp] at HP
  refine wp_region_still_tail 9 (by kernel_rfl) (by kernel_rfl) ?_
  simp only [List.take_succ_cons, List.take_zero, List.drop_succ_cons, List.drop_zero]
  change wpStill _ _ (World.drew _) (fun a' => wpList _ _ _ _ a' (World.drew _)) _ _
  repeat still_step
  refine wpStill_nil ?_
  go_wp2_with fail
  refine HP.mono ?_
  rintro e w3 ⟨rfl, hr3, hu3⟩
  clear HP
  obtain ⟨n1, n2, n3⟩ := new_right h.heap h.idx h.nt HFK.out r1 r2 (came + 1)
  have hr4 : HRaw SK 91 94 w3 bh bm (.slice (some ⟨g, 0, none⟩) (l ++ [(⟨key, r1, r2, came + 1⟩ : Itm ByteArray)]).length cap') (l ++ [⟨key, r1, r2, came + 1⟩]) (put f key (.int .i64 l.length)) (l.length + 1) (came + 1) := by
    rw [show (l ++ [(⟨key, r1, r2, came + 1⟩ : Itm ByteArray)]).length = (l ++ [zeroI]).length by simp]; exact hr3
  have hok' : ∀ y ∈ l ++ [(⟨key, r1, r2, came + 1⟩ : Itm ByteArray)], y.key.size ≤ maxLen := by
    intro y hy
    rcases List.mem_append.1 hy with hy | hy
    · exact h.ok y hy
    · simp at hy; rw [hy]; exact hkey
  have HS := settle_is (i := l.length) (n := l.length + 1) (x := ⟨key, r1, r2, came + 1⟩) hr4 (by simp) (by simp; omega) (by omega) hok' n1 n2 n3
  go_wp2_with fail
  refine HS.mono ?_
  rintro e w4 ⟨rfl, l', f', hr4, hperm, hheap, hidx, hu4⟩
  go_wp2
  go_end0
  have hlen : l'.length = l.length + 1 := by rw [hperm.length_eq]; simp
  have hgo : ∀ k, k = g ∨ k = bm → own3 bh bm (.slice av l.length cap) k ∨ w.heap.size ≤ k := by
    rintro k (rfl | rfl)
    · rcases hga with e | e
      · exact .inl (.inr (.inr e))
      · exact .inr (by omega)
    · exact .inl (.inr (.inl rfl))
  refine ⟨rfl, _, l', f', ⟨by rw [← hlen] at hr4; exact hr4, hheap, hidx, n2.perm hperm, fun y hy => hok' y (hperm.mem_iff.1 hy)⟩, hperm, (U2.trans hu3.drew0 hgo).trans hu4 hgo, fun k hk => ?_⟩
  simp only [Value.ownBlock, Option.some.injEq] at hk
  rw [← hk]
  rcases hga with e | e
  · exact .inl e
  · exact .inr (by omega)

end Go.Proofs.Ytalnjkeajlbbpaa
