/- Walk: Heap.Remove (keys: strings). -/
import Derived.Test.YtalnjkeajlbbpaaHeapW5
namespace Go.Proofs.Ytalnjkeajlbbpaa
open Go.RowKit

theorem set_perm1 {α : Type} {x y : α} : ∀ (D : List α) (i : Nat), D[i]? = some y → (y :: D.set i x).Perm (x :: D)
  | [], i, h => by simp at h
  | a :: D, 0, h => by simp at h; subst h; exact List.Perm.swap _ _ _
  | a :: D, i + 1, h => ((List.Perm.swap _ _ _).trans ((set_perm1 D i (by simpa using h)).cons a)).trans (List.Perm.swap _ _ _)

theorem noTwice_sub {l : List (Itm ByteArray)} {y : Itm ByteArray} {l' : List (Itm ByteArray)} (h : NoTwice l) (hp : (y :: l').Perm l) : NoTwice l' := (List.pairwise_cons.1 (h.perm hp)).2

theorem heapd_take {l : List (Itm ByteArray)} (h : Heapd l) (n : Nat) : Heapd (l.take n) := by
  intro j y z hj hy hz
  rw [List.getElem?_take] at hy hz
  have := par_lt hj
  split at hy
  · rw [if_pos (by omega)] at hz
    exact h j y z hj hy hz
  · cases hy

theorem HRaw.take {P : Program} {kt : TypeId} {α : Type} {K : KeyT P kt α} {tH tI : TypeId} {w : World} {bh bm g cap : Nat} {l : List (Itm α)} {f : α → Option Value} {n : Nat} {came : Int} (h : HRaw K tH tI w bh bm (.slice (some ⟨g, 0, none⟩) l.length cap) l f n came) {m : Nat} (hm : m ≤ l.length) :
    HRaw K tH tI (w.setCell ⟨bh, 0, none⟩ (.slice (some ⟨g, 0, none⟩) m cap)) bh bm (.slice (some ⟨g, 0, none⟩) (l.take m).length cap) (l.take m) f n came ∧ Upd (fun k => k = bh) w (w.setCell ⟨bh, 0, none⟩ (.slice (some ⟨g, 0, none⟩) m cap)) := by
  have hu : Upd (fun k => k = bh) w (w.setCell ⟨bh, 0, none⟩ (.slice (some ⟨g, 0, none⟩) m cap)) := (Upd.refl _ w).set1 0 _
  have hlen : (l.take m).length = m := by simp; omega
  have hgh : g ≠ bh := fun e => h.hv.1 (by simp [Value.ownBlock, e])
  rw [hlen]
  refine ⟨⟨h.st.set 0 _, ?_, h.mp.upd hu (fun e => h.hm e.symm), h.hm, h.hv⟩, hu⟩
  rw [hlen]
  rcases h.row.2 with ⟨h0, _⟩ | ⟨g', cap', cur, hv, hb, hg, hcl, hcm, hcs, hct⟩
  · cases h0
  · obtain ⟨rfl, rfl⟩ : g = g' ∧ cap = cap' := by simpa using hv
    refine ⟨by rw [flatI_length, hlen], .inr ⟨g, cap, cur, rfl, hb, (Blk.upd (vs := cur) hg hu hgh), by omega, hcm, hcs, ?_⟩⟩
    rw [flatI_take, ← hct, List.take_take, Nat.min_eq_left (by omega)]

theorem take_last {α : Type} {l : List α} {m : Nat} {x : α} (hm : l.length = m + 1) (hx : l[m]? = some x) : l = l.take m ++ [x] := by
  have h1 := List.take_append_drop m l
  have h2 : l.drop m = [x] := by
    apply List.ext_getElem?
    intro j
    rw [List.getElem?_drop]
    cases j with
    | zero => simpa using hx
    | succ j => simp; omega
  rw [h2] at h1
  exact h1.symm

/-- What Remove leaves, item m, the last one, in the hand: plainly. -/
theorem rem_right {l : List (Itm ByteArray)} {f : ByteArray → Option Value} {m i : Nat} {x y : Itm ByteArray} {key : ByteArray} (hh : Heapd l) (hI : Idx l f) (hN : NoTwice l) (hm : l.length = m + 1) (hy : l[i]? = some y) (hk : key = y.key) (hx : l[m]? = some x) :
    (i < m → (y :: (l.take m).set i x).Perm l ∧ WH ((l.take m).set i x) i ∧ NoTwice ((l.take m).set i x) ∧ Idx ((l.take m).set i x) (put (del f key) x.key (.int .i64 i)) ∧ (del f key x.key).isSome = true) ∧
    (i = m → (y :: l.take m).Perm l ∧ Idx (l.take m) (del f key) ∧ NoTwice (l.take m)) := by
  have hlm : (l.take m).length = m := by simp; omega
  have hl := take_last hm hx
  have hold : ∀ j, j < m → (l.take m)[j]? = l[j]? := fun j hj => by rw [List.getElem?_take, if_pos hj]
  have hlt : ∀ (j : Nat) (u : Itm ByteArray), (l.take m)[j]? = some u → j < m := fun j u hu => by have := (List.getElem?_eq_some_iff.1 hu).1; omega
  refine ⟨fun him => ?_, fun him => ?_⟩
  · have hyt : (l.take m)[i]? = some y := by rw [hold i him]; exact hy
    have hxk : x.key ≠ key := fun e => by have := hN.at hx hy (by rw [e, hk]); omega
    have hperm : (y :: (l.take m).set i x).Perm l := by
      have h1 := set_perm1 (x := x) (l.take m) i hyt
      have h2 : (x :: l.take m).Perm l := by
        have : (l.take m ++ [x]).Perm (x :: l.take m) := List.perm_append_comm
        rw [← hl] at this
        exact this.symm
      exact h1.trans h2
    have hN' := noTwice_sub hN hperm
    have gs := get_one (x := x) (l := l.take m) (i := i) (by omega)
    refine ⟨hperm, heapd_wh (heapd_take hh m) (by omega), hN', ⟨fun j u hu => ?_, fun kk => ?_⟩, ?_⟩
    · rw [gs] at hu
      by_cases hj : j = i
      · rw [if_pos hj] at hu
        cases hu
        simp [put, hj]
      · rw [if_neg hj] at hu
        have hjm := hlt j u hu
        rw [hold j hjm] at hu
        have e1 : u.key ≠ x.key := fun e => by have := hN.at hu hx e; omega
        have e2 : u.key ≠ key := fun e => by have := hN.at hu hy (by rw [e, hk]); omega
        simp only [put, if_neg e1, del, if_neg e2]
        exact hI.1 j u hu
    · constructor
      · intro hs
        by_cases e1 : kk = x.key
        · exact ⟨i, x, by rw [gs, if_pos rfl], e1.symm⟩
        · simp only [put, if_neg e1] at hs
          by_cases e2 : kk = key
          · simp [del, e2] at hs
          · simp only [del, if_neg e2] at hs
            obtain ⟨j, u, hu, hku⟩ := (hI.2 kk).1 hs
            have hjm : j ≠ m := fun e => by rw [e, hx] at hu; cases hu; exact e1 hku.symm
            have hji : j ≠ i := fun e => by rw [e, hy] at hu; cases hu; exact e2 (by rw [hk]; exact hku.symm)
            have := (List.getElem?_eq_some_iff.1 hu).1
            exact ⟨j, u, by rw [gs, if_neg hji, hold j (by omega)]; exact hu, hku⟩
      · rintro ⟨j, u, hu, hku⟩
        rw [gs] at hu
        by_cases hj : j = i
        · rw [if_pos hj] at hu
          cases hu
          simp [put, hku]
        · rw [if_neg hj] at hu
          have hjm := hlt j u hu
          rw [hold j hjm] at hu
          have e1 : kk ≠ x.key := fun e => by have := hN.at hu hx (by rw [hku, e]); omega
          have e2 : kk ≠ key := fun e => by have := hN.at hu hy (by rw [hku, e, hk]); omega
          simp only [put, if_neg e1, del, if_neg e2]
          exact (hI.2 kk).2 ⟨j, u, hu, hku⟩
    · simp only [del, if_neg hxk]
      exact (hI.2 x.key).2 ⟨m, x, hx, rfl⟩
  · subst him
    obtain rfl : x = y := by rw [hx] at hy; cases hy; rfl
    have hperm : (x :: l.take i).Perm l := by
      have : (l.take i ++ [x]).Perm (x :: l.take i) := List.perm_append_comm
      rw [← hl] at this
      exact this.symm
    refine ⟨hperm, ⟨fun j u hu => ?_, fun kk => ?_⟩, noTwice_sub hN hperm⟩
    · have hjm := hlt j u hu
      rw [hold j hjm] at hu
      have e2 : u.key ≠ key := fun e => by have := hN.at hu hy (by rw [e, hk]); omega
      simp only [del, if_neg e2]
      exact hI.1 j u hu
    · constructor
      · intro hs
        by_cases e2 : kk = key
        · simp [del, e2] at hs
        · simp only [del, if_neg e2] at hs
          obtain ⟨j, u, hu, hku⟩ := (hI.2 kk).1 hs
          have hji : j ≠ i := fun e => by rw [e, hy] at hu; cases hu; exact e2 (by rw [hk]; exact hku.symm)
          have := (List.getElem?_eq_some_iff.1 hu).1
          exact ⟨j, u, by rw [hold j (by omega)]; exact hu, hku⟩
      · rintro ⟨j, u, hu, hku⟩
        have hjm := hlt j u hu
        rw [hold j hjm] at hu
        have e2 : kk ≠ key := fun e => by have := hN.at hu hy (by rw [hku, e, hk]); omega
        simp only [del, if_neg e2]
        exact (hI.2 kk).2 ⟨j, u, hu, hku⟩

set_option maxRecDepth 100000 in
set_option maxHeartbeats 1600000 in
/-- Remove, of a key that is not there. -/
theorem rem_no {w : World} {bh bm : Nat} {v : Value} {l : List (Itm ByteArray)} {f : ByteArray → Option Value} {came : Int} {key : ByteArray}
    (h : HC w bh bm v l f came) (hkey : key.size ≤ maxLen) (hfk : f key = none) :
    Calls Try.prog 16 #[.pointer (some ⟨bh, 0, none⟩), .string key] w fun e w' => e = .returned (.bool false) ∧ w = w' := by
  have c1 : w.cell? ⟨bh, 1, none⟩ = some (.map (some bm)) := h.raw.st.cell 1 rfl
  have hrun := h.raw.mp.look Try.underlying54 (zero3 _) (a := key) hkey
  change (Instr.lookup 54 (.map (some bm)) (.string key) true).run Try.prog _ = _ at hrun
  rw [hfk] at hrun
  simp only [Option.getD_none, Option.isSome_none] at hrun
  clear hfk
  go_enter Try.func16, Try.ntmps16
  go_wp2
  go_ret
  exact ⟨rfl, rfl⟩

set_option maxRecDepth 100000 in
set_option maxHeartbeats 1600000 in
/-- Remove, of a key that is there. -/
theorem rem_yes {w : World} {bh bm : Nat} {v : Value} {l : List (Itm ByteArray)} {f : ByteArray → Option Value} {came : Int} {key : ByteArray} {i : Nat} {y : Itm ByteArray}
    (h : HC w bh bm v l f came) (hl : l.length ≤ 1000000) (hkey : key.size ≤ maxLen) (hy : l[i]? = some y) (hk : key = y.key) :
    Calls Try.prog 16 #[.pointer (some ⟨bh, 0, none⟩), .string key] w fun e w' => e = .returned (.bool true) ∧
      ∃ v' l' f', HC w' bh bm v' l' f' came ∧ (y :: l').Perm l ∧ Upd (own3 bh bm v) w w' ∧ (∀ k, v'.ownBlock = some k → v.ownBlock = some k ∨ w.heap.size ≤ k) := by
  have hi := (List.getElem?_eq_some_iff.1 hy).1
  obtain ⟨g, cap, cur, rfl, hg, hcl, hcm, hcs, hct⟩ := h.raw.open (by intro e; subst e; simp at hi)
  have c0 : w.cell? ⟨bh, 0, none⟩ = some (.slice (some ⟨g, 0, none⟩) l.length cap) := h.raw.st.cell 0 rfl
  have c1 : w.cell? ⟨bh, 1, none⟩ = some (.map (some bm)) := h.raw.st.cell 1 rfl
  have f0 := h.raw.st.frozen 0
  have hbh := h.raw.st.lt
  have hbg := hg.lt
  have hbm := h.raw.mp.lt
  have hfk : f key = some (.int .i64 i) := by rw [hk]; exact h.idx.1 i y hy
  have hrun := h.raw.mp.look Try.underlying54 (zero3 _) (a := key) hkey
  change (Instr.lookup 54 (.map (some bm)) (.string key) true).run Try.prog _ = _ at hrun
  rw [hfk] at hrun
  simp only [Option.getD_some, Option.isSome_some] at hrun
  have hgh : g ≠ bh := fun e => h.raw.hv.1 (by simp [Value.ownBlock, e])
  have hgm : g ≠ bm := fun e => h.raw.hv.2 (by simp [Value.ownBlock, e])
  have hhm := h.raw.hm
  obtain ⟨m, hm⟩ : ∃ m, l.length = m + 1 := ⟨l.length - 1, by omega⟩
  obtain ⟨x, hx⟩ : ∃ x, l[m]? = some x := ⟨l[m], List.getElem?_eq_getElem (by omega)⟩
  obtain ⟨g0, g1, g2, g3⟩ := row_cellsS hg hct hx
  obtain ⟨hT, hTu⟩ := h.raw.take (m := m) (by omega)
  have hw1 : ((l.length : Nat) : Int) - 1 = (m : Int) := by omega
  have hml : (m : Int) < (l.length : Int) := by omega
  have hcap : m ≤ cap := by omega
  have hmc : l.length ≤ cap := by omega
  have HFK := hid hfk
  have HK := hid hk
  have HY := hid hy
  have HX := hid hx
  have HM := hid hm
  clear hfk hk hy hcs hct hcm hg hx hm
  have hTa := hT.alloc (.cells #[.string x.key, .int .i64 x.one, .int .i64 x.two, .int .i64 x.came] 94)
  obtain ⟨w5, hdrun, hmd, htd⟩ := hTa.mp.drop Try.underlying54 (a := key) hkey 0
  change (Builtin.delete_ #[54, 9] 0 #[.map (some bm), .string key]).run Try.prog _ = _ at hdrun
  rw [HFK.out, Option.isSome_some, if_pos rfl, HM.out, Nat.add_sub_cancel] at hmd
  have hu5 := turned_upd htd
  have hlm : (l.take m).length = m := by simp; omega
  have H5 : HRaw SK 91 94 w5 bh bm (.slice (some ⟨g, 0, none⟩) (l.take m).length cap) (l.take m) (del f key) m came :=
    ⟨hTa.st.upd hu5 hhm, ownsRow_upd hTa.row hu5 (fun k hk e => hgm (by simp [Value.ownBlock] at hk; omega)), hmd, hhm, hTa.hv⟩
  have hb5 : Blk w5 w.heap.size #[.string x.key, .int .i64 x.one, .int .i64 x.two, .int .i64 x.came] 94 := (Blk.new' w.heap.size _ _ (by simp)).upd hu5 (by show ¬ w.heap.size = bm; omega)
  have hU5 : Upd (own3 bh bm (.slice (some ⟨g, 0, none⟩) l.length cap)) w w5 := ((hTu.mono (fun k hk => .inl (.inl hk))).alloc _).trans hu5 (fun k hk => .inl (.inr (.inl hk)))
  have b0 : w5.cell? ⟨w.heap.size, 0, none⟩ = some (.string x.key) := hb5.cell 0 rfl
  have b1 : w5.cell? ⟨w.heap.size, 1, none⟩ = some (.int .i64 x.one) := hb5.cell 1 rfl
  have b2 : w5.cell? ⟨w.heap.size, 2, none⟩ = some (.int .i64 x.two) := hb5.cell 2 rfl
  have b3 : w5.cell? ⟨w.heap.size, 3, none⟩ = some (.int .i64 x.came) := hb5.cell 3 rfl
  have hgone := rem_right h.heap h.idx h.nt HM.out HY.out HK.out HX.out
  have hok5 : ∀ y ∈ l.take m, y.key.size ≤ maxLen := fun y hy => h.ok y (List.mem_of_mem_take hy)
  have HLM := hid hlm
  clear hmd htd hu5 hT hTu hTa hb5 hlm
  by_cases him : i < m
  · obtain ⟨q1, q2, q3, q4, q5⟩ := hgone.1 him
    have HP := put_is (i := i) x H5 (by rw [HLM.out]; exact him) (by rw [HLM.out]; omega) (by omega) (h.ok x (List.mem_iff_getElem?.2 ⟨m, HX.out⟩))
    rw [q5, if_pos rfl] at HP
    have hll : ((l.take m).set i x).length = (l.take m).length := List.length_set
    have HLL := hid hll
    clear hll q5 hgone H5
    go_enter Try.func16, Try.ntmps16
    go_wp2_with fail
    refine HP.mono ?_
    rintro e w6 ⟨rfl, hr6, hu6⟩
    clear HP
    rw [← HLL.out] at hr6
    have hx' : ((l.take m).set i x)[i]? = some x := by rw [get_one (by rw [HLM.out]; exact him), if_pos rfl]
    have HS := settle_is hr6 hx' (by rw [HLL.out, HLM.out]; omega) (by omega) (mem_set_ok hok5 (h.ok x (List.mem_iff_getElem?.2 ⟨m, HX.out⟩))) q2 q3 q4
    clear hx'
    go_wp2_with fail
    refine HS.mono ?_
    rintro e w7 ⟨rfl, l', f', hr7, hperm, hheap, hidx, hu7⟩
    go_wp2
    go_ret
    have hlen : l'.length = m := by rw [hperm.length_eq, HLL.out, HLM.out]
    have hgo : ∀ k, k = g ∨ k = bm → own3 bh bm (.slice (some ⟨g, 0, none⟩) l.length cap) k ∨ w.heap.size ≤ k := by
      rintro k (rfl | rfl)
      · exact .inl (.inr (.inr rfl))
      · exact .inl (.inr (.inl rfl))
    refine ⟨rfl, _, l', f', ⟨by rw [← hlen] at hr7; exact hr7, hheap, hidx, q3.perm hperm, fun y hy => mem_set_ok hok5 (h.ok x (List.mem_iff_getElem?.2 ⟨m, HX.out⟩)) y (hperm.mem_iff.1 hy)⟩, (hperm.cons y).trans q1, (hU5.trans hu6 hgo).trans hu7 hgo, fun k hk => .inl (by simpa [Value.ownBlock] using hk)⟩
  · obtain ⟨q1, q2, q3⟩ := hgone.2 (by omega)
    clear hgone
    go_enter Try.func16, Try.ntmps16
    go_wp2_with fail
    go_ret
    refine ⟨rfl, _, l.take m, del f key, ⟨by rw [HLM.out] at H5 ⊢; exact H5, heapd_take h.heap m, q2, q3, hok5⟩, q1, hU5, fun k hk => .inl (by simpa [Value.ownBlock] using hk)⟩

end Go.Proofs.Ytalnjkeajlbbpaa
