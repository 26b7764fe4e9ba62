/- Walk: Heap.Order (keys: strings). -/
import Derived.Test.YtalnjkeajlbbpaaHeapW9
import Derived.Deep.DeepMust
namespace Go.Proofs.Ytalnjkeajlbbpaa
open Go.RowKit Go.Sort Go.Lib

def Sorted (m : List (Itm ByteArray)) : Prop := m.Pairwise (fun x y => ltI y x = false)

theorem sorted_of {d d' : Array (Itm ByteArray)} (hp : PermIn 0 d.size d d') (hs : SortedIn (ltOf cmpI) 0 d.size d') : d'.toList.Perm d.toList ∧ Sorted d'.toList ∧ d'.size = d.size := by
  obtain ⟨h1, _, h3⟩ := hp
  refine ⟨?_, ?_, h1⟩
  · rw [← h1, Array.extract_size] at h3
    rw [h1, Array.extract_size] at h3
    exact h3
  · rw [Sorted, List.pairwise_iff_getElem]
    intro i j hi hj hij
    have := hs i j (Nat.zero_le _) hij (by rw [← h1]; simpa using hj)
    rw [ltOf_cmpI] at this
    simp only [Array.length_toList] at hi hj
    rw [getElem!_pos d' i hi, getElem!_pos d' j hj] at this
    simpa using this

def keysV (m : List (Itm ByteArray)) : List Value := m.map (fun x => .string x.key)

/-- Order, behind the sort: so many keys are out. -/
structure OrdSt (w wr : World) (g : Nat) (d : Array (Itm ByteArray)) (out : Value) (j : Nat) : Prop where
  row : wr.ownsRow w.heap.size 9 1 out j (keysV (d.toList.take j))
  src : HoldsK (encI SK) 4 wr g 0 d
  upd : Upd Non w wr
  g1 : w.heap.size ≤ g
  g2 : g < wr.heap.size
  ne : out.ownBlock ≠ some g

theorem order_step {w wr : World} {g j : Nat} {d : Array (Itm ByteArray)} {out : Value} {x : Itm ByteArray} (h : OrdSt w wr g d out j) (hx : d.toList[j]? = some x) : ∀ (o1 o2 : Obj) (gg cap' : Nat) (w3 : World),
    w3.ownsRow w.heap.size 9 1 (.slice (some ⟨gg, 0, none⟩) (j + 1) cap') (j + 1) (keysV (d.toList.take j) ++ [.string x.key]) → ((wr.alloc o1).alloc o2).grownBy w3 out.ownBlock → (out.ownBlock = some gg ∨ gg = ((wr.alloc o1).alloc o2).heap.size) →
    Hid (OrdSt w w3 g d (.slice (some ⟨gg, 0, none⟩) (j + 1) cap') (j + 1)) := by
  intro o1 o2 gg cap' w3 h1 h2 h3
  have hu : Upd (fun k => out.ownBlock = some k) wr w3 := (((Upd.refl _ wr).alloc _).alloc _).grown h2 (fun k hk => .inl hk)
  have e : keysV (d.toList.take j) ++ [.string x.key] = keysV (d.toList.take (j + 1)) := by
    rw [List.take_add_one, hx]; simp [keysV]
  refine ⟨by rw [← e]; exact h1, holdsK_upd h.src h.g2 hu h.ne, h.upd.trans hu (fun k hk => .inr (h.row.lt k hk).1), h.g1, Nat.lt_of_lt_of_le h.g2 hu.size, ?_⟩
  intro e
  simp only [Value.ownBlock, Option.some.injEq] at e
  rcases h3 with h3 | h3
  · exact h.ne (by rw [h3, e])
  · have := h.g2
    simp at h3
    omega

set_option maxHeartbeats 800000 in
/-- slices.Clone, of nil. -/
theorem clone_none (w : World) :
    Calls Try.prog 52 #[.slice none 0 0] w fun e w' => e = .returned (.slice none 0 0) ∧ w = w' := by
  have hnil := Lib.run_eql_slice_nil (P := Try.prog) w 89 94 none 0 0 0 0 Try.underlying89
  go_enter Try.func52, Try.ntmps52
  go_wp2
  go_ret
  exact ⟨rfl, rfl⟩

set_option maxRecDepth 100000 in
set_option maxHeartbeats 3200000 in
theorem order_is {w : World} {bh bm : Nat} {v : Value} {l : List (Itm ByteArray)} {f : ByteArray → Option Value} {came : Int} (h : HC w bh bm v l f came) (hl : l.length ≤ 1000000) :
    Calls Try.prog 17 #[.pointer (some ⟨bh, 0, none⟩)] w fun e w' => ∃ vo m, e = .returned vo ∧ m.Perm l ∧ Sorted m ∧ w'.ownsRow w.heap.size 9 1 vo m.length (keysV m) ∧ Upd Non w w' := by
  obtain ⟨i0, hi, hz0, hz1, hz2⟩ := info_parts infoS
  obtain ⟨av, cap, rfl⟩ := h.raw.slice
  have c0 : w.cell? ⟨bh, 0, none⟩ = some (.slice av l.length cap) := h.raw.st.cell 0 rfl
  rcases h.raw.row.2 with ⟨hv, h0⟩ | ⟨g, cap', cur, hv, _, hg, hcl, hcm, hcs, hct⟩
  · obtain ⟨rfl, hcap⟩ : av = none ∧ cap = 0 := by simp at hv; exact ⟨hv.1, hv.2.2⟩
    subst hcap
    obtain rfl : l = [] := List.length_eq_zero_iff.1 h0
    have hC := clone_none w
    have hcon := fun W => AnyF.slices_SortFunc_none Try.sortS none 0 (.func (.func 54) #[] #[]) W
    change ∀ W, Calls Try.prog 53 _ _ _ at hcon
    have c0' : w.cell? ⟨bh, 0, none⟩ = some (.slice none 0 0) := c0
    have HC2 := hid hcon
    clear hcon hv h0 c0
    go_enter Try.func17, Try.ntmps17
    go_wp2_with fail
    refine hC.mono ?_
    rintro e w1 ⟨rfl, rfl⟩
    go_wp2_with fail
    refine (HC2.out _).mono ?_
    rintro e w2 ⟨rfl, rfl⟩
    go_wp2
    refine wp_loop_rounds 1 ?_
    rw [rounds_succ]
    go_wp2
    go_ret
    exact ⟨_, [], rfl, List.Perm.refl _, List.Pairwise.nil, World.ownsRow_nil _ _ _ _, Upd.refl _ _⟩
  · obtain ⟨rfl, rfl⟩ : av = some ⟨g, 0, none⟩ ∧ cap = cap' := by simpa using hv
    have hC := clone_some (cap := cap) hg hct hl
    clear hv hcs hct hcm hg
    go_enter Try.func17, Try.ntmps17
    go_wp2_with fail
    refine hC.mono ?_
    rintro e w1 ⟨g1, cap1, rfl, hown, hu1, hg1⟩
    obtain ⟨-, ⟨hx, -⟩ | ⟨g1', cap1', cur1, hx, -, hb1, hcl1, hcm1, hcs1, hct1⟩⟩ := hown
    · cases hx
    obtain ⟨rfl, rfl⟩ : g1 = g1' ∧ cap1 = cap1' := by simpa using hx
    have hK := blkK (l := l) hb1 hct1
    have hbl := Blk.lt (vs := cur1) hb1
    have eg : ∀ args w, (callFunc 54 args).run Try.prog w = .ok (.enter 54 args) w := enters_of Try.func54 (by kernel_rfl) rfl
    have hcon := AnyQ.slices_SortFunc Try.sortS 4 Try.isAgg94 Try.sizeOf94 (encI SK) (fun _ => rfl) (fun x v hv => flatI_one [x] v (by simpa [flatI] using hv)) cmpI swoI 54 #[] g1 0 cap1 l.toArray w1 eg (fun _ _ _ _ x y => cmp_grow x y _) hK hbl (by simp; omega)
    change Calls Try.prog 53 _ _ _ at hcon
    simp only [List.size_toArray] at hcon
    have HC2 := hid hcon
    have HK := hid hK
    clear hcon eg hK hb1 hct1 hcs1 hx hcl1 hcm1 hC
    go_wp2_with fail
    refine HC2.out.mono ?_
    rintro e w2 ⟨rfl, d', n, os, hp, hs, hw2⟩
    obtain ⟨m1, m2, m3⟩ := sorted_of (d := l.toArray) (by simpa using hp) (by simpa using hs)
    have HO : OrdSt w w2 g1 d' (.slice none 0 0) 0 := by
      rw [hw2]
      refine ⟨⟨by simp [keysV], .inl ⟨rfl, rfl⟩⟩, ?_, hu1.trans sortW_upd (fun k hk => .inr (by rw [hk]; exact hg1)), hg1, ?_, by simp [Value.ownBlock]⟩
      · exact holdsK_grow _ _ _ _ _ _ _ (by simpa [putRowK, putRow, mapBlock, Sort.ahead] using hbl) (holdsK_putRowK _ _ _ _ _ _ _ (holdsK_ahead _ _ _ _ _ _ _ HK.out) (by simpa using m3))
      · have := (sortW_upd (w := w1) (g := g1) (n := n) (d := d') (os := os)).size
        omega
    have hdl : d'.toList.length = l.length := by simpa using m3
    have M1 := hid m1
    have M2 := hid m2
    have M3 := hid hdl
    clear hw2 hp hs HK HC2 m1 m2 m3 hdl hu1 hbl hcl c0 h
    go_wp2
    go_loopg [4, 16] l.length (fun k s4 s16 wr => ∃ j : Nat, j ≤ l.length ∧ l.length - j ≤ k ∧ s16 = .int .i64 j ∧ OrdSt w wr g1 d' s4 j)
    case atStart => exact ⟨0, Nat.zero_le _, Nat.sub_le _ _, rfl, HO⟩
    case round =>
      clear HO
      obtain ⟨j, hj, hjk, rfl, HO⟩ := hrel
      by_cases hlt : j < l.length
      · obtain ⟨x, hx⟩ : ∃ x, d'.toList[j]? = some x := ⟨d'.toList[j]'(by rw [M3.out]; exact hlt), List.getElem?_eq_getElem _⟩
        obtain ⟨q0, q1, q2, q3⟩ := itemK HO.src hx
        have hg2 := HO.g2
        have hg3 := HO.g1
        have hwr := HO.upd.size
        have hstep := order_step HO hx
        have HX := hid hx
        clear hx
        go_wp2_with (at_builtin; refine wpList_append_some rfl (.tmp 20) (.tmp 23) 33 rfl w.heap.size 9 i0 (.string ByteArray.empty) 1 16 Try.underlying33 hi hz0 hz1 hz2 rfl (by decide) _ j (keysV (d'.toList.take j)) rfl ((HO.row.alloc _).alloc _) ⟨wr.heap.size + 1, 0, none⟩ 1 1 [.string x.key] rfl rfl (news_blk (vs := #[.string x.key]) (Blk.new' (wr.heap.size + 1) _ 9 (by simp))) (by simp [Value.oneCell']) (by unfold maxLen; omega) (by omega) (by simp; omega) (by decide) ?_; intro gg cap' w3 hown3 hgrow hat)
        have hfin := (hstep _ _ gg cap' w3 hown3 hgrow hat).out
        go_roundg (l.length - (j + 1))
        case measure => omega
        case rel => exact ⟨j + 1, by omega, Nat.le_refl _, by go_num, hfin⟩
      · obtain rfl : j = l.length := by omega
        have HO' := hid HO
        clear HO
        go_wp2
        go_ret
        have e1 : d'.toList.take l.length = d'.toList := List.take_of_length_le (by rw [M3.out]; exact Nat.le_refl _)
        refine ⟨_, d'.toList, rfl, M1.out, M2.out, ?_, HO'.out.upd⟩
        have := HO'.out.row
        rw [e1] at this
        rw [M3.out]
        exact this

end Go.Proofs.Ytalnjkeajlbbpaa
