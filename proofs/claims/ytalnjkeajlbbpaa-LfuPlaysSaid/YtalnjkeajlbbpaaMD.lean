/- Texts merged by merge.py: HeapW8, HeapW9, HeapW10, HeapS, Arr, Tie, Pop. -/
import Derived.Test.YtalnjkeajlbbpaaMC
import Derived.Test.YtalnjkeajlbbpaaSort
import Derived.Deep.DeepMust

/- Walks: ahead and Order's closure, as the sort wants them (keys: strings). -/
namespace Go.Proofs.Ytalnjkeajlbbpaa
open Go.RowKit Go.Sort

theorem less_grow (b : Bool) (a1 a2 b1 b2 : Int) (w : World) (h : Hid (ltR a1 a2 b1 b2 = b)) :
    Calls Try.prog 13 #[.agg #[.int .i64 a1, .int .i64 a2], .agg #[.int .i64 b1, .int .i64 b2]] w fun e w' => e = .returned (.bool b) ∧ ∃ os, w' = grow w os := by
  have g2 : ∀ o o' : Obj, ∃ os, (w.alloc o).alloc o' = grow w os := fun o o' => ⟨_, by rw [alloc_eq_grow, alloc_eq_grow, grow_grow]⟩
  by_cases h1 : a1 < b1
  · obtain rfl : true = b := by rw [← h.out]; simp [ltR, h1]
    clear h
    go_enter Try.func13, Try.ntmps13
    go_wp2
    go_ret
    exact ⟨rfl, g2 _ _⟩
  · by_cases h2 : a1 = b1
    · obtain rfl : decide (a2 < b2) = b := by rw [← h.out]; simp [ltR, h2]
      clear h
      subst h2
      go_enter Try.func13, Try.ntmps13
      go_wp2
      go_ret
      exact ⟨rfl, g2 _ _⟩
    · obtain rfl : false = b := by rw [← h.out]; simp [ltR, h1, h2]
      clear h
      go_enter Try.func13, Try.ntmps13
      go_wp2
      go_ret
      exact ⟨rfl, g2 _ _⟩

theorem grow_of {w w' : World} {os : Array Obj} (h : w' = grow w os) : Upd Non w w' := by rw [h]; exact ⟨rfl, rfl, rfl, by simp, fun k hk _ => heap_grow_old w os hk⟩
theorem grow_non {w : World} {os : Array Obj} : Upd Non w (grow w os) := ⟨rfl, rfl, rfl, by simp, fun k hk _ => heap_grow_old w os hk⟩

set_option maxHeartbeats 800000 in
theorem ahead_grow (k k' : ByteArray) (a1 a2 a3 b1 b2 b3 : Int) (r : Bool) (w : World) (h : Hid ((ltR a1 a2 b1 b2 || ((decide (a1 = b1) && decide (a2 = b2)) && decide (a3 < b3))) = r)) :
    Calls Try.prog 55 #[.agg #[.string k, .int .i64 a1, .int .i64 a2, .int .i64 a3], .agg #[.string k', .int .i64 b1, .int .i64 b2, .int .i64 b3]] w fun e w' => e = .returned (.bool r) ∧ ∃ os, w' = grow w os := by
  have g3 : ∀ (o o' : Obj) (os : Array Obj), ∃ os', grow ((w.alloc o).alloc o') os = grow w os' := fun o o' os => ⟨_, by rw [alloc_eq_grow, alloc_eq_grow, grow_grow, grow_grow]⟩
  have G3 := hid g3
  clear g3
  cases hL : ltR a1 a2 b1 b2 with
  | true =>
    rw [hL] at h
    have hL' := hid hL
    clear hL
    obtain rfl : true = r := h.out
    clear h
    go_enter Try.func55, Try.ntmps55
    go_wp2_with fail
    refine (less_grow true _ _ _ _ _ hL').mono ?_
    rintro e w1 ⟨rfl, os, rfl⟩
    go_wp2_with fail
    go_ret
    exact ⟨rfl, G3.out _ _ _⟩
  | false =>
    rw [hL] at h
    have hL' := hid hL
    clear hL
    by_cases he : a1 = b1 ∧ a2 = b2
    · obtain ⟨rfl, rfl⟩ := he
      obtain rfl : decide (a3 < b3) = r := by have := h.out; simpa using this
      clear h
      go_enter Try.func55, Try.ntmps55
      go_wp2_with fail
      refine (less_grow false _ _ _ _ _ hL').mono ?_
      rintro e w1 ⟨rfl, os, hw1⟩
      have hU := grow_of hw1
      obtain ⟨c0, c1, c2, c3⟩ := cells4 hU ((Blk.new w _ _).alloc _)
      obtain ⟨d0, d1, d2, d3⟩ := cells4 hU (Blk.new' (w.heap.size + 1) _ _ (by simp))
      have HW := hid hw1
      clear hU hw1
      go_wp2_with fail
      all_goals go_ret
      all_goals exact ⟨rfl, by rw [HW.out]; exact G3.out _ _ _⟩
    · obtain rfl : false = r := by
        have := h.out
        rw [← this]
        by_cases h1 : a1 = b1 <;> by_cases h2 : a2 = b2 <;> simp_all
      clear h
      have he' : (a1 == b1 && a2 == b2) = false := by
        by_cases h1 : a1 = b1 <;> by_cases h2 : a2 = b2 <;> simp_all
      go_enter Try.func55, Try.ntmps55
      go_wp2_with fail
      refine (less_grow false _ _ _ _ _ hL').mono ?_
      rintro e w1 ⟨rfl, os, hw1⟩
      have hU := grow_of hw1
      obtain ⟨c0, c1, c2, c3⟩ := cells4 hU ((Blk.new w _ _).alloc _)
      obtain ⟨d0, d1, d2, d3⟩ := cells4 hU (Blk.new' (w.heap.size + 1) _ _ (by simp))
      have HW := hid hw1
      clear hU hw1
      go_wp2_with fail
      all_goals go_ret
      all_goals exact ⟨rfl, by rw [HW.out]; exact G3.out _ _ _⟩

/-- What Order's closure answers. -/
def cmpI (x y : Itm ByteArray) : Int := if ltI x y then -1 else if ltI y x then 1 else 0

set_option maxHeartbeats 1600000 in
theorem cmp_grow (x y : Itm ByteArray) (w : World) :
    Calls Try.prog 54 #[.agg #[.string x.key, .int .i64 x.one, .int .i64 x.two, .int .i64 x.came], .agg #[.string y.key, .int .i64 y.one, .int .i64 y.two, .int .i64 y.came]] w fun e w' => e = .returned (.int .i64 (cmpI x y)) ∧ ∃ q os, w' = grow (w.drewN q) os := by
  have g3 : ∀ (o o' : Obj) (os : Array Obj), ∃ q os', grow ((w.alloc o).alloc o') os = grow (w.drewN q) os' := fun o o' os => ⟨0, _, by rw [alloc_eq_grow, alloc_eq_grow, grow_grow, grow_grow]; rfl⟩
  have G3 := hid g3
  clear g3
  have G2 : Hid (∀ (a b : Array Obj) (W : World), grow (grow W a) b = grow W (a ++ b)) := fun a b W => grow_grow W a b
  have hA := fun b W (hb : Hid (ltI x y = b)) => ahead_grow x.key y.key x.one x.two x.came y.one y.two y.came b W hb
  have hA2 := fun b W (hb : Hid (ltI y x = b)) => ahead_grow y.key x.key y.one y.two y.came x.one x.two x.came b W hb
  cases h1 : ltI x y with
  | true =>
    have e1 : Hid (cmpI x y = -1) := by simp [Hid, cmpI, h1]
    have H1 := hid h1
    clear h1
    have hA' := fun W => hA true W H1
    clear hA hA2
    go_enter Try.func54, Try.ntmps54
    go_wp2_with fail
    refine (hA' _).mono ?_
    rintro e w1 ⟨rfl, os, rfl⟩
    go_wp2_with fail
    go_ret
    exact ⟨by rw [e1.out]; rfl, G3.out _ _ _⟩
  | false =>
    have H1 := hid h1
    have hA' := fun W => hA false W H1
    cases h2 : ltI y x with
    | true =>
      have e1 : Hid (cmpI x y = 1) := by simp [Hid, cmpI, h1, h2]
      have H2 := hid h2
      clear h1 h2
      have hA2' := fun W => hA2 true W H2
      clear hA hA2
      go_enter Try.func54, Try.ntmps54
      go_wp2_with fail
      refine (hA' _).mono ?_
      rintro e w1 ⟨rfl, os, hw1⟩
      have hU := grow_of hw1
      obtain ⟨c0, c1, c2, c3⟩ := cells4 hU ((Blk.new w _ _).alloc _)
      obtain ⟨d0, d1, d2, d3⟩ := cells4 hU (Blk.new' (w.heap.size + 1) _ _ (by simp))
      have HW := hid hw1
      clear hU hw1
      go_wp2_with fail
      refine (hA2' _).mono ?_
      rintro e w2 ⟨rfl, os2, rfl⟩
      go_wp2_with fail
      go_ret
      exact ⟨by rw [e1.out]; rfl, by rw [HW.out, G2.out]; exact G3.out _ _ _⟩
    | false =>
      have e1 : Hid (cmpI x y = 0) := by simp [Hid, cmpI, h1, h2]
      have H2 := hid h2
      clear h1 h2
      have hA2' := fun W => hA2 false W H2
      clear hA hA2
      go_enter Try.func54, Try.ntmps54
      go_wp2_with fail
      refine (hA' _).mono ?_
      rintro e w1 ⟨rfl, os, hw1⟩
      have hU := grow_of hw1
      obtain ⟨c0, c1, c2, c3⟩ := cells4 hU ((Blk.new w _ _).alloc _)
      obtain ⟨d0, d1, d2, d3⟩ := cells4 hU (Blk.new' (w.heap.size + 1) _ _ (by simp))
      have HW := hid hw1
      clear hU hw1
      go_wp2_with fail
      refine (hA2' _).mono ?_
      rintro e w2 ⟨rfl, os2, rfl⟩
      go_wp2_with fail
      go_ret
      exact ⟨by rw [e1.out]; rfl, by rw [HW.out, G2.out]; exact G3.out _ _ _⟩

end Go.Proofs.Ytalnjkeajlbbpaa

/- Walks: slices.Clone at items, Heap.Order (keys: strings). -/
namespace Go.Proofs.Ytalnjkeajlbbpaa
open Go.RowKit Go.Sort Go.Lib

theorem infoS : (Try.prog.info? 9).map (fun i => (i.zero, i.size, i.bytes)) = some (some (.string ByteArray.empty), 1, 16) := by kernel_rfl

theorem flatI_one (l : List (Itm ByteArray)) : ∀ u ∈ flatI SK l, u.oneCell' = true := by
  intro u hu
  obtain ⟨x, _, hx⟩ := List.mem_flatMap.1 hu
  simp [encI] at hx
  rcases hx with rfl | rfl | rfl | rfl <;> rfl

theorem wpList_append_nn {P : Program} {w : World} {ops : Array Oper} {rest : List Oper} {o : Oper} {a : Act} {Q : Exit → Act → World → Prop} (hgd : o.guard = none) (s x : Operand) (t : TypeId)
    (ho : o.op = .call { callee := .builtin .append, args := #[s, x], argTypes := #[t, t] })
    (base : Nat) (e : TypeId) (i : TypeInfo) (z : Value) (size bytes : Nat) (ht : P.underlying t = some (.slice e)) (hi : P.info? e = some i) (hz : i.zero = some z)
    (hsize : i.size = size) (hby : i.bytes = bytes) (hzs : z.cells.size = size) (hsz : 0 < size)
    (v : Value) (n : Nat) (xs : List Value) (hs : a.eval s = v) (hown : w.ownsRow base e size v n xs)
    (ad : Addr) (m c : Nat) (news : List Value) (hx : a.eval x = .slice (some ad) m c) (hl : news.length = m * size) (hnews : ∀ j u, news[j]? = some u → w.cell? (ad.add j) = some u) (h1 : ∀ u ∈ news, u.oneCell' = true)
    (h63 : n + m ≤ maxLen) (hbytes : (n + m) * bytes ≤ 140737488355328) (hbase : base ≤ w.heap.size) (hnn : v ≠ .slice none 0 0)
    (h : ∀ g cap w', w'.ownsRow base e size (.slice (some ⟨g, 0, none⟩) (n + m) cap) (n + m) (xs ++ news) → w.grownBy w' v.ownBlock → (v.ownBlock = some g ∨ g = w.heap.size) → wpList P ops Q rest (a.put o.dst (.slice (some ⟨g, 0, none⟩) (n + m) cap)) w') :
    wpList P ops Q (o :: rest) a w := by
  refine wpList_append_own_at w hgd s x t ho base e i z size bytes ht hi hz hsize hby hzs hsz v n xs hs hown ad m c news hx hl hnews h1 h63 hbytes hbase ?_
  intro v' w' h2 h3 h4 h5
  rcases h2.2 with ⟨e0, h0⟩ | ⟨g, cap, cur, rfl, _⟩
  · exact absurd (h4.1 e0).1 hnn
  · refine h g cap w' h2 h3 ?_
    rcases h5 with h5 | h5
    · exact .inl h5.symm
    · exact .inr (by simpa [Value.ownBlock] using h5)

set_option maxHeartbeats 1600000 in
/-- slices.Clone, of a slice of items that is not nil. -/
theorem clone_some {w : World} {g cap : Nat} {cur : Array Value} {l : List (Itm ByteArray)} (hg : Blk w g cur 94) (hct : cur.toList.take (l.length * 4) = flatI SK l) (hl : l.length ≤ 1000000) :
    Calls Try.prog 52 #[.slice (some ⟨g, 0, none⟩) l.length cap] w fun e w' => ∃ g' cap', e = .returned (.slice (some ⟨g', 0, none⟩) l.length cap') ∧
      w'.ownsRow w.heap.size 94 4 (.slice (some ⟨g', 0, none⟩) l.length cap') l.length (flatI SK l) ∧ Upd Non w w' ∧ w.heap.size ≤ g' := by
  obtain ⟨i0, hi, hz0, hz1, hz2⟩ := info_parts infoI
  have hnil := Lib.run_eql_slice_nil (P := Try.prog) w 89 94 (some ⟨g, 0, none⟩) l.length cap 0 0 Try.underlying89
  have hnews : ∀ j u, (flatI SK l)[j]? = some u → (w.alloc (.cells #[] 94)).cell? ((⟨g, 0, none⟩ : Addr).add j) = some u := by
    intro j u hj
    rw [Addr.add_lit, Nat.zero_add]
    refine (hg.alloc _).cell j ?_
    rw [← hct, List.getElem?_take] at hj
    split at hj
    · simpa using hj
    · cases hj
  have h1 : ∀ u ∈ flatI SK l, u.oneCell' = true := flatI_one l
  have HN := hid hnews
  have H1 := hid h1
  clear hnews h1 hct hg
  go_enter Try.func52, Try.ntmps52
  go_wp2_with (at_builtin; refine wpList_append_nn rfl (.tmp 5) (.tmp 6) 89 rfl w.heap.size 94 i0 (.agg #[.string ByteArray.empty, .int .i64 0, .int .i64 0, .int .i64 0]) 4 40 Try.underlying89 hi hz0 hz1 hz2 rfl (by decide) (.slice (some ⟨w.heap.size, 0, none⟩) 0 0) 0 [] rfl (World.ownsRow_made w #[] 0 (Nat.le_refl _) (Nat.zero_le _) rfl) ⟨g, 0, none⟩ l.length cap (flatI SK l) rfl (flatI_length SK l) HN.out H1.out (by unfold maxLen; omega) (by omega) (by simp) (by simp) ?_; intro g' cap' w1 hown1 hgrow hat)
  go_ret
  rw [Nat.zero_add] at hown1
  have hu : Upd Non w w1 := ((Upd.refl Non w).alloc _).grown hgrow (fun k hk => .inr (by simp [Value.ownBlock] at hk; omega))
  refine ⟨g', cap', by simp, by simpa using hown1, hu, ?_⟩
  rcases hat with h | h
  · simp [Value.ownBlock] at h; omega
  · simp at h; omega

instance : Inhabited (Itm ByteArray) := ⟨zeroI⟩

theorem blkK {w : World} {g : Nat} {cur : Array Value} {l : List (Itm ByteArray)} {tI : TypeId} (hg : Blk w g cur tI) (hct : cur.toList.take (l.length * 4) = flatI SK l) : HoldsK (encI SK) 4 w g 0 l.toArray := by
  intro j hj
  rw [size_flatK] at hj
  rw [get_flatK _ _ _ _ hj]
  have hj' : j < l.length * 4 := by simpa using hj
  have hi : j / 4 < l.length := by omega
  obtain ⟨x, hx⟩ : ∃ x, l[j / 4]? = some x := ⟨l[j / 4], List.getElem?_eq_getElem hi⟩
  obtain ⟨a0, a1, a2, a3⟩ := row_cells hg hct hx
  have hx' : l.toArray[j / 4]! = x := by
    have : l.toArray[j / 4]? = some x := by simpa using hx
    rw [Array.getElem!_eq_getD, Array.getD_eq_getD_getElem?, this]; rfl
  refine ⟨?_, by rw [Nat.zero_add]; exact hg.frozen j⟩
  rw [hx', Nat.zero_add]
  show w.cell? ⟨g, j, none⟩ = some ((encI SK x)[j % 4]!)
  have h4 : j % 4 = 0 ∨ j % 4 = 1 ∨ j % 4 = 2 ∨ j % 4 = 3 := by omega
  rcases h4 with h | h | h | h
  · rw [h, show j = j / 4 * 4 by omega]; exact a0
  · rw [h, show j = j / 4 * 4 + 1 by omega]; exact a1
  · rw [h, show j = j / 4 * 4 + 2 by omega]; exact a2
  · rw [h, show j = j / 4 * 4 + 3 by omega]; exact a3

theorem sortW_upd {w : World} {g n : Nat} {d : Array (Itm ByteArray)} {os : Array Obj} : Upd (fun k => k = g) w (sortWorldK (encI SK) 4 w g 0 n d os) := by
  refine ⟨rfl, rfl, rfl, ?_, fun k hk hn => ?_⟩
  · simp [sortWorldK, grow, putRowK, putRow, mapBlock, Sort.ahead]
  · unfold sortWorldK
    rw [heap_grow_old _ _ (by simpa [putRowK, putRow, mapBlock, Sort.ahead] using hk)]
    simp only [putRowK, putRow, mapBlock, Sort.ahead, Array.getElem?_modify]
    rw [if_neg (fun e => hn e.symm)]

theorem ltOf_cmpI (x y : Itm ByteArray) : ltOf cmpI x y = ltI x y := by
  unfold ltOf cmpI
  cases h1 : ltI x y with
  | true => simp
  | false => cases h2 : ltI y x <;> simp

theorem swoI : SWO (ltOf cmpI) :=
  { irrefl := fun x => by rw [ltOf_cmpI]; exact ltI_irrefl x
    trans := fun x y z h1 h2 => by rw [ltOf_cmpI] at *; exact ltI_trans h1 h2
    ntrans := fun x y z h1 h2 => by rw [ltOf_cmpI] at *; exact ltI_ntrans h1 h2 }

theorem holdsK_upd {w w' : World} {g : Nat} {d : Array (Itm ByteArray)} {S : Nat → Prop} (h : HoldsK (encI SK) 4 w g 0 d) (hg : g < w.heap.size) (hu : Upd S w w') (hn : ¬ S g) : HoldsK (encI SK) 4 w' g 0 d := by
  intro j hj
  obtain ⟨a, b⟩ := h j hj
  exact ⟨(hu.cell (p := ⟨g, 0 + j, none⟩) hg hn).trans a, (hu.frozen (p := ⟨g, 0 + j, none⟩) hg hn).trans b⟩

theorem itemK {w : World} {g : Nat} {d : Array (Itm ByteArray)} (h : HoldsK (encI SK) 4 w g 0 d) {i : Nat} {x : Itm ByteArray} (hx : d.toList[i]? = some x) :
    w.cell? ⟨g, i * 4, none⟩ = some (.string x.key) ∧ w.cell? ⟨g, i * 4 + 1, none⟩ = some (.int .i64 x.one) ∧ w.cell? ⟨g, i * 4 + 2, none⟩ = some (.int .i64 x.two) ∧ w.cell? ⟨g, i * 4 + 3, none⟩ = some (.int .i64 x.came) := by
  have hi := (List.getElem?_eq_some_iff.1 hx).1
  have hi' : i < d.size := by simpa using hi
  have hx' : d[i]! = x := by
    have : d[i]? = some x := by simpa using hx
    rw [Array.getElem!_eq_getD, Array.getD_eq_getD_getElem?, this]; rfl
  have c0 := (h.cell hi' (c := 0) (by omega)).1
  have c1 := (h.cell hi' (c := 1) (by omega)).1
  have c2 := (h.cell hi' (c := 2) (by omega)).1
  have c3 := (h.cell hi' (c := 3) (by omega)).1
  rw [hx', Nat.zero_add] at c0 c1 c2 c3
  exact ⟨c0, c1, c2, c3⟩

end Go.Proofs.Ytalnjkeajlbbpaa

/- Walk: Heap.Order (keys: strings). -/
namespace Go.Proofs.Ytalnjkeajlbbpaa
open Go.RowKit Go.Sort Go.Lib

def Sorted (m : List (Itm ByteArray)) : Prop := m.Pairwise (fun x y => ltI y x = false)

theorem sorted_of {d d' : Array (Itm ByteArray)} (hp : PermIn 0 d.size d d') (hs : SortedIn (ltOf cmpI) 0 d.size d') : d'.toList.Perm d.toList ∧ Sorted d'.toList ∧ d'.size = d.size := by
  obtain ⟨h1, _, h3⟩ := hp
  refine ⟨?_, ?_, h1⟩
  · rw [← h1, Array.extract_size] at h3
    rw [h1, Array.extract_size] at h3
    exact h3
  · rw [Sorted, List.pairwise_iff_getElem]
    intro i j hi hj hij
    have := hs i j (Nat.zero_le _) hij (by rw [← h1]; simpa using hj)
    rw [ltOf_cmpI] at this
    simp only [Array.length_toList] at hi hj
    rw [getElem!_pos d' i hi, getElem!_pos d' j hj] at this
    simpa using this

def keysV (m : List (Itm ByteArray)) : List Value := m.map (fun x => .string x.key)

/-- Order, behind the sort: so many keys are out. -/
structure OrdSt (w wr : World) (g : Nat) (d : Array (Itm ByteArray)) (out : Value) (j : Nat) : Prop where
  row : wr.ownsRow w.heap.size 9 1 out j (keysV (d.toList.take j))
  src : HoldsK (encI SK) 4 wr g 0 d
  upd : Upd Non w wr
  g1 : w.heap.size ≤ g
  g2 : g < wr.heap.size
  ne : out.ownBlock ≠ some g

theorem order_step {w wr : World} {g j : Nat} {d : Array (Itm ByteArray)} {out : Value} {x : Itm ByteArray} (h : OrdSt w wr g d out j) (hx : d.toList[j]? = some x) : ∀ (o1 o2 : Obj) (gg cap' : Nat) (w3 : World),
    w3.ownsRow w.heap.size 9 1 (.slice (some ⟨gg, 0, none⟩) (j + 1) cap') (j + 1) (keysV (d.toList.take j) ++ [.string x.key]) → ((wr.alloc o1).alloc o2).grownBy w3 out.ownBlock → (out.ownBlock = some gg ∨ gg = ((wr.alloc o1).alloc o2).heap.size) →
    Hid (OrdSt w w3 g d (.slice (some ⟨gg, 0, none⟩) (j + 1) cap') (j + 1)) := by
  intro o1 o2 gg cap' w3 h1 h2 h3
  have hu : Upd (fun k => out.ownBlock = some k) wr w3 := (((Upd.refl _ wr).alloc _).alloc _).grown h2 (fun k hk => .inl hk)
  have e : keysV (d.toList.take j) ++ [.string x.key] = keysV (d.toList.take (j + 1)) := by
    rw [List.take_add_one, hx]; simp [keysV]
  refine ⟨by rw [← e]; exact h1, holdsK_upd h.src h.g2 hu h.ne, h.upd.trans hu (fun k hk => .inr (h.row.lt k hk).1), h.g1, Nat.lt_of_lt_of_le h.g2 hu.size, ?_⟩
  intro e
  simp only [Value.ownBlock, Option.some.injEq] at e
  rcases h3 with h3 | h3
  · exact h.ne (by rw [h3, e])
  · have := h.g2
    simp at h3
    omega

set_option maxHeartbeats 800000 in
/-- slices.Clone, of nil. -/
theorem clone_none (w : World) :
    Calls Try.prog 52 #[.slice none 0 0] w fun e w' => e = .returned (.slice none 0 0) ∧ w = w' := by
  have hnil := Lib.run_eql_slice_nil (P := Try.prog) w 89 94 none 0 0 0 0 Try.underlying89
  go_enter Try.func52, Try.ntmps52
  go_wp2
  go_ret
  exact ⟨rfl, rfl⟩

set_option maxRecDepth 100000 in
set_option maxHeartbeats 3200000 in
theorem order_is {w : World} {bh bm : Nat} {v : Value} {l : List (Itm ByteArray)} {f : ByteArray → Option Value} {came : Int} (h : HC w bh bm v l f came) (hl : l.length ≤ 1000000) :
    Calls Try.prog 17 #[.pointer (some ⟨bh, 0, none⟩)] w fun e w' => ∃ vo m, e = .returned vo ∧ m.Perm l ∧ Sorted m ∧ w'.ownsRow w.heap.size 9 1 vo m.length (keysV m) ∧ Upd Non w w' := by
  obtain ⟨i0, hi, hz0, hz1, hz2⟩ := info_parts infoS
  obtain ⟨av, cap, rfl⟩ := h.raw.slice
  have c0 : w.cell? ⟨bh, 0, none⟩ = some (.slice av l.length cap) := h.raw.st.cell 0 rfl
  rcases h.raw.row.2 with ⟨hv, h0⟩ | ⟨g, cap', cur, hv, _, hg, hcl, hcm, hcs, hct⟩
  · obtain ⟨rfl, hcap⟩ : av = none ∧ cap = 0 := by simp at hv; exact ⟨hv.1, hv.2.2⟩
    subst hcap
    obtain rfl : l = [] := List.length_eq_zero_iff.1 h0
    have hC := clone_none w
    have hcon := fun W => AnyF.slices_SortFunc_none Try.sortS none 0 (.func (.func 54) #[] #[]) W
    change ∀ W, Calls Try.prog 53 _ _ _ at hcon
    have c0' : w.cell? ⟨bh, 0, none⟩ = some (.slice none 0 0) := c0
    have HC2 := hid hcon
    clear hcon hv h0 c0
    go_enter Try.func17, Try.ntmps17
    go_wp2_with fail
    refine hC.mono ?_
    rintro e w1 ⟨rfl, rfl⟩
    go_wp2_with fail
    refine (HC2.out _).mono ?_
    rintro e w2 ⟨rfl, rfl⟩
    go_wp2
    refine wp_loop_rounds 1 ?_
    rw [rounds_succ]
    go_wp2
    go_ret
    exact ⟨_, [], rfl, List.Perm.refl _, List.Pairwise.nil, World.ownsRow_nil _ _ _ _, Upd.refl _ _⟩
  · obtain ⟨rfl, rfl⟩ : av = some ⟨g, 0, none⟩ ∧ cap = cap' := by simpa using hv
    have hC := clone_some (cap := cap) hg hct hl
    clear hv hcs hct hcm hg
    go_enter Try.func17, Try.ntmps17
    go_wp2_with fail
    refine hC.mono ?_
    rintro e w1 ⟨g1, cap1, rfl, hown, hu1, hg1⟩
    obtain ⟨-, ⟨hx, -⟩ | ⟨g1', cap1', cur1, hx, -, hb1, hcl1, hcm1, hcs1, hct1⟩⟩ := hown
    · cases hx
    obtain ⟨rfl, rfl⟩ : g1 = g1' ∧ cap1 = cap1' := by simpa using hx
    have hK := blkK (l := l) hb1 hct1
    have hbl := Blk.lt (vs := cur1) hb1
    have eg : ∀ args w, (callFunc 54 args).run Try.prog w = .ok (.enter 54 args) w := enters_of Try.func54 (by kernel_rfl) rfl
    have hcon := AnyQ.slices_SortFunc Try.sortS 4 Try.isAgg94 Try.sizeOf94 (encI SK) (fun _ => rfl) (fun x v hv => flatI_one [x] v (by simpa [flatI] using hv)) cmpI swoI 54 #[] g1 0 cap1 l.toArray w1 eg (fun _ _ _ _ x y => cmp_grow x y _) hK hbl (by simp; omega)
    change Calls Try.prog 53 _ _ _ at hcon
    simp only [List.size_toArray] at hcon
    have HC2 := hid hcon
    have HK := hid hK
    clear hcon eg hK hb1 hct1 hcs1 hx hcl1 hcm1 hC
    go_wp2_with fail
    refine HC2.out.mono ?_
    rintro e w2 ⟨rfl, d', n, os, hp, hs, hw2⟩
    obtain ⟨m1, m2, m3⟩ := sorted_of (d := l.toArray) (by simpa using hp) (by simpa using hs)
    have HO : OrdSt w w2 g1 d' (.slice none 0 0) 0 := by
      rw [hw2]
      refine ⟨⟨by simp [keysV], .inl ⟨rfl, rfl⟩⟩, ?_, hu1.trans sortW_upd (fun k hk => .inr (by rw [hk]; exact hg1)), hg1, ?_, by simp [Value.ownBlock]⟩
      · exact holdsK_grow _ _ _ _ _ _ _ (by simpa [putRowK, putRow, mapBlock, Sort.ahead] using hbl) (holdsK_putRowK _ _ _ _ _ _ _ (holdsK_ahead _ _ _ _ _ _ _ HK.out) (by simpa using m3))
      · have := (sortW_upd (w := w1) (g := g1) (n := n) (d := d') (os := os)).size
        omega
    have hdl : d'.toList.length = l.length := by simpa using m3
    have M1 := hid m1
    have M2 := hid m2
    have M3 := hid hdl
    clear hw2 hp hs HK HC2 m1 m2 m3 hdl hu1 hbl hcl c0 h
    go_wp2
    go_loopg [4, 16] l.length (fun k s4 s16 wr => ∃ j : Nat, j ≤ l.length ∧ l.length - j ≤ k ∧ s16 = .int .i64 j ∧ OrdSt w wr g1 d' s4 j)
    case atStart => exact ⟨0, Nat.zero_le _, Nat.sub_le _ _, rfl, HO⟩
    case round =>
      clear HO
      obtain ⟨j, hj, hjk, rfl, HO⟩ := hrel
      by_cases hlt : j < l.length
      · obtain ⟨x, hx⟩ : ∃ x, d'.toList[j]? = some x := ⟨d'.toList[j]'(by rw [M3.out]; exact hlt), List.getElem?_eq_getElem _⟩
        obtain ⟨q0, q1, q2, q3⟩ := itemK HO.src hx
        have hg2 := HO.g2
        have hg3 := HO.g1
        have hwr := HO.upd.size
        have hstep := order_step HO hx
        have HX := hid hx
        clear hx
        go_wp2_with (at_builtin; refine wpList_append_some rfl (.tmp 20) (.tmp 23) 33 rfl w.heap.size 9 i0 (.string ByteArray.empty) 1 16 Try.underlying33 hi hz0 hz1 hz2 rfl (by decide) _ j (keysV (d'.toList.take j)) rfl ((HO.row.alloc _).alloc _) ⟨wr.heap.size + 1, 0, none⟩ 1 1 [.string x.key] rfl rfl (news_blk (vs := #[.string x.key]) (Blk.new' (wr.heap.size + 1) _ 9 (by simp))) (by simp [Value.oneCell']) (by unfold maxLen; omega) (by omega) (by simp; omega) (by decide) ?_; intro gg cap' w3 hown3 hgrow hat)
        have hfin := (hstep _ _ gg cap' w3 hown3 hgrow hat).out
        go_roundg (l.length - (j + 1))
        case measure => omega
        case rel => exact ⟨j + 1, by omega, Nat.le_refl _, by go_num, hfin⟩
      · obtain rfl : j = l.length := by omega
        have HO' := hid HO
        clear HO
        go_wp2
        go_ret
        have e1 : d'.toList.take l.length = d'.toList := List.take_of_length_le (by rw [M3.out]; exact Nat.le_refl _)
        refine ⟨_, d'.toList, rfl, M1.out, M2.out, ?_, HO'.out.upd⟩
        have := HO'.out.row
        rw [e1] at this
        rw [M3.out]
        exact this

end Go.Proofs.Ytalnjkeajlbbpaa

/- The heap's contracts, told by the sorted list of its items (keys: strings). -/
namespace Go.Proofs.Ytalnjkeajlbbpaa
open Go.RowKit

section plain
variable {α : Type} [DecidableEq α]

def SortedS (m : List (Itm α)) : Prop := m.Pairwise (fun x y => ltI x y = true)

def insI (x : Itm α) : List (Itm α) → List (Itm α)
  | [] => [x]
  | y :: r => if ltI x y then x :: y :: r else y :: insI x r

def remM (m : List (Itm α)) (k : α) : List (Itm α) := m.filter (fun y => decide (y.key ≠ k))
def setM (m : List (Itm α)) (k : α) (a b c : Int) : List (Itm α) := insI ⟨k, a, b, c⟩ (remM m k)
def findM (m : List (Itm α)) (k : α) : Option (Itm α) := m.find? (fun y => decide (y.key = k))

omit [DecidableEq α] in
theorem insI_perm (x : Itm α) : ∀ m : List (Itm α), (insI x m).Perm (x :: m)
  | [] => List.Perm.refl _
  | y :: r => by
    unfold insI
    split
    · exact List.Perm.refl _
    · exact ((insI_perm x r).cons y).trans (List.Perm.swap _ _ _)

omit [DecidableEq α] in
theorem insI_sorted (x : Itm α) : ∀ m : List (Itm α), SortedS m → (∀ y ∈ m, y.came ≠ x.came) → SortedS (insI x m)
  | [], _, _ => List.pairwise_singleton _ _
  | y :: r, h, hc => by
    obtain ⟨h1, h2⟩ := List.pairwise_cons.1 h
    unfold insI
    split
    · next hx => exact List.pairwise_cons.2 ⟨fun z hz => by
        rcases List.mem_cons.1 hz with rfl | hz
        · exact hx
        · exact ltI_trans hx (h1 z hz), h⟩
    · next hx =>
      have hyx : ltI y x = true := by
        cases e : ltI y x with
        | true => rfl
        | false => exact absurd (ltI_eq e (by simpa using hx)).2.2 (hc y (by simp))
      exact List.pairwise_cons.2 ⟨fun z hz => by
        rcases List.mem_cons.1 ((insI_perm x r).mem_iff.1 hz) with rfl | hz
        · exact hyx
        · exact h1 z hz, insI_sorted x r h2 (fun z hz => hc z (by simp [hz]))⟩

omit [DecidableEq α] in
theorem sortedS_unique : ∀ {a b : List (Itm α)}, SortedS a → SortedS b → a.Perm b → a = b
  | [], b, _, _, hp => (List.nil_perm.1 hp).symm
  | x :: a, [], _, _, hp => absurd hp.length_eq (by simp)
  | x :: a, y :: b, ha, hb, hp => by
    obtain ⟨a1, a2⟩ := List.pairwise_cons.1 ha
    obtain ⟨b1, b2⟩ := List.pairwise_cons.1 hb
    have hxy : x = y := by
      rcases List.mem_cons.1 (hp.mem_iff.1 (List.mem_cons_self (a := x) (l := a))) with h | h
      · exact h
      · rcases List.mem_cons.1 (hp.mem_iff.2 (List.mem_cons_self (a := y) (l := b))) with h' | h'
        · exact h'.symm
        · have := ltI_asymm (b1 x h)
          rw [a1 y h'] at this
          cases this
    subst hxy
    rw [sortedS_unique a2 b2 hp.cons_inv]

theorem filter_one : ∀ (l : List (Itm α)) (y : Itm α), NoTwice l → y ∈ l → l.Perm (y :: remM l y.key)
  | [], y, _, h => by simp at h
  | z :: l, y, hN, h => by
    obtain ⟨h1, h2⟩ := List.pairwise_cons.1 hN
    rcases List.mem_cons.1 h with rfl | h
    · have : remM (y :: l) y.key = l := by
        unfold remM
        rw [List.filter_cons_of_neg (by simp), List.filter_eq_self]
        intro u hu
        simpa using (h1 u hu).symm
      rw [this]
    · have : remM (z :: l) y.key = z :: remM l y.key := by
        unfold remM
        rw [List.filter_cons_of_pos (by simpa using h1 y h)]
      rw [this]
      exact ((filter_one l y h2 h).cons z).trans (List.Perm.swap _ _ _)

theorem remM_none {m : List (Itm α)} {k : α} (h : ∀ y ∈ m, y.key ≠ k) : remM m k = m := by
  unfold remM
  rw [List.filter_eq_self]
  intro u hu
  simpa using h u hu

omit [DecidableEq α] in
theorem sortedS_sub {m m' : List (Itm α)} (h : SortedS m) (hs : m'.Sublist m) : SortedS m' := List.Pairwise.sublist hs h
theorem remM_sub (m : List (Itm α)) (k : α) : (remM m k).Sublist m := List.filter_sublist

theorem findM_some {m : List (Itm α)} {k : α} {y : Itm α} (hN : NoTwice m) (hy : y ∈ m) (hk : y.key = k) : findM m k = some y := by
  unfold findM
  induction m with
  | nil => simp at hy
  | cons z m ih =>
    obtain ⟨h1, h2⟩ := List.pairwise_cons.1 hN
    rcases List.mem_cons.1 hy with rfl | hy
    · simp [hk]
    · have : z.key ≠ k := by rw [← hk]; exact h1 y hy
      rw [List.find?_cons_of_neg (by simpa using this)]
      exact ih h2 hy
theorem findM_none {m : List (Itm α)} {k : α} (h : ∀ y ∈ m, y.key ≠ k) : findM m k = none := by
  unfold findM
  rw [List.find?_eq_none]
  intro y hy
  simpa using h y hy
theorem findM_mem {m : List (Itm α)} {k : α} {y : Itm α} (h : findM m k = some y) : y ∈ m ∧ y.key = k :=
  ⟨List.mem_of_find?_eq_some h, by simpa using List.find?_some h⟩
theorem findM_no {m : List (Itm α)} {k : α} (h : findM m k = none) : ∀ y ∈ m, y.key ≠ k := by
  intro y hy
  simpa using List.find?_eq_none.1 h y hy
end plain

/-- The heap at bh holds the items m, in their order; F: its blocks. -/
def HR (w : World) (bh : Nat) (F : Nat → Prop) (m : List (Itm ByteArray)) (came : Int) : Prop :=
  ∃ bm v l f, HC w bh bm v l f came ∧ l.Perm m ∧ SortedS m ∧ (∀ y ∈ m, y.came ≤ came) ∧ ∀ k, own3 bh bm v k ↔ F k

theorem HR.upd {w w' : World} {bh : Nat} {F S : Nat → Prop} {m : List (Itm ByteArray)} {came : Int} (h : HR w bh F m came) (hu : Upd S w w') (hs : ∀ k, F k → ¬ S k) : HR w' bh F m came := by
  obtain ⟨bm, v, l, f, hc, r1, r2, r3, hF⟩ := h
  exact ⟨bm, v, l, f, ⟨hc.raw.upd hu (hs _ ((hF _).1 (.inl rfl))) (hs _ ((hF _).1 (.inr (.inl rfl)))) (fun k hk => hs _ ((hF _).1 (.inr (.inr hk)))), hc.heap, hc.idx, hc.nt, hc.ok⟩, r1, r2, r3, hF⟩
theorem HR.non {w w' : World} {bh : Nat} {F : Nat → Prop} {m : List (Itm ByteArray)} {came : Int} (h : HR w bh F m came) (hu : Upd Non w w') : HR w' bh F m came := h.upd hu (fun _ _ => id)
theorem HR.lt {w : World} {bh : Nat} {F : Nat → Prop} {m : List (Itm ByteArray)} {came : Int} (h : HR w bh F m came) : ∀ k, F k → k < w.heap.size := by
  obtain ⟨bm, v, l, f, hc, r1, r2, r3, hF⟩ := h
  intro k hk
  rcases (hF k).2 hk with rfl | rfl | hk
  · exact hc.raw.st.lt
  · exact hc.raw.mp.lt
  · exact (hc.raw.row.lt k hk).2
theorem HR.nt {w : World} {bh : Nat} {F : Nat → Prop} {m : List (Itm ByteArray)} {came : Int} (h : HR w bh F m came) : NoTwice m := by
  obtain ⟨bm, v, l, f, hc, r1, _⟩ := h
  exact hc.nt.perm r1.symm
theorem HR.sorted {w : World} {bh : Nat} {F : Nat → Prop} {m : List (Itm ByteArray)} {came : Int} (h : HR w bh F m came) : SortedS m := by
  obtain ⟨bm, v, l, f, hc, r1, r2, _⟩ := h
  exact r2
theorem HR.came {w : World} {bh : Nat} {F : Nat → Prop} {m : List (Itm ByteArray)} {came : Int} (h : HR w bh F m came) : ∀ y ∈ m, y.came ≤ came := by
  obtain ⟨bm, v, l, f, hc, r1, r2, r3, _⟩ := h
  exact r3
theorem HR.ok {w : World} {bh : Nat} {F : Nat → Prop} {m : List (Itm ByteArray)} {came : Int} (h : HR w bh F m came) : ∀ y ∈ m, y.key.size ≤ maxLen := by
  obtain ⟨bm, v, l, f, hc, r1, _⟩ := h
  exact fun y hy => hc.ok y (r1.mem_iff.2 hy)
theorem HR.in {w : World} {bh : Nat} {F : Nat → Prop} {m : List (Itm ByteArray)} {came : Int} (h : HR w bh F m came) : F bh := by
  obtain ⟨bm, v, l, f, hc, r1, r2, r3, hF⟩ := h
  exact (hF bh).1 (.inl rfl)

/-- F' is F, but for blocks made since. -/
def Within (w : World) (F F' : Nat → Prop) : Prop := ∀ k, F' k → F k ∨ w.heap.size ≤ k

theorem within_own {w : World} {bh bm : Nat} {v v' : Value} {F : Nat → Prop} (hF : ∀ k, own3 bh bm v k ↔ F k) (hv : ∀ k, v'.ownBlock = some k → v.ownBlock = some k ∨ w.heap.size ≤ k) : Within w F (own3 bh bm v') := by
  intro k hk
  rcases hk with rfl | rfl | hk
  · exact .inl ((hF _).1 (.inl rfl))
  · exact .inl ((hF _).1 (.inr (.inl rfl)))
  · rcases hv k hk with h | h
    · exact .inl ((hF _).1 (.inr (.inr h)))
    · exact .inr h

theorem own_upd {w w' : World} {bh bm : Nat} {v : Value} {F : Nat → Prop} (hF : ∀ k, own3 bh bm v k ↔ F k) (h : Upd (own3 bh bm v) w w') : Upd F w w' := h.mono (fun k hk => .inl ((hF k).1 hk))

theorem Within.no {w : World} {F F' : Nat → Prop} {b : Nat} (h : Within w F F') (hb : ¬ F b) (hl : b < w.heap.size) : ¬ F' b := fun h' => (h b h').elim hb (fun h => by omega)
theorem Within.refl (w : World) (F : Nat → Prop) : Within w F F := fun _ h => .inl h

/-- A heap of the call's own, since w0. -/
structure Own (w0 w : World) (bh : Nat) (F : Nat → Prop) (m : List (Itm ByteArray)) (came : Int) : Prop where
  hr : HR w bh F m came
  upd : Upd Non w0 w
  fresh : ∀ k, F k → w0.heap.size ≤ k

theorem Own.step {w0 w w' : World} {bh : Nat} {F F' : Nat → Prop} {m m' : List (Itm ByteArray)} {c c' : Int} (h : Own w0 w bh F m c) (h' : HR w' bh F' m' c') (u : Upd F w w') (q : Within w F F') : Own w0 w' bh F' m' c' :=
  ⟨h', h.upd.trans u (fun k hk => .inr (h.fresh k hk)), fun k hk => (q k hk).elim (h.fresh k) (fun e => by have := h.upd.size; omega)⟩
theorem Own.non {w0 w w' : World} {bh : Nat} {F : Nat → Prop} {m : List (Itm ByteArray)} {c : Int} (h : Own w0 w bh F m c) (u : Upd Non w w') : Own w0 w' bh F m c := ⟨h.hr.non u, h.upd.trans u (fun _ h => h.elim), h.fresh⟩
/-- Something else of the call's own is written. -/
theorem Own.other {w0 w w' : World} {bh : Nat} {F S : Nat → Prop} {m : List (Itm ByteArray)} {c : Int} (h : Own w0 w bh F m c) (u : Upd S w w') (hs : ∀ k, F k → ¬ S k) (hf : ∀ k, S k → w0.heap.size ≤ k) : Own w0 w' bh F m c :=
  ⟨h.hr.upd u hs, h.upd.trans u (fun k hk => .inr (hf k hk)), h.fresh⟩

theorem new_hr (w : World) :
    Calls Try.prog 14 #[] w fun e w' => ∃ bh F, e = .returned (.pointer (some ⟨bh, 0, none⟩)) ∧ HR w' bh F [] 0 ∧ Upd Non w w' ∧ (∀ k, F k → w.heap.size ≤ k) :=
  (new_is w).mono fun e w' ⟨bh, bm, he, hc, hu, h1, h2⟩ => ⟨bh, own3 bh bm (.slice none 0 0), he, ⟨bm, _, [], _, hc, List.Perm.refl _, List.Pairwise.nil, fun y hy => by simp at hy, fun _ => Iff.rfl⟩, hu, fun k hk => by
    rcases hk with rfl | rfl | hk
    · exact h1
    · exact h2
    · simp [Value.ownBlock] at hk⟩

theorem set_hr {w : World} {bh : Nat} {F : Nat → Prop} {m : List (Itm ByteArray)} {came : Int} (h : HR w bh F m came) (hl : m.length < 1000000) (h0 : 0 ≤ came) (h1 : came < 1000000000000) {key : ByteArray} (hk : key.size ≤ maxLen) (r1 r2 : Int) :
    Calls Try.prog 15 #[.pointer (some ⟨bh, 0, none⟩), .string key, .agg #[.int .i64 r1, .int .i64 r2]] w fun e w' => e = .returned (.tuple #[]) ∧
      ∃ F', HR w' bh F' (setM m key r1 r2 (came + 1)) (came + 1) ∧ Upd F w w' ∧ Within w F F' := by
  obtain ⟨bm, v, l, f, hc, p1, p2, p3, hF⟩ := h
  have hll : l.length = m.length := p1.length_eq
  have hsort : ∀ l' : List (Itm ByteArray), l'.Perm (⟨key, r1, r2, came + 1⟩ :: remM m key) → l'.Perm (setM m key r1 r2 (came + 1)) := fun l' hp => hp.trans (insI_perm _ _).symm
  have hS : SortedS (setM m key r1 r2 (came + 1)) := insI_sorted _ _ (sortedS_sub p2 (remM_sub _ _)) (fun y hy => by have := p3 y ((remM_sub m key).mem hy); show y.came ≠ came + 1; omega)
  have hcm : ∀ y ∈ setM m key r1 r2 (came + 1), y.came ≤ came + 1 := by
    intro y hy
    rcases List.mem_cons.1 ((insI_perm _ _).mem_iff.1 hy) with rfl | hy
    · exact Int.le_refl _
    · have := p3 y ((remM_sub m key).mem hy); omega
  cases hf : f key with
  | none =>
    refine (set_new hc (by omega) hk hf h0 h1 (r1 := r1) (r2 := r2)).mono fun e w' ⟨he, v', l', f', hc', hp, hu, hv⟩ => ⟨he, _, ⟨bm, v', l', f', hc', hsort l' ?_, hS, hcm, fun _ => Iff.rfl⟩, own_upd hF hu, within_own hF hv⟩
    have hno : ∀ y ∈ m, y.key ≠ key := by
      intro y hy e
      obtain ⟨j, hj⟩ := List.mem_iff_getElem?.1 (p1.mem_iff.2 hy)
      have := (hc.idx.2 key).2 ⟨j, y, hj, e⟩
      rw [hf] at this
      cases this
    rw [remM_none hno]
    exact hp.trans ((List.perm_append_comm (l₁ := l) (l₂ := [_])).trans (p1.cons _))
  | some u =>
    obtain ⟨i, y, hy, hky⟩ := (hc.idx.2 key).1 (by rw [hf]; rfl)
    refine (set_old hc (by omega) hk hy hky.symm h0 h1 (r1 := r1) (r2 := r2)).mono fun e w' ⟨he, v', l', f', hc', hp, hu, hv⟩ => ⟨he, _, ⟨bm, v', l', f', hc', hsort l' (hp.trans ?_), hS, hcm, fun _ => Iff.rfl⟩, own_upd hF hu, within_own hF hv⟩
    have q1 := set_perm1 (x := (⟨key, r1, r2, came + 1⟩ : Itm ByteArray)) l i hy
    have q2 := filter_one m y (hc.nt.perm p1.symm) (p1.mem_iff.1 (List.mem_iff_getElem?.2 ⟨i, hy⟩))
    rw [hky] at q2
    have q3 : (y :: l.set i ⟨key, r1, r2, came + 1⟩).Perm (y :: ⟨key, r1, r2, came + 1⟩ :: remM m key) := q1.trans (((p1.trans q2).cons _).trans (List.Perm.swap _ _ _))
    exact q3.cons_inv

theorem rem_hr {w : World} {bh : Nat} {F : Nat → Prop} {m : List (Itm ByteArray)} {came : Int} (h : HR w bh F m came) (hl : m.length ≤ 1000000) {key : ByteArray} (hk : key.size ≤ maxLen) (b : Bool) (hb : (findM m key).isSome = b) :
    Calls Try.prog 16 #[.pointer (some ⟨bh, 0, none⟩), .string key] w fun e w' => e = .returned (.bool b) ∧
      ∃ F', HR w' bh F' (remM m key) came ∧ Upd F w w' ∧ Within w F F' := by
  have hnt := h.nt
  obtain ⟨bm, v, l, f, hc, p1, p2, p3, hF⟩ := h
  have hll : l.length = m.length := p1.length_eq
  subst hb
  cases hf : f key with
  | none =>
    have hno : ∀ y ∈ m, y.key ≠ key := by
      intro y hy e
      obtain ⟨j, hj⟩ := List.mem_iff_getElem?.1 (p1.mem_iff.2 hy)
      have := (hc.idx.2 key).2 ⟨j, y, hj, e⟩
      rw [hf] at this
      cases this
    rw [findM_none hno, remM_none hno]
    exact (rem_no hc hk hf).mono fun e w' ⟨he, hw⟩ => ⟨he, F, ⟨bm, v, l, f, hw ▸ hc, p1, p2, p3, hF⟩, hw ▸ Upd.refl _ _, fun k hk => .inl hk⟩
  | some u =>
    obtain ⟨i, y, hy, hky⟩ := (hc.idx.2 key).1 (by rw [hf]; rfl)
    have hym := p1.mem_iff.1 (List.mem_iff_getElem?.2 ⟨i, hy⟩)
    rw [findM_some hnt hym hky]
    have q2 := filter_one m y hnt hym
    rw [hky] at q2
    exact (rem_yes hc (by omega) hk hy hky.symm).mono fun e w' ⟨he, v', l', f', hc', hp, hu, hv⟩ => ⟨he, _, ⟨bm, v', l', f', hc', ((hp.trans p1).trans q2).cons_inv, sortedS_sub p2 (remM_sub _ _), fun y hy => p3 y ((remM_sub m key).mem hy), fun _ => Iff.rfl⟩, own_upd hF hu, within_own hF hv⟩

theorem len_hr {w : World} {bh : Nat} {F : Nat → Prop} {m : List (Itm ByteArray)} {came : Int} (h : HR w bh F m came) :
    Calls Try.prog 20 #[.pointer (some ⟨bh, 0, none⟩)] w fun e w' => e = .returned (.int .i64 m.length) ∧ w = w' := by
  obtain ⟨bm, v, l, f, hc, p1, p2, p3, hF⟩ := h
  rw [← p1.length_eq]
  exact len_is hc

def rankV (o : Option (Itm ByteArray)) : Value := match o with
  | some y => .tuple #[.agg #[.int .i64 y.one, .int .i64 y.two], .bool true]
  | none => .tuple #[.agg #[.int .i64 0, .int .i64 0], .bool false]

theorem rank_hr {w : World} {bh : Nat} {F : Nat → Prop} {m : List (Itm ByteArray)} {came : Int} (h : HR w bh F m came) (hl : m.length ≤ 1000000) {key : ByteArray} (hk : key.size ≤ maxLen) (v : Value) (hv : rankV (findM m key) = v) :
    Calls Try.prog 18 #[.pointer (some ⟨bh, 0, none⟩), .string key] w fun e w' => e = .returned v ∧ Upd Non w w' := by
  have hnt := h.nt
  obtain ⟨bm, v', l, f, hc, p1, p2, p3, hF⟩ := h
  have hll : l.length = m.length := p1.length_eq
  subst hv
  cases hf : f key with
  | none =>
    have hno : ∀ y ∈ m, y.key ≠ key := by
      intro y hy e
      obtain ⟨j, hj⟩ := List.mem_iff_getElem?.1 (p1.mem_iff.2 hy)
      have := (hc.idx.2 key).2 ⟨j, y, hj, e⟩
      rw [hf] at this
      cases this
    rw [findM_none hno]
    exact rank_no hc hk hf
  | some u =>
    obtain ⟨i, y, hy, hky⟩ := (hc.idx.2 key).1 (by rw [hf]; rfl)
    have hym := p1.mem_iff.1 (List.mem_iff_getElem?.2 ⟨i, hy⟩)
    rw [findM_some hnt hym hky]
    exact rank_yes hc (by omega) hk hy hky.symm

theorem first_is {w : World} {bh bm : Nat} {v : Value} {l m : List (Itm ByteArray)} {f : ByteArray → Option Value} {came : Int} {y : Itm ByteArray} {r : List (Itm ByteArray)} (hc : HC w bh bm v l f came) (p1 : l.Perm m) (p2 : SortedS m) (hm : m = y :: r) : l[0]? = some y := by
  subst hm
  have hlen := p1.length_eq
  obtain ⟨z, hz⟩ : ∃ z, l[0]? = some z := ⟨l[0]'(by rw [hlen]; simp), List.getElem?_eq_getElem _⟩
  have hall := heap_first hc.heap hz
  rcases List.mem_cons.1 (p1.mem_iff.1 (List.mem_iff_getElem?.2 ⟨0, hz⟩)) with h | h
  · rw [hz, h]
  · have h1 := (List.pairwise_cons.1 p2).1 z h
    obtain ⟨j, hj⟩ := List.mem_iff_getElem?.1 (p1.mem_iff.2 (List.mem_cons_self (a := y) (l := r)))
    rw [hall j y hj] at h1
    cases h1

def leastV (m : List (Itm ByteArray)) : Value := match m with
  | y :: _ => .tuple #[.string y.key, .agg #[.int .i64 y.one, .int .i64 y.two], .bool true]
  | [] => .tuple #[.string ⟨#[]⟩, .agg #[.int .i64 0, .int .i64 0], .bool false]

theorem least_hr {w : World} {bh : Nat} {F : Nat → Prop} {m : List (Itm ByteArray)} {came : Int} (h : HR w bh F m came) (hl : m.length ≤ 1000000) (v : Value) (hv : leastV m = v) :
    Calls Try.prog 49 #[.pointer (some ⟨bh, 0, none⟩)] w fun e w' => e = .returned v ∧ Upd Non w w' := by
  obtain ⟨bm, v', l, f, hc, p1, p2, p3, hF⟩ := h
  subst hv
  cases hm : m with
  | nil =>
    rw [hm] at p1
    obtain rfl := List.perm_nil.1 p1
    exact least_no hc
  | cons y r => exact least_yes hc (by rw [p1.length_eq]; exact hl) (first_is hc p1 p2 hm)

def popV (m : List (Itm ByteArray)) : Value := match m with
  | y :: _ => .tuple #[.string y.key, .bool true]
  | [] => .tuple #[.string ⟨#[]⟩, .bool false]

theorem pop_hr {w : World} {bh : Nat} {F : Nat → Prop} {m : List (Itm ByteArray)} {came : Int} (h : HR w bh F m came) (hl : m.length ≤ 1000000) (v : Value) (hv : popV m = v) :
    Calls Try.prog 19 #[.pointer (some ⟨bh, 0, none⟩)] w fun e w' => e = .returned v ∧ ∃ F', HR w' bh F' m.tail came ∧ Upd F w w' ∧ Within w F F' := by
  obtain ⟨bm, v', l, f, hc, p1, p2, p3, hF⟩ := h
  subst hv
  cases hm : m with
  | nil =>
    rw [hm] at p1
    obtain rfl := List.perm_nil.1 p1
    exact (pop_no hc).mono fun e w' ⟨he, hu⟩ => ⟨he, F, ⟨bm, v', [], f, hc.non hu, List.Perm.refl _, List.Pairwise.nil, fun y hy => by simp at hy, hF⟩, hu.mono (fun _ h => h.elim), fun k hk => .inl hk⟩
  | cons y r =>
    refine (pop_yes hc (by rw [p1.length_eq]; exact hl) (first_is hc p1 p2 hm)).mono fun e w' ⟨he, v2, l', f', hc', hp, hu, hv⟩ => ⟨he, _, ⟨bm, v2, l', f', hc', ?_, ?_, ?_, fun _ => Iff.rfl⟩, own_upd hF hu, within_own hF hv⟩
    · rw [hm] at p1; exact (hp.trans p1).cons_inv
    · rw [hm] at p2; exact (List.pairwise_cons.1 p2).2
    · intro z hz; exact p3 z (by rw [hm]; exact List.mem_cons_of_mem _ hz)

theorem sorted_strict {m m' : List (Itm ByteArray)} (hp : m'.Perm m) (hs : Sorted m') (hS : SortedS m) : m' = m := by
  refine sortedS_unique ?_ hS hp
  have hne : m'.Pairwise (fun x y => ltI x y = true ∨ ltI y x = true) := by
    have : m.Pairwise (fun x y => ltI x y = true ∨ ltI y x = true) := hS.imp (fun h => .inl h)
    exact (hp.pairwise_iff (fun {_ _} h => h.symm)).2 this
  have := hs.and hne
  exact this.imp (fun {a b} h => h.2.elim id (fun h2 => by rw [h.1] at h2; cases h2))

theorem order_hr {w : World} {bh : Nat} {F : Nat → Prop} {m : List (Itm ByteArray)} {came : Int} (h : HR w bh F m came) (hl : m.length ≤ 1000000) :
    Calls Try.prog 17 #[.pointer (some ⟨bh, 0, none⟩)] w fun e w' => ∃ vo, e = .returned vo ∧ w'.ownsRow w.heap.size 9 1 vo m.length (keysV m) ∧ Upd Non w w' := by
  obtain ⟨bm, v', l, f, hc, p1, p2, p3, hF⟩ := h
  refine (order_is hc (by rw [p1.length_eq]; exact hl)).mono fun e w' ⟨vo, m', he, hp, hs, hr, hu⟩ => ⟨vo, he, ?_, hu⟩
  rw [← sorted_strict (hp.trans p1) hs p2]
  exact hr

end Go.Proofs.Ytalnjkeajlbbpaa

/- Slices that are read: rows of cells that stand while other blocks are written. -/
namespace Go.Proofs.Ytalnjkeajlbbpaa
open Go.RowKit

/-- av leads to the elements l, each its cells, k a piece, in a block that is none of F. -/
def Arr (w : World) (F : Nat → Prop) (av : Option Addr) (k : Nat) (l : List (List Value)) : Prop :=
  l ≠ [] → ∃ g off, av = some ⟨g, off, none⟩ ∧ g < w.heap.size ∧ ¬ F g ∧ ∀ (i : Nat) (c : List Value), l[i]? = some c → ∀ (j : Nat) (v : Value), c[j]? = some v → w.cell? ⟨g, off + i * k + j, none⟩ = some v

theorem Arr.step {w w' : World} {F F' : Nat → Prop} {av : Option Addr} {k : Nat} {l : List (List Value)} (h : Arr w F av k l) (u : Upd F w w') (q : Within w F F') : Arr w' F' av k l := by
  intro hl
  obtain ⟨g, off, he, hg, hF, hc⟩ := h hl
  exact ⟨g, off, he, Nat.lt_of_lt_of_le hg u.size, q.no hF hg, fun i c hi j v hj => (u.cell (p := ⟨g, off + i * k + j, none⟩) hg hF).trans (hc i c hi j v hj)⟩
theorem Arr.non {w w' : World} {F : Nat → Prop} {av : Option Addr} {k : Nat} {l : List (List Value)} (h : Arr w F av k l) (u : Upd Non w w') : Arr w' F av k l := by
  intro hl
  obtain ⟨g, off, he, hg, hF, hc⟩ := h hl
  exact ⟨g, off, he, Nat.lt_of_lt_of_le hg u.size, hF, fun i c hi j v hj => (u.cell (p := ⟨g, off + i * k + j, none⟩) hg id).trans (hc i c hi j v hj)⟩
/-- Other blocks are of concern from now on. -/
theorem Arr.turn {w : World} {F F' : Nat → Prop} {av : Option Addr} {k : Nat} {l : List (List Value)} (h : Arr w F av k l) (hF : ∀ g, g < w.heap.size → ¬ F g → ¬ F' g) : Arr w F' av k l := by
  intro hl
  obtain ⟨g, off, he, hg, hn, hc⟩ := h hl
  exact ⟨g, off, he, hg, hF g hg hn, hc⟩
/-- Behind something new: it lies where nothing lay. -/
theorem Arr.fresh {w w' : World} {F : Nat → Prop} {av : Option Addr} {k : Nat} {l : List (List Value)} (h : Arr w Non av k l) (u : Upd Non w w') (hF : ∀ k, F k → w.heap.size ≤ k) : Arr w' F av k l := by
  intro hl
  obtain ⟨g, off, he, hg, hn, hc⟩ := h hl
  exact ⟨g, off, he, Nat.lt_of_lt_of_le hg u.size, fun h => by have := hF g h; omega, fun i c hi j v hj => (u.cell (p := ⟨g, off + i * k + j, none⟩) hg id).trans (hc i c hi j v hj)⟩

def strC (l : List ByteArray) : List (List Value) := l.map (fun s => [.string s])

theorem Arr.str {w : World} {F : Nat → Prop} {av : Option Addr} {l : List ByteArray} (h : Arr w F av 1 (strC l)) {i : Nat} {s : ByteArray} (hs : l[i]? = some s) : ∃ g off, av = some ⟨g, off, none⟩ ∧ w.cell? ⟨g, off + i, none⟩ = some (.string s) := by
  obtain ⟨g, off, he, _, _, hc⟩ := h (by intro e; simp [strC] at e; subst e; simp at hs)
  refine ⟨g, off, he, ?_⟩
  have := hc i [.string s] (by simp [strC, hs]) 0 _ rfl
  simpa using this

/-- What a slice of the call's own shows: its address, its length. -/
theorem owned_arr {w w0 : World} {e : TypeId} {vo : Value} {ks : List ByteArray} {F : Nat → Prop} (h : w.ownsRow w0.heap.size e 1 vo ks.length (ks.map Value.string)) (hF : ∀ k, F k → k < w0.heap.size) : ∃ av cap, vo = .slice av ks.length cap ∧ Arr w F av 1 (strC ks) := by
  obtain ⟨hl, ⟨rfl, h0⟩ | ⟨g, cap, cur, rfl, hb, hg, hn, hm, hs, ht⟩⟩ := h
  · refine ⟨none, 0, by rw [h0], fun hne => ?_⟩
    rw [List.length_eq_zero_iff] at h0
    subst h0
    exact absurd rfl hne
  · refine ⟨_, cap, rfl, fun hne => ⟨g, 0, rfl, Blk.lt (vs := cur) hg, fun h => by have := hF g h; omega, fun i c hi j v hj => ?_⟩⟩
    simp only [strC, List.getElem?_map] at hi
    cases hk : ks[i]? with
    | none => rw [hk] at hi; cases hi
    | some s =>
      rw [hk] at hi
      simp only [Option.map_some, Option.some.injEq] at hi
      subst hi
      match j, hj with
      | 0, hj =>
        simp only [List.getElem?_cons_zero, Option.some.injEq] at hj
        subst hj
        refine Blk.cell (vs := cur) hg _ ?_
        have e1 : (cur.toList.take (ks.length * 1))[i]? = some (.string s) := by rw [ht, List.getElem?_map, hk]; rfl
        rw [List.getElem?_take] at e1
        split at e1
        · simpa using e1
        · cases e1
      | j + 1, hj => simp at hj

def keysM (m : List (Itm ByteArray)) : List ByteArray := m.map (·.key)

theorem order_arr {w : World} {bh : Nat} {F : Nat → Prop} {m : List (Itm ByteArray)} {came : Int} (h : HR w bh F m came) (hl : m.length ≤ 1000000) :
    Calls Try.prog 17 #[.pointer (some ⟨bh, 0, none⟩)] w fun e w' => ∃ av cap, e = .returned (.slice av m.length cap) ∧ Arr w' F av 1 (strC (keysM m)) ∧ Upd Non w w' := by
  refine (order_hr h hl).mono fun e w' ⟨vo, he, hr, hu⟩ => ?_
  have e1 : keysV m = (keysM m).map Value.string := by simp [keysV, keysM]
  have e2 : m.length = (keysM m).length := by simp [keysM]
  rw [e1, e2] at hr
  obtain ⟨av, cap, rfl, ha⟩ := owned_arr hr (fun k hk => h.lt k hk)
  exact ⟨av, cap, by rw [he, e2], ha, hu⟩

/-- A call of layer 4's scripts. -/
structure Act4 where
  kind : Int
  key : ByteArray
  one : Int
  two : Int

def act4C (l : List Act4) : List (List Value) := l.map (fun a => [.int .i64 a.kind, .string a.key, .int .i64 a.one, .int .i64 a.two])

theorem Arr.act4 {w : World} {F : Nat → Prop} {av : Option Addr} {l : List Act4} (h : Arr w F av 4 (act4C l)) {i : Nat} {a : Act4} (hs : l[i]? = some a) : ∃ g off, av = some ⟨g, off, none⟩ ∧
    w.cell? ⟨g, off + i * 4, none⟩ = some (.int .i64 a.kind) ∧ w.cell? ⟨g, off + i * 4 + 1, none⟩ = some (.string a.key) ∧ w.cell? ⟨g, off + i * 4 + 2, none⟩ = some (.int .i64 a.one) ∧ w.cell? ⟨g, off + i * 4 + 3, none⟩ = some (.int .i64 a.two) := by
  obtain ⟨g, off, he, _, _, hc⟩ := h (by intro e; simp [act4C] at e; subst e; simp at hs)
  have hi : (act4C l)[i]? = some [.int .i64 a.kind, .string a.key, .int .i64 a.one, .int .i64 a.two] := by simp [act4C, hs]
  exact ⟨g, off, he, hc i _ hi 0 _ rfl, hc i _ hi 1 _ rfl, hc i _ hi 2 _ rfl, hc i _ hi 3 _ rfl⟩

/-- All calls as Set, one after the other. -/
def setRun : List Act4 → List (Itm ByteArray) × Int
  | l => l.foldl (fun p a => (setM p.1 a.key a.one a.two (p.2 + 1), p.2 + 1)) ([], 0)

theorem setRun_snoc (l : List Act4) (a : Act4) : setRun (l ++ [a]) = (setM (setRun l).1 a.key a.one a.two ((setRun l).2 + 1), (setRun l).2 + 1) := by simp [setRun, List.foldl_append]

theorem remM_len {α : Type} [DecidableEq α] (m : List (Itm α)) (k : α) : (remM m k).length ≤ m.length := List.length_filter_le _ _
theorem setM_len {α : Type} [DecidableEq α] (m : List (Itm α)) (k : α) (a b c : Int) : (setM m k a b c).length ≤ m.length + 1 := by
  unfold setM
  rw [(insI_perm _ _).length_eq]
  have := remM_len m k
  simpa using this

theorem take_snoc {α : Type} {l : List α} {j : Nat} {a : α} (h : l[j]? = some a) : l.take (j + 1) = l.take j ++ [a] := by rw [List.take_add_one, h]; rfl

theorem foldl_snoc_len : ∀ (l : List Act4) (p : List (Itm ByteArray) × Int), (l.foldl (fun p a => (setM p.1 a.key a.one a.two (p.2 + 1), p.2 + 1)) p).1.length ≤ p.1.length + l.length ∧ (l.foldl (fun p a => (setM p.1 a.key a.one a.two (p.2 + 1), p.2 + 1)) p).2 = p.2 + l.length
  | [], p => ⟨by simp, by simp⟩
  | a :: l, p => by
    obtain ⟨t1, t2⟩ := foldl_snoc_len l (setM p.1 a.key a.one a.two (p.2 + 1), p.2 + 1)
    have h2 := setM_len p.1 a.key a.one a.two (p.2 + 1)
    dsimp only at t1 t2
    rw [List.foldl_cons, List.length_cons]
    exact ⟨by omega, by rw [t2]; omega⟩
theorem setRun_len (l : List Act4) : (setRun l).1.length ≤ l.length ∧ (setRun l).2 = l.length := by
  have := foldl_snoc_len l ([], 0)
  simpa [setRun] using this

/-- A round of the loop that sets a script's keys. -/
theorem set_act {w1 W : World} {bh : Nat} {F : Nat → Prop} {l : List Act4} {j : Nat} {x : Act4} (o : Own w1 W bh F (setRun (l.take j)).1 (setRun (l.take j)).2) (hl : l.length ≤ 200) (hx : l[j]? = some x) (hk : x.key.size ≤ maxLen) :
    Calls Try.prog 15 #[.pointer (some ⟨bh, 0, none⟩), .string x.key, .agg #[.int .i64 x.one, .int .i64 x.two]] W.drew fun e w' => e = .returned (.tuple #[]) ∧
      ∃ F', Own w1 w' bh F' (setRun (l.take (j + 1))).1 (setRun (l.take (j + 1))).2 ∧ Upd F W w' ∧ Within W F F' := by
  obtain ⟨hl1, hl2⟩ := setRun_len (l.take j)
  have hl3 : (l.take j).length ≤ 200 := by simp; omega
  have o' := o.non ((Upd.refl Non W).drew)
  refine (set_hr o'.hr (by omega) (by omega) (by omega) hk x.one x.two).mono fun e w' ⟨he, F', h, u, q⟩ => ⟨he, F', ?_, u.drew0, q⟩
  have := o'.step h u q
  rw [take_snoc hx, setRun_snoc]
  exact this

theorem quiet_upd {w w' : World} (h : Hid (∃ q, w' = w.drewN q)) : Upd Non w w' := by obtain ⟨q, rfl⟩ := h.out; exact (Upd.refl Non w).drewN q

theorem str_ne {a b : ByteArray} (h : a ≠ b) : (a.toList == b.toList) = false := by
  rw [beq_eq_false_iff_ne, ByteArray.toList_eq, ByteArray.toList_eq]
  intro e
  apply h
  have : a.data = b.data := Array.toList_inj.1 e
  cases a; cases b; simp_all

theorem rank_is {w : World} {bh : Nat} {F : Nat → Prop} {m : List (Itm ByteArray)} {came : Int} (h : HR w bh F m came) (hl : m.length ≤ 1000000) {key : ByteArray} (hk : key.size ≤ maxLen) (b : Bool) (hb : (findM m key).isSome = b) :
    Calls Try.prog 18 #[.pointer (some ⟨bh, 0, none⟩), .string key] w fun e w' => ∃ r1 r2, e = .returned (.tuple #[.agg #[.int .i64 r1, .int .i64 r2], .bool b]) ∧ Upd Non w w' := by
  refine (rank_hr h hl hk _ rfl).mono fun e w' ⟨he, hu⟩ => ?_
  subst hb
  cases hf : findM m key with
  | none => rw [hf] at he; exact ⟨0, 0, he, hu⟩
  | some y => rw [hf] at he; exact ⟨y.one, y.two, he, hu⟩

theorem remM_again {α : Type} [DecidableEq α] (m : List (Itm α)) (k : α) : findM (remM m k) k = none ∧ remM (remM m k) k = remM m k := by
  have : ∀ y ∈ remM m k, y.key ≠ k := fun y hy => by simpa using (List.mem_filter.1 hy).2
  exact ⟨findM_none this, remM_none this⟩

theorem keysM_rem (m : List (Itm ByteArray)) (k : ByteArray) : keysM (remM m k) = (keysM m).filter (fun s => decide (s ≠ k)) := by
  unfold keysM remM
  rw [List.filter_map]
  rfl

/-- Where the i-th one stands among those that are kept. -/
theorem filter_at {α : Type} {p : α → Bool} : ∀ {l : List α} {i : Nat} {x : α}, l[i]? = some x → p x = true → (l.filter p)[((l.take i).filter p).length]? = some x
  | [], i, x, h, _ => by simp at h
  | y :: l, 0, x, h, hp => by simp at h; subst h; simp [hp]
  | y :: l, i + 1, x, h, hp => by
    have ih := filter_at (l := l) (i := i) (x := x) (by simpa using h) hp
    rw [List.take_succ_cons]
    cases hy : p y with
    | true => rw [List.filter_cons_of_pos hy, List.filter_cons_of_pos hy, List.length_cons, List.getElem?_cons_succ]; exact ih
    | false => rw [List.filter_cons_of_neg (by simp [hy]), List.filter_cons_of_neg (by simp [hy])]; exact ih

/-- How many of the first i are not key. -/
def cntNe (ks : List ByteArray) (key : ByteArray) (i : Nat) : Nat := ((ks.take i).filter (fun s => decide (s ≠ key))).length
theorem cntNe_eq {ks : List ByteArray} {key : ByteArray} {i : Nat} (h : ks[i]? = some key) : cntNe ks key (i + 1) = cntNe ks key i := by
  unfold cntNe
  rw [take_snoc h]; simp
theorem cntNe_ne {ks : List ByteArray} {key s : ByteArray} {i : Nat} (h : ks[i]? = some s) (hne : s ≠ key) : cntNe ks key (i + 1) = cntNe ks key i + 1 := by
  unfold cntNe
  rw [take_snoc h]; simp [hne]
theorem cntNe_all (ks : List ByteArray) (key : ByteArray) : cntNe ks key ks.length = (ks.filter (fun s => decide (s ≠ key))).length := by simp [cntNe]
theorem cntNe_at {ks : List ByteArray} {key s : ByteArray} {i : Nat} (h : ks[i]? = some s) (hne : s ≠ key) : (ks.filter (fun s => decide (s ≠ key)))[cntNe ks key i]? = some s := filter_at h (by simpa using hne)
theorem cntNe_le (ks : List ByteArray) (key : ByteArray) (i : Nat) : cntNe ks key i ≤ ks.length := by
  unfold cntNe
  exact Nat.le_trans (List.length_filter_le _ _) (by simp; omega)

end Go.Proofs.Ytalnjkeajlbbpaa

/- HeapTies: what its loop keeps. -/
namespace Go.Proofs.Ytalnjkeajlbbpaa
open Go.RowKit

theorem insI_last {α : Type} (x : Itm α) : ∀ m : List (Itm α), (∀ y ∈ m, ltI x y = false) → insI x m = m ++ [x]
  | [], _ => rfl
  | y :: r, h => by
    unfold insI
    rw [h y (by simp), if_neg (by simp), insI_last x r (fun z hz => h z (by simp [hz]))]
    rfl

theorem tied_set {m : List (Itm ByteArray)} {k : ByteArray} {r1 r2 c : Int} (h : ∀ y ∈ m, y.one = r1 ∧ y.two = r2) (hc : ∀ y ∈ m, y.came ≤ c) : setM m k r1 r2 (c + 1) = remM m k ++ [⟨k, r1, r2, c + 1⟩] := by
  unfold setM
  refine insI_last _ _ (fun y hy => ?_)
  have hm := (remM_sub m k).mem hy
  obtain ⟨h1, h2⟩ := h y hm
  have h3 := hc y hm
  rw [ltI_no]
  simp only
  omega

def isIn (k : ByteArray) (l : List ByteArray) : Bool := l.any (fun s => decide (s = k))
theorem isIn_iff {k : ByteArray} {l : List ByteArray} : isIn k l = true ↔ k ∈ l := by simp [isIn]
theorem isIn_no {k : ByteArray} {l : List ByteArray} : isIn k l = false ↔ k ∉ l := by rw [← isIn_iff]; simp
theorem isIn_snoc (k x : ByteArray) (l : List ByteArray) : isIn k (l ++ [x]) = (isIn k l || decide (x = k)) := by simp [isIn]

/-- The map of what was seen. -/
def seenF (sn : List ByteArray) : ByteArray → Option Value := fun k => if isIn k sn then some (.bool true) else none

theorem seen_put (sn : List ByteArray) (x : ByteArray) : put (seenF sn) x (.bool true) = seenF (sn ++ [x]) := by
  funext k
  unfold put seenF
  rw [isIn_snoc]
  by_cases hk : k = x
  · simp [hk]
  · simp [hk, show ¬ x = k from fun e => hk e.symm]

theorem zeroB (w : World) : (zeroValue 4).run Try.prog w = .ok (.bool false) w := by kernel_rfl

theorem seen_look {w : World} {bs : Nat} {sn : List ByteArray} (h : MapA SK w bs (seenF sn) sn.length) {x : ByteArray} (hx : x.size ≤ maxLen) (b : Bool) (hb : isIn x sn = b) :
    (Instr.lookup 35 (.map (some bs)) (.string x) false).run Try.prog w = .ok (.bool b) w := by
  have := h.look1 Try.underlying35 (zeroB w) (a := x) hx
  rw [show (SK.val x) = Value.string x from rfl] at this
  rw [this, ← hb]
  unfold seenF
  cases isIn x sn <;> rfl

structure TieS (w1 w : World) (bh bs : Nat) (r1 r2 : Int) (F : Nat → Prop) (m : List (Itm ByteArray)) (c : Int) (v8 : Value) (want sn : List ByteArray) : Prop where
  own : Own w1 w bh F m c
  tied : ∀ y ∈ m, y.one = r1 ∧ y.two = r2
  len : (m.length : Int) ≤ c
  row : w.ownsRow w1.heap.size 9 1 v8 want.length (want.map Value.string)
  rowF : ∀ k, v8.ownBlock = some k → ¬ F k ∧ k ≠ bs
  mp : MapA SK w bs (seenF sn) sn.length
  mpF : ¬ F bs
  mpB : w1.heap.size ≤ bs

variable {w1 w : World} {bh bs : Nat} {r1 r2 : Int} {F : Nat → Prop} {m : List (Itm ByteArray)} {c : Int} {v8 : Value} {want sn : List ByteArray}

theorem TieS.non (t : TieS w1 w bh bs r1 r2 F m c v8 want sn) {w' : World} (u : Upd Non w w') : TieS w1 w' bh bs r1 r2 F m c v8 want sn :=
  ⟨t.own.non u, t.tied, t.len, ownsRow_upd t.row u (fun _ _ => id), t.rowF, t.mp.upd u id, t.mpF, t.mpB⟩
theorem TieS.drew (t : TieS w1 w bh bs r1 r2 F m c v8 want sn) : TieS w1 w.drew bh bs r1 r2 F m c v8 want sn := t.non ((Upd.refl Non w).drew)

theorem tie_set (t : TieS w1 w bh bs r1 r2 F m c v8 want sn) (hc : c ≤ 1000) {key : ByteArray} (hk : key.size ≤ maxLen) :
    Calls Try.prog 15 #[.pointer (some ⟨bh, 0, none⟩), .string key, .agg #[.int .i64 r1, .int .i64 r2]] w fun e w' => e = .returned (.tuple #[]) ∧
      ∃ F' m', TieS w1 w' bh bs r1 r2 F' m' (c + 1) v8 want sn ∧ keysM m' = (keysM m).filter (fun s => decide (s ≠ key)) ++ [key] := by
  have hl := t.len
  refine (set_hr t.own.hr (by omega) (by omega) (by omega) hk r1 r2).mono fun e w' ⟨he, F', h, u, q⟩ => ⟨he, F', _, ⟨t.own.step h u q, ?_, ?_, ownsRow_upd t.row u (fun k hk => (t.rowF k hk).1), fun k hk => ⟨q.no (t.rowF k hk).1 (t.row.lt k hk).2, (t.rowF k hk).2⟩, t.mp.upd u t.mpF, q.no t.mpF t.mp.lt, t.mpB⟩, ?_⟩
  · intro y hy
    rw [tied_set t.tied t.own.hr.came] at hy
    rcases List.mem_append.1 hy with hy | hy
    · exact t.tied y ((remM_sub m key).mem hy)
    · simp at hy; subst hy; exact ⟨rfl, rfl⟩
  · have := setM_len m key r1 r2 (c + 1); omega
  · rw [tied_set t.tied t.own.hr.came, ← keysM_rem]
    simp [keysM]

/-- Behind 'append'. -/
theorem tie_app (t : TieS w1 w bh bs r1 r2 F m c v8 want sn) {w' : World} {g cap : Nat} {x : ByteArray} (h : w'.ownsRow w1.heap.size 9 1 (.slice (some ⟨g, 0, none⟩) (want.length + 1) cap) (want.length + 1) (want.map Value.string ++ [.string x]))
    (hg : w.grownBy w' v8.ownBlock) (ha : v8.ownBlock = some g ∨ w.heap.size ≤ g) : TieS w1 w' bh bs r1 r2 F m c (.slice (some ⟨g, 0, none⟩) (want.length + 1) cap) (want ++ [x]) sn := by
  have u : Upd (fun k => v8.ownBlock = some k) w w' := (Upd.refl _ w).grown hg (fun k hk => .inl hk)
  refine ⟨t.own.other u (fun k hF hk => (t.rowF k hk).1 hF) (fun k hk => (t.row.lt k hk).1), t.tied, t.len, by simpa using h, fun k hk => ?_, t.mp.upd u (fun hk => (t.rowF _ hk).2 rfl), t.mpF, t.mpB⟩
  simp only [Value.ownBlock, Option.some.injEq] at hk
  subst hk
  rcases ha with ha | ha
  · exact t.rowF _ ha
  · exact ⟨fun hF => by have := t.own.hr.lt _ hF; omega, fun e => by have := t.mp.lt; omega⟩

/-- 'seen[x] = true'. -/
theorem tie_store (t : TieS w1 w bh bs r1 r2 F m c v8 want sn) (hn : sn.length ≤ 1000) {x : ByteArray} (hx : x.size ≤ maxLen) (hno : isIn x sn = false) :
    ∃ w', (Instr.mapUpdate 35 (.map (some bs)) (.string x) (.bool true)).run Try.prog w = .ok () w' ∧ TieS w1 w' bh bs r1 r2 F m c v8 want (sn ++ [x]) := by
  obtain ⟨w', hr, hm, ht⟩ := t.mp.store Try.underlying35 (by unfold maxLen; omega) (a := x) hx (.bool true)
  have u := turned_upd ht
  refine ⟨w', hr, t.own.other u (fun k hF hk => t.mpF (hk ▸ hF)) (fun k hk => hk ▸ t.mpB), t.tied, t.len, ownsRow_upd t.row u (fun k hk => (t.rowF k hk).2), t.rowF, ?_, t.mpF, t.mpB⟩
  rw [seen_put, show (seenF sn x).isSome = false by simp [seenF, hno]] at hm
  simpa using hm

theorem TieS.slice (t : TieS w1 w bh bs r1 r2 F m c v8 want sn) : ∃ av cap, v8 = .slice av want.length cap ∧ Arr w Non av 1 (strC want) := owned_arr (w0 := {w1 with heap := w1.heap}) t.row (fun _ h => h.elim)

end Go.Proofs.Ytalnjkeajlbbpaa

/- HeapPops: what its loops keep. -/
namespace Go.Proofs.Ytalnjkeajlbbpaa
open Go.RowKit

theorem set_own {w1 W : World} {bh : Nat} {F : Nat → Prop} {m : List (Itm ByteArray)} {c : Int} (o : Own w1 W bh F m c) (hl : m.length ≤ 1000) (h0 : 0 ≤ c) (h1 : c ≤ 1000) {key : ByteArray} (hk : key.size ≤ maxLen) (r1 r2 : Int) :
    Calls Try.prog 15 #[.pointer (some ⟨bh, 0, none⟩), .string key, .agg #[.int .i64 r1, .int .i64 r2]] W fun e w' => e = .returned (.tuple #[]) ∧
      ∃ F', Own w1 w' bh F' (setM m key r1 r2 (c + 1)) (c + 1) ∧ Upd F W w' ∧ Within W F F' :=
  (set_hr o.hr (by omega) h0 (by omega) hk r1 r2).mono fun e w' ⟨he, F', h, u, q⟩ => ⟨he, F', o.step h u q, u, q⟩

theorem rem_own {w1 W : World} {bh : Nat} {F : Nat → Prop} {m : List (Itm ByteArray)} {c : Int} (o : Own w1 W bh F m c) (hl : m.length ≤ 1000) {key : ByteArray} (hk : key.size ≤ maxLen) (b : Bool) (hb : (findM m key).isSome = b) :
    Calls Try.prog 16 #[.pointer (some ⟨bh, 0, none⟩), .string key] W fun e w' => e = .returned (.bool b) ∧
      ∃ F', Own w1 w' bh F' (remM m key) c ∧ Upd F W w' ∧ Within W F F' :=
  (rem_hr o.hr (by omega) hk b hb).mono fun e w' ⟨he, F', h, u, q⟩ => ⟨he, F', o.step h u q, u, q⟩

theorem pop_own {w1 W : World} {bh : Nat} {F : Nat → Prop} {m : List (Itm ByteArray)} {c : Int} (o : Own w1 W bh F m c) (hl : m.length ≤ 1000) (v : Value) (hv : popV m = v) :
    Calls Try.prog 19 #[.pointer (some ⟨bh, 0, none⟩)] W fun e w' => e = .returned v ∧
      ∃ F', Own w1 w' bh F' m.tail c ∧ Upd F W w' ∧ Within W F F' :=
  (pop_hr o.hr (by omega) v hv).mono fun e w' ⟨he, F', h, u, q⟩ => ⟨he, F', o.step h u q, u, q⟩

def popStep (p : List (Itm ByteArray) × Int) (a : Act4) : List (Itm ByteArray) × Int :=
  (if a.kind = 1 then remM (setM p.1 a.key a.one a.two (p.2 + 1)) a.key else setM p.1 a.key a.one a.two (p.2 + 1), p.2 + 1)
def popRun (l : List Act4) : List (Itm ByteArray) × Int := l.foldl popStep ([], 0)
theorem popRun_snoc (l : List Act4) (a : Act4) : popRun (l ++ [a]) = popStep (popRun l) a := by simp [popRun, List.foldl_append]

theorem popStep_len (p : List (Itm ByteArray) × Int) (a : Act4) : (popStep p a).1.length ≤ p.1.length + 1 ∧ (popStep p a).2 = p.2 + 1 := by
  refine ⟨?_, rfl⟩
  have h := setM_len p.1 a.key a.one a.two (p.2 + 1)
  unfold popStep
  dsimp only
  split
  · have := remM_len (setM p.1 a.key a.one a.two (p.2 + 1)) a.key; omega
  · exact h
theorem popFold_len : ∀ (l : List Act4) (p : List (Itm ByteArray) × Int), (l.foldl popStep p).1.length ≤ p.1.length + l.length ∧ (l.foldl popStep p).2 = p.2 + l.length
  | [], p => ⟨by simp, by simp⟩
  | a :: l, p => by
    obtain ⟨t1, t2⟩ := popFold_len l (popStep p a)
    obtain ⟨h1, h2⟩ := popStep_len p a
    rw [List.foldl_cons, List.length_cons]
    exact ⟨by omega, by rw [t2, h2]; omega⟩
theorem popRun_len (l : List Act4) : (popRun l).1.length ≤ l.length ∧ (popRun l).2 = l.length := by
  have := popFold_len l ([], 0)
  simpa [popRun] using this

theorem Arr.wider {w w' : World} {F F' : Nat → Prop} {av : Option Addr} {k : Nat} {l : List (List Value)} (h : Arr w F av k l) (u : Upd Non w w') (hF : ∀ k, F' k → F k ∨ w.heap.size ≤ k) : Arr w' F' av k l :=
  (h.turn (F' := F') (fun g hg hn h => (hF g h).elim hn (fun e => by omega))).non u

theorem box2 {w w' : World} {b : Nat} {a1 a2 : Int} {T : TypeId} (B : Blk w b #[.int .i64 a1, .int .i64 a2] T) (u : Upd Non w w') : w'.cell? ⟨b, 0, none⟩ = some (.int .i64 a1) ∧ w'.cell? ⟨b, 1, none⟩ = some (.int .i64 a2) :=
  ⟨(B.upd u id).cell 0 rfl, (B.upd u id).cell 1 rfl⟩

def With2 (F : Nat → Prop) (a b : Nat) : Nat → Prop := fun k => F k ∨ k = a ∨ k = b

structure PopS (w1 w : World) (bh bs bl : Nat) (F : Nat → Prop) (m : List (Itm ByteArray)) (c : Int) (ks sn : List ByteArray) (av : Option Addr) (a b : Int) : Prop where
  own : Own w1 w bh F m c
  arr : Arr w (With2 F bs bl) av 1 (strC ks)
  mp : MapA SK w bs (seenF sn) sn.length
  mpF : ¬ F bs
  mpB : w1.heap.size ≤ bs
  lb : Blk w bl #[.int .i64 a, .int .i64 b] 24
  lbF : ¬ F bl
  lbB : w1.heap.size ≤ bl
  ne : bs ≠ bl

variable {w1 w w' : World} {bh bs bl : Nat} {F : Nat → Prop} {m : List (Itm ByteArray)} {c : Int} {ks sn : List ByteArray} {av : Option Addr} {a b : Int}

theorem PopS.non (s : PopS w1 w bh bs bl F m c ks sn av a b) (u : Upd Non w w') : PopS w1 w' bh bs bl F m c ks sn av a b :=
  ⟨s.own.non u, s.arr.non u, s.mp.upd u id, s.mpF, s.mpB, s.lb.upd u id, s.lbF, s.lbB, s.ne⟩

theorem PopS.heap (s : PopS w1 w bh bs bl F m c ks sn av a b) {F' : Nat → Prop} {m' : List (Itm ByteArray)} {c' : Int} (o : Own w1 w' bh F' m' c') (u : Upd F w w') (q : Within w F F') : PopS w1 w' bh bs bl F' m' c' ks sn av a b :=
  ⟨o, s.arr.step (u.mono (fun k hk => .inl (.inl hk))) (fun k hk => hk.elim (fun h => (q k h).imp .inl id) (fun h => .inl (.inr h))), s.mp.upd u s.mpF, q.no s.mpF s.mp.lt, s.mpB, s.lb.upd u s.lbF, q.no s.lbF s.lb.lt, s.lbB, s.ne⟩

theorem pop_store (s : PopS w1 w bh bs bl F m c ks sn av a b) (hn : sn.length ≤ 1000) {x : ByteArray} (hx : x.size ≤ maxLen) (hno : isIn x sn = false) :
    ∃ w', (Instr.mapUpdate 35 (.map (some bs)) (.string x) (.bool true)).run Try.prog w = .ok () w' ∧ PopS w1 w' bh bs bl F m c ks (sn ++ [x]) av a b ∧ Upd (fun k => k = bs) w w' := by
  obtain ⟨w', hr, hm, ht⟩ := s.mp.store Try.underlying35 (by unfold maxLen; omega) (a := x) hx (.bool true)
  have u := turned_upd ht
  refine ⟨w', hr, ⟨s.own.other u (fun k hF hk => s.mpF (hk ▸ hF)) (fun k hk => hk ▸ s.mpB), s.arr.step (u.mono (fun k hk => .inl (.inr (.inl hk)))) (Within.refl _ _), ?_, s.mpF, s.mpB, s.lb.upd u (fun e => s.ne e.symm), s.lbF, s.lbB, s.ne⟩, u⟩
  rw [seen_put, show (seenF sn x).isSome = false by simp [seenF, hno]] at hm
  simpa using hm

theorem PopS.last (s : PopS w1 w bh bs bl F m c ks sn av a b) (a' b' : Int) : PopS w1 ((w.setCell ⟨bl, 0, none⟩ (.int .i64 a')).setCell ⟨bl, 1, none⟩ (.int .i64 b')) bh bs bl F m c ks sn av a' b' := by
  have u : Upd (fun k => k = bl) w ((w.setCell ⟨bl, 0, none⟩ (.int .i64 a')).setCell ⟨bl, 1, none⟩ (.int .i64 b')) := ((Upd.refl (fun k => k = bl) w).set1 0 _).set1 1 _
  exact ⟨s.own.other u (fun k hF hk => s.lbF (hk ▸ hF)) (fun k hk => hk ▸ s.lbB), s.arr.step (u.mono (fun k hk => .inl (.inr (.inr hk)))) (Within.refl _ _), s.mp.upd u s.ne, s.mpF, s.mpB, (s.lb.set 0 _).set 1 _, s.lbF, s.lbB, s.ne⟩

/-- Off the front: in order, each once. -/
theorem drop_cons {α : Type} {m : List α} {i : Nat} {y : α} (h : m[i]? = some y) : m.drop i = y :: m.drop (i + 1) := by
  obtain ⟨hi, rfl⟩ := List.getElem?_eq_some_iff.1 h
  exact List.drop_eq_getElem_cons hi

theorem fresh_key {m : List (Itm ByteArray)} (hN : NoTwice m) {i : Nat} {y : Itm ByteArray} (h : m[i]? = some y) : isIn y.key ((keysM m).take i) = false := by
  rw [isIn_no]
  intro hm
  obtain ⟨j, hj⟩ := List.mem_iff_getElem?.1 hm
  rw [List.getElem?_take] at hj
  split at hj
  · next hji =>
    simp only [keysM, List.getElem?_map] at hj
    cases hz : m[j]? with
    | none => rw [hz] at hj; cases hj
    | some z =>
      rw [hz] at hj
      simp only [Option.map_some, Option.some.injEq] at hj
      have := hN.at hz h hj
      omega
  · cases hj

theorem rank_rise {m : List (Itm ByteArray)} (hS : SortedS m) {i : Nat} {y z : Itm ByteArray} (h : m[i]? = some y) (h' : m[i + 1]? = some z) : ltR z.one z.two y.one y.two = false := by
  obtain ⟨hi, rfl⟩ := List.getElem?_eq_some_iff.1 h
  obtain ⟨hi', rfl⟩ := List.getElem?_eq_some_iff.1 h'
  have := List.pairwise_iff_getElem.1 hS i (i + 1) hi hi' (by omega)
  rw [ltI_iff] at this
  unfold ltR
  simp only [Bool.or_eq_false_iff, Bool.and_eq_false_iff, decide_eq_false_iff_not]
  omega

theorem head_rank (y : Itm ByteArray) (r : List (Itm ByteArray)) : rankV (findM (y :: r) y.key) = .tuple #[.agg #[.int .i64 y.one, .int .i64 y.two], .bool true] := by
  unfold findM
  rw [List.find?_cons_of_pos (by simp)]
  rfl

end Go.Proofs.Ytalnjkeajlbbpaa
