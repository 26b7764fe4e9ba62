/- Walks: slices.Clone at items, Heap.Order (keys: strings). -/
import Derived.Test.YtalnjkeajlbbpaaHeapW8
namespace Go.Proofs.Ytalnjkeajlbbpaa
open Go.RowKit Go.Sort Go.Lib

theorem infoS : (Try.prog.info? 9).map (fun i => (i.zero, i.size, i.bytes)) = some (some (.string ByteArray.empty), 1, 16) := by kernel_rfl

theorem flatI_one (l : List (Itm ByteArray)) : ∀ u ∈ flatI SK l, u.oneCell' = true := by
  intro u hu
  obtain ⟨x, _, hx⟩ := List.mem_flatMap.1 hu
  simp [encI] at hx
  rcases hx with rfl | rfl | rfl | rfl <;> rfl

theorem wpList_append_nn {P : Program} {w : World} {ops : Array Oper} {rest : List Oper} {o : Oper} {a : Act} {Q : Exit → Act → World → Prop} (hgd : o.guard = none) (s x : Operand) (t : TypeId)
    (ho : o.op = .call { callee := .builtin .append, args := #[s, x], argTypes := #[t, t] })
    (base : Nat) (e : TypeId) (i : TypeInfo) (z : Value) (size bytes : Nat) (ht : P.underlying t = some (.slice e)) (hi : P.info? e = some i) (hz : i.zero = some z)
    (hsize : i.size = size) (hby : i.bytes = bytes) (hzs : z.cells.size = size) (hsz : 0 < size)
    (v : Value) (n : Nat) (xs : List Value) (hs : a.eval s = v) (hown : w.ownsRow base e size v n xs)
    (ad : Addr) (m c : Nat) (news : List Value) (hx : a.eval x = .slice (some ad) m c) (hl : news.length = m * size) (hnews : ∀ j u, news[j]? = some u → w.cell? (ad.add j) = some u) (h1 : ∀ u ∈ news, u.oneCell' = true)
    (h63 : n + m ≤ maxLen) (hbytes : (n + m) * bytes ≤ 140737488355328) (hbase : base ≤ w.heap.size) (hnn : v ≠ .slice none 0 0)
    (h : ∀ g cap w', w'.ownsRow base e size (.slice (some ⟨g, 0, none⟩) (n + m) cap) (n + m) (xs ++ news) → w.grownBy w' v.ownBlock → (v.ownBlock = some g ∨ g = w.heap.size) → wpList P ops Q rest (a.put o.dst (.slice (some ⟨g, 0, none⟩) (n + m) cap)) w') :
    wpList P ops Q (o :: rest) a w := by
  refine wpList_append_own_at w hgd s x t ho base e i z size bytes ht hi hz hsize hby hzs hsz v n xs hs hown ad m c news hx hl hnews h1 h63 hbytes hbase ?_
  intro v' w' h2 h3 h4 h5
  rcases h2.2 with ⟨e0, h0⟩ | ⟨g, cap, cur, rfl, _⟩
  · exact absurd (h4.1 e0).1 hnn
  · refine h g cap w' h2 h3 ?_
    rcases h5 with h5 | h5
    · exact .inl h5.symm
    · exact .inr (by simpa [Value.ownBlock] using h5)

set_option maxHeartbeats 1600000 in
/-- slices.Clone, of a slice of items that is not nil. -/
theorem clone_some {w : World} {g cap : Nat} {cur : Array Value} {l : List (Itm ByteArray)} (hg : Blk w g cur 94) (hct : cur.toList.take (l.length * 4) = flatI SK l) (hl : l.length ≤ 1000000) :
    Calls Try.prog 52 #[.slice (some ⟨g, 0, none⟩) l.length cap] w fun e w' => ∃ g' cap', e = .returned (.slice (some ⟨g', 0, none⟩) l.length cap') ∧
      w'.ownsRow w.heap.size 94 4 (.slice (some ⟨g', 0, none⟩) l.length cap') l.length (flatI SK l) ∧ Upd Non w w' ∧ w.heap.size ≤ g' := by
  obtain ⟨i0, hi, hz0, hz1, hz2⟩ := info_parts infoI
  have hnil := Lib.run_eql_slice_nil (P := Try.prog) w 89 94 (some ⟨g, 0, none⟩) l.length cap 0 0 Try.underlying89
  have hnews : ∀ j u, (flatI SK l)[j]? = some u → (w.alloc (.cells #[] 94)).cell? ((⟨g, 0, none⟩ : Addr).add j) = some u := by
    intro j u hj
    rw [Addr.add_lit, Nat.zero_add]
    refine (hg.alloc _).cell j ?_
    rw [← hct, List.getElem?_take] at hj
    split at hj
    · simpa using hj
    · cases hj
  have h1 : ∀ u ∈ flatI SK l, u.oneCell' = true := flatI_one l
  have HN := hid hnews
  have H1 := hid h1
  clear hnews h1 hct hg
  go_enter Try.func52, Try.ntmps52
  go_wp2_with (at_builtin; refine wpList_append_nn rfl (.tmp 5) (.tmp 6) 89 rfl w.heap.size 94 i0 (.agg #[.string ByteArray.empty, .int .i64 0, .int .i64 0, .int .i64 0]) 4 40 Try.underlying89 hi hz0 hz1 hz2 rfl (by decide) (.slice (some ⟨w.heap.size, 0, none⟩) 0 0) 0 [] rfl (World.ownsRow_made w #[] 0 (Nat.le_refl _) (Nat.zero_le _) rfl) ⟨g, 0, none⟩ l.length cap (flatI SK l) rfl (flatI_length SK l) HN.out H1.out (by unfold maxLen; omega) (by omega) (by simp) (by simp) ?_; intro g' cap' w1 hown1 hgrow hat)
  go_ret
  rw [Nat.zero_add] at hown1
  have hu : Upd Non w w1 := ((Upd.refl Non w).alloc _).grown hgrow (fun k hk => .inr (by simp [Value.ownBlock] at hk; omega))
  refine ⟨g', cap', by simp, by simpa using hown1, hu, ?_⟩
  rcases hat with h | h
  · simp [Value.ownBlock] at h; omega
  · simp at h; omega

instance : Inhabited (Itm ByteArray) := ⟨zeroI⟩

theorem blkK {w : World} {g : Nat} {cur : Array Value} {l : List (Itm ByteArray)} {tI : TypeId} (hg : Blk w g cur tI) (hct : cur.toList.take (l.length * 4) = flatI SK l) : HoldsK (encI SK) 4 w g 0 l.toArray := by
  intro j hj
  rw [size_flatK] at hj
  rw [get_flatK _ _ _ _ hj]
  have hj' : j < l.length * 4 := by simpa using hj
  have hi : j / 4 < l.length := by omega
  obtain ⟨x, hx⟩ : ∃ x, l[j / 4]? = some x := ⟨l[j / 4], List.getElem?_eq_getElem hi⟩
  obtain ⟨a0, a1, a2, a3⟩ := row_cells hg hct hx
  have hx' : l.toArray[j / 4]! = x := by
    have : l.toArray[j / 4]? = some x := by simpa using hx
    rw [Array.getElem!_eq_getD, Array.getD_eq_getD_getElem?, this]; rfl
  refine ⟨?_, by rw [Nat.zero_add]; exact hg.frozen j⟩
  rw [hx', Nat.zero_add]
  show w.cell? ⟨g, j, none⟩ = some ((encI SK x)[j % 4]!)
  have h4 : j % 4 = 0 ∨ j % 4 = 1 ∨ j % 4 = 2 ∨ j % 4 = 3 := by omega
  rcases h4 with h | h | h | h
  · rw [h, show j = j / 4 * 4 by omega]; exact a0
  · rw [h, show j = j / 4 * 4 + 1 by omega]; exact a1
  · rw [h, show j = j / 4 * 4 + 2 by omega]; exact a2
  · rw [h, show j = j / 4 * 4 + 3 by omega]; exact a3

theorem sortW_upd {w : World} {g n : Nat} {d : Array (Itm ByteArray)} {os : Array Obj} : Upd (fun k => k = g) w (sortWorldK (encI SK) 4 w g 0 n d os) := by
  refine ⟨rfl, rfl, rfl, ?_, fun k hk hn => ?_⟩
  · simp [sortWorldK, grow, putRowK, putRow, mapBlock, Sort.ahead]
  · unfold sortWorldK
    rw [heap_grow_old _ _ (by simpa [putRowK, putRow, mapBlock, Sort.ahead] using hk)]
    simp only [putRowK, putRow, mapBlock, Sort.ahead, Array.getElem?_modify]
    rw [if_neg (fun e => hn e.symm)]

theorem ltOf_cmpI (x y : Itm ByteArray) : ltOf cmpI x y = ltI x y := by
  unfold ltOf cmpI
  cases h1 : ltI x y with
  | true => simp
  | false => cases h2 : ltI y x <;> simp

theorem swoI : SWO (ltOf cmpI) :=
  { irrefl := fun x => by rw [ltOf_cmpI]; exact ltI_irrefl x
    trans := fun x y z h1 h2 => by rw [ltOf_cmpI] at *; exact ltI_trans h1 h2
    ntrans := fun x y z h1 h2 => by rw [ltOf_cmpI] at *; exact ltI_ntrans h1 h2 }

theorem holdsK_upd {w w' : World} {g : Nat} {d : Array (Itm ByteArray)} {S : Nat → Prop} (h : HoldsK (encI SK) 4 w g 0 d) (hg : g < w.heap.size) (hu : Upd S w w') (hn : ¬ S g) : HoldsK (encI SK) 4 w' g 0 d := by
  intro j hj
  obtain ⟨a, b⟩ := h j hj
  exact ⟨(hu.cell (p := ⟨g, 0 + j, none⟩) hg hn).trans a, (hu.frozen (p := ⟨g, 0 + j, none⟩) hg hn).trans b⟩

theorem itemK {w : World} {g : Nat} {d : Array (Itm ByteArray)} (h : HoldsK (encI SK) 4 w g 0 d) {i : Nat} {x : Itm ByteArray} (hx : d.toList[i]? = some x) :
    w.cell? ⟨g, i * 4, none⟩ = some (.string x.key) ∧ w.cell? ⟨g, i * 4 + 1, none⟩ = some (.int .i64 x.one) ∧ w.cell? ⟨g, i * 4 + 2, none⟩ = some (.int .i64 x.two) ∧ w.cell? ⟨g, i * 4 + 3, none⟩ = some (.int .i64 x.came) := by
  have hi := (List.getElem?_eq_some_iff.1 hx).1
  have hi' : i < d.size := by simpa using hi
  have hx' : d[i]! = x := by
    have : d[i]? = some x := by simpa using hx
    rw [Array.getElem!_eq_getD, Array.getD_eq_getD_getElem?, this]; rfl
  have c0 := (h.cell hi' (c := 0) (by omega)).1
  have c1 := (h.cell hi' (c := 1) (by omega)).1
  have c2 := (h.cell hi' (c := 2) (by omega)).1
  have c3 := (h.cell hi' (c := 3) (by omega)).1
  rw [hx', Nat.zero_add] at c0 c1 c2 c3
  exact ⟨c0, c1, c2, c3⟩

end Go.Proofs.Ytalnjkeajlbbpaa
