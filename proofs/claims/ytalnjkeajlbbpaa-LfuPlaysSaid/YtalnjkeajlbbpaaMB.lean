/- Texts merged by merge.py: HeapW4. -/
import Derived.Test.YtalnjkeajlbbpaaMK

/- Walk: Heap.settle (keys: strings). -/
namespace Go.Proofs.Ytalnjkeajlbbpaa
open Go.RowKit

/-- settle, at the head of its loops: x is in hand, the hole is at i. -/
structure St (w0 wr : World) (bh bm g cap n : Nat) (came : Int) (l0 l : List (Itm ByteArray)) (f : ByteArray → Option Value) (i : Nat) (x : Itm ByteArray) : Prop where
  raw : HRaw SK 91 94 wr bh bm (.slice (some ⟨g, 0, none⟩) l.length cap) l f n came
  box : Boxes wr (w0.heap.size + 1) (w0.heap.size + 1 + 1) w0.heap.size bh i x
  lt : i < l.length
  len : l.length = l0.length
  perm : (l.set i x).Perm l0
  wh : WH (l.set i x) i
  idx : IdxBut (l.set i x) f i
  upd : Upd (fun k => k = g ∨ k = bm) w0 wr
  old : g < w0.heap.size ∧ bm < w0.heap.size ∧ bh < w0.heap.size

theorem SetUpd.non {S : Nat → Prop} {a b c : World} (h : Upd S a b) (k : Upd Non b c) : Upd S a c := h.trans k (fun _ h => h.elim)

section
variable {w0 wr : World} {bh bm g cap n : Nat} {came : Int} {l0 l : List (Itm ByteArray)} {f : ByteArray → Option Value} {i : Nat} {x : Itm ByteArray}

theorem HRaw.non {P : Program} {kt : TypeId} {α : Type} {K : KeyT P kt α} {tH tI : TypeId} {w w' : World} {bh bm : Nat} {v : Value} {l : List (Itm α)} {f : α → Option Value} {n : Nat} {came : Int} (h : HRaw K tH tI w bh bm v l f n came) (hu : Upd Non w w') : HRaw K tH tI w' bh bm v l f n came :=
  h.upd hu id id (fun _ _ => id)

theorem Boxes.upd {w w' : World} {bi bx bp bh i : Nat} {x : Itm ByteArray} {S : Nat → Prop} (h : Boxes w bi bx bp bh i x) (hu : Upd S w w') (h1 : ¬ S bi) (h2 : ¬ S bx) (h3 : ¬ S bp) : Boxes w' bi bx bp bh i x :=
  ⟨h.i.upd hu h1, h.x.upd hu h2, h.p.upd hu h3⟩

theorem St.non {wr' : World} (h : St w0 wr bh bm g cap n came l0 l f i x) (hu : Upd Non wr wr') : St w0 wr' bh bm g cap n came l0 l f i x :=
  ⟨h.raw.non hu, h.box.upd hu id id id, h.lt, h.len, h.perm, h.wh, h.idx, SetUpd.non h.upd hu, h.old⟩

/-- Does x go up? -/
def UpB (l : List (Itm ByteArray)) (i : Nat) (x : Itm ByteArray) : Bool := if 0 < i then (match l[par i]? with | some z => ltI x z | none => false) else false

theorem UpB.yes (hi : i < l.length) (h : UpB l i x = true) : 0 < i ∧ ∃ z, l[par i]? = some z ∧ ltI x z = true := by
  unfold UpB at h
  split at h
  · next h0 =>
    have := par_lt h0
    refine ⟨h0, l[par i]'(by omega), List.getElem?_eq_getElem _, ?_⟩
    rwa [List.getElem?_eq_getElem (by omega)] at h
  · cases h

theorem UpB.no (hi : i < l.length) (h : UpB l i x = false) : UpOK (l.set i x) i x := by
  intro h0 z hz
  have := par_lt h0
  rw [get_one hi, if_neg (by omega)] at hz
  unfold UpB at h
  rw [if_pos h0, hz] at h
  exact h

/-- Is the right child ahead of the left one, at c? -/
def MinB (l : List (Itm ByteArray)) (c : Nat) : Bool := if c + 1 < l.length then (match l[c + 1]?, l[c]? with | some y, some z => ltI y z | _, _ => false) else false

theorem MinB.least {l : List (Itm ByteArray)} {c i : Nat} (hc : 2 * i + 1 = c) (hl : c < l.length) :
    ∃ d zd, (if MinB l c then c + 1 else c) = d ∧ l[d]? = some zd ∧ 0 < d ∧ par d = i ∧ ∀ (k : Nat) (y : Itm ByteArray), 0 < k → par k = i → l[k]? = some y → ltI y zd = false := by
  obtain ⟨zc, hzc⟩ : ∃ zc, l[c]? = some zc := ⟨l[c], List.getElem?_eq_getElem hl⟩
  have kids : ∀ k, 0 < k → par k = i → k = c ∨ k = c + 1 := by intro k h0 hk; unfold par at hk; omega
  cases hb : MinB l c with
  | true =>
    unfold MinB at hb
    split at hb
    · next h1 =>
      obtain ⟨zr, hzr⟩ : ∃ zr, l[c + 1]? = some zr := ⟨l[c + 1], List.getElem?_eq_getElem h1⟩
      rw [hzr, hzc] at hb
      refine ⟨c + 1, zr, rfl, hzr, by omega, by unfold par; omega, fun k y h0 hk hy => ?_⟩
      rcases kids k h0 hk with rfl | rfl
      · rw [hzc] at hy; cases hy; exact ltI_asymm hb
      · rw [hzr] at hy; cases hy; exact ltI_irrefl _
    · cases hb
  | false =>
    refine ⟨c, zc, rfl, hzc, by omega, by unfold par; omega, fun k y h0 hk hy => ?_⟩
    rcases kids k h0 hk with rfl | rfl
    · rw [hzc] at hy; cases hy; exact ltI_irrefl _
    · have h1 := (List.getElem?_eq_some_iff.1 hy).1
      unfold MinB at hb
      rw [if_pos h1, hy, hzc] at hb
      exact hb

theorem up_any (b : Bool) (h : St w0 wr bh bm g cap n came l0 l f i x) (hl : l0.length ≤ 1000000) (hb : Hid (UpB l i x = b)) :
    Calls Try.prog 65 #[.pointer (some ⟨w0.heap.size + 1, 0, none⟩), .pointer (some ⟨w0.heap.size + 1 + 1, 0, none⟩), .pointer (some ⟨w0.heap.size, 0, none⟩)] wr fun e w' => e = .returned (.bool b) ∧ Upd Non wr w' := by
  by_cases h0 : 0 < i
  · have hp := par_lt h0
    have hi := h.lt
    have hz : l[(i - 1) / 2]? = some (l[par i]'(by omega)) := List.getElem?_eq_getElem (by unfold par at hp; omega)
    have e : UpB l i x = ltI x (l[par i]'(by omega)) := by
      unfold UpB
      rw [if_pos h0, show l[par i]? = _ from hz]
    rw [← hb.out, e]
    exact up_is h.raw h.box h.lt (by rw [h.len]; exact hl) h0 hz
  · obtain rfl : i = 0 := by omega
    have e : UpB l 0 x = false := rfl
    rw [← hb.out, e]
    exact up_zero h.box.i

/-- x has gone up: z, its parent, has come down into the hole. -/
theorem St.up {w' : World} {z : Itm ByteArray} (h : St w0 wr bh bm g cap n came l0 l f i x) (hN : NoTwice l0) (h0 : 0 < i) (hz : l[par i]? = some z)
    (hr : HRaw SK 91 94 w' bh bm (.slice (some ⟨g, 0, none⟩) l.length cap) (l.set i z) (put f z.key (.int .i64 i)) n came) (hb : Boxes w' (w0.heap.size + 1) (w0.heap.size + 1 + 1) w0.heap.size bh (par i) x) (hu : Upd (fun k => k = g ∨ k = bm) w0 w') :
    St w0 w' bh bm g cap n came l0 (l.set i z) (put f z.key (.int .i64 i)) (par i) x := by
  have hp := par_lt h0
  have hi := h.lt
  refine ⟨by rw [List.length_set]; exact hr, hb, by rw [List.length_set]; omega, by rw [List.length_set]; exact h.len, (swap_perm hi (by omega) (by omega) hz).trans h.perm, up_step hi h0 hz h.wh, idx_step hi (by omega) hz (hN.perm h.perm) h.idx, hu, h.old⟩

/-- x has gone down: z, a child, has come up into the hole. -/
theorem St.down {w' : World} {z : Itm ByteArray} {c : Nat} (h : St w0 wr bh bm g cap n came l0 l f i x) (hN : NoTwice l0) (hc0 : 0 < c) (hpc : par c = i) (hz : l[c]? = some z) (hlt : ltI z x = true) (hmin : ∀ (j : Nat) (y : Itm ByteArray), 0 < j → par j = i → l[j]? = some y → ltI y z = false)
    (hr : HRaw SK 91 94 w' bh bm (.slice (some ⟨g, 0, none⟩) l.length cap) (l.set i z) (put f z.key (.int .i64 i)) n came) (hb : Boxes w' (w0.heap.size + 1) (w0.heap.size + 1 + 1) w0.heap.size bh c x) (hu : Upd (fun k => k = g ∨ k = bm) w0 w') :
    St w0 w' bh bm g cap n came l0 (l.set i z) (put f z.key (.int .i64 i)) c x ∧ UpOK ((l.set i z).set c x) c x := by
  have hp := par_lt hc0
  have hi := h.lt
  have hcl := (List.getElem?_eq_some_iff.1 hz).1
  obtain ⟨a1, a2⟩ := down_step hi hc0 hpc hz h.wh hlt hmin
  exact ⟨⟨by rw [List.length_set]; exact hr, hb, by rw [List.length_set]; exact hcl, by rw [List.length_set]; exact h.len, (swap_perm hi hcl (by omega) hz).trans h.perm, a1, idx_step hi (by omega) hz (hN.perm h.perm) h.idx, hu, h.old⟩, a2⟩

theorem St.key_ok (h : St w0 wr bh bm g cap n came l0 l f i x) (hok : ∀ y ∈ l0, y.key.size ≤ maxLen) {j : Nat} {z : Itm ByteArray} (hj : j ≠ i) (hz : l[j]? = some z) : z.key.size ≤ maxLen ∧ (f z.key).isSome = true := by
  have e : (l.set i x)[j]? = some z := by rw [get_one h.lt, if_neg hj]; exact hz
  exact ⟨hok z (h.perm.mem_iff.1 (List.mem_iff_getElem?.2 ⟨j, e⟩)), (h.idx.2 _).2 ⟨j, z, e, rfl⟩⟩

theorem St.x_ok (h : St w0 wr bh bm g cap n came l0 l f i x) (hok : ∀ y ∈ l0, y.key.size ≤ maxLen) : x.key.size ≤ maxLen ∧ (f x.key).isSome = true := by
  have e : (l.set i x)[i]? = some x := by rw [get_one h.lt, if_pos rfl]
  exact ⟨hok x (h.perm.mem_iff.1 (List.mem_iff_getElem?.2 ⟨i, e⟩)), (h.idx.2 _).2 ⟨i, x, e, rfl⟩⟩

/-- The cells that settle reads. -/
theorem St.cells (h : St w0 wr bh bm g cap n came l0 l f i x) :
    wr.cell? ⟨w0.heap.size + 1, 0, none⟩ = some (.int .i64 i) ∧ wr.cell? ⟨w0.heap.size, 0, none⟩ = some (.pointer (some ⟨bh, 0, none⟩)) ∧ wr.cell? ⟨bh, 0, none⟩ = some (.slice (some ⟨g, 0, none⟩) l.length cap) ∧
    wr.cell? ⟨w0.heap.size + 1 + 1, 0, none⟩ = some (.string x.key) ∧ wr.cell? ⟨w0.heap.size + 1 + 1, 1, none⟩ = some (.int .i64 x.one) ∧ wr.cell? ⟨w0.heap.size + 1 + 1, 2, none⟩ = some (.int .i64 x.two) ∧ wr.cell? ⟨w0.heap.size + 1 + 1, 3, none⟩ = some (.int .i64 x.came) :=
  ⟨h.box.i.cell 0 rfl, h.box.p.cell 0 rfl, h.raw.st.cell 0 rfl, h.box.x.cell 0 rfl, h.box.x.cell 1 rfl, h.box.x.cell 2 rfl, h.box.x.cell 3 rfl⟩

theorem St.item (h : St w0 wr bh bm g cap n came l0 l f i x) {j : Nat} {z : Itm ByteArray} (hz : l[j]? = some z) :
    wr.cell? ⟨g, j * 4, none⟩ = some (.string z.key) ∧ wr.cell? ⟨g, j * 4 + 1, none⟩ = some (.int .i64 z.one) ∧ wr.cell? ⟨g, j * 4 + 2, none⟩ = some (.int .i64 z.two) ∧ wr.cell? ⟨g, j * 4 + 3, none⟩ = some (.int .i64 z.came) := by
  have hi := h.lt
  obtain ⟨g', cap', cur, hv, hg, hcl, hcm, hcs, hct⟩ := h.raw.open (by intro e; subst e; simp at hi)
  obtain ⟨rfl, rfl⟩ : g = g' ∧ cap = cap' := by simpa using hv
  exact row_cellsS hg hct hz

theorem St.g_lt (h : St w0 wr bh bm g cap n came l0 l f i x) : g < wr.heap.size ∧ g ≠ bh ∧ g ≠ bm ∧ bm < wr.heap.size ∧ w0.heap.size + 1 + 1 < wr.heap.size := by
  have hi := h.lt
  obtain ⟨g', cap', cur, hv, hg, hcl, hcm, hcs, hct⟩ := h.raw.open (by intro e; subst e; simp at hi)
  obtain ⟨rfl, rfl⟩ : g = g' ∧ cap = cap' := by simpa using hv
  exact ⟨hg.lt, fun e => h.raw.hv.1 (by simp [Value.ownBlock, e]), fun e => h.raw.hv.2 (by simp [Value.ownBlock, e]), h.raw.mp.lt, h.box.x.lt⟩
end

set_option maxRecDepth 100000 in
set_option maxHeartbeats 4000000 in
theorem settle_is {w : World} {bh bm g cap n i : Nat} {l0 : List (Itm ByteArray)} {f0 : ByteArray → Option Value} {came : Int} {x : Itm ByteArray}
    (h : HRaw SK 91 94 w bh bm (.slice (some ⟨g, 0, none⟩) l0.length cap) l0 f0 n came) (hx : l0[i]? = some x) (hl : l0.length ≤ 1000000) (hn : n ≤ 1000000) (hok : ∀ y ∈ l0, y.key.size ≤ maxLen)
    (hWH : WH l0 i) (hN : NoTwice l0) (hI : Idx l0 f0) :
    Calls Try.prog 51 #[.pointer (some ⟨bh, 0, none⟩), .int .i64 i] w fun e w' => e = .returned (.tuple #[]) ∧
      ∃ l f, HRaw SK 91 94 w' bh bm (.slice (some ⟨g, 0, none⟩) l.length cap) l f n came ∧ l.Perm l0 ∧ Heapd l ∧ Idx l f ∧ Upd (fun k => k = g ∨ k = bm) w w' := by
  have hi := (List.getElem?_eq_some_iff.1 hx).1
  obtain ⟨g', cap', cur, hv, hg, hcl, hcm, hcs, hct⟩ := h.open (by intro e; subst e; simp at hi)
  obtain ⟨rfl, rfl⟩ : g = g' ∧ cap = cap' := by simpa using hv
  obtain ⟨g0, g1, g2, g3⟩ := row_cellsS hg hct hx
  have c0 : w.cell? ⟨bh, 0, none⟩ = some (.slice (some ⟨g, 0, none⟩) l0.length cap) := h.st.cell 0 rfl
  have hbh := h.st.lt
  have hbg := hg.lt
  have hbh1 : bh < w.heap.size + 1 := by omega
  have hbg1 : g < w.heap.size + 1 := by omega
  have hbh2 : bh < w.heap.size + 1 + 1 := by omega
  have hbg2 : g < w.heap.size + 1 + 1 := by omega
  have hi0 : (0 : Int) ≤ (i : Int) := by omega
  have hi1 : (i : Int) < (l0.length : Int) := by omega
  clear hv hcs hct hcm
  have HX := hid hx
  clear hx
  go_enter Try.func51, Try.ntmps51
  go_wp2
  go_region
  generalize hW : World.drew _ = w1
  have HS : St w w1 bh bm g cap n came l0 l0 f0 i x := by
    have hxx := HX.out
    have hself : l0.set i x = l0 := by
      apply List.ext_getElem?
      intro j
      rw [get_one hi]
      split
      · next e => rw [e, hxx]
      · rfl
    rw [← hW]
    refine ⟨(((h.alloc _).alloc _).alloc _).drew, ⟨(((Blk.new' (w.heap.size + 1) _ _ (by simp)).alloc _)).drew, (Blk.new' (w.heap.size + 1 + 1) _ _ (by simp)).drew, (((Blk.new w _ _).alloc _).alloc _).drew⟩, hi, rfl, by rw [hself], by rw [hself]; exact hWH, ?_, ((((Upd.refl _ w).alloc _).alloc _).alloc _).drew, ⟨hbg, h.mp.lt, hbh⟩⟩
    rw [hself]
    exact ⟨fun j y _ hy => hI.1 j y hy, hI.2⟩
  clear hW h hg c0 g0 g1 g2 g3 hi0 hi1 HX hcl hbh hbg hbh1 hbg1 hbh2 hbg2
  go_wp2
  go_loopg [16] l0.length (fun k _ wr => ∃ l f i, i ≤ k ∧ St w wr bh bm g cap n came l0 l f i x)
  case atStart => exact ⟨l0, f0, i, by omega, HS⟩
  case round =>
    clear HS
    obtain ⟨l, f, j, hjk, HS⟩ := hrel
    cases hb : UpB l j x with
    | true =>
      have HB := hid hb
      clear hb
      go_wp2_with fail
      refine (up_any true HS hl HB).mono ?_
      rintro e w2 ⟨rfl, hU⟩
      have HS2 := HS.non hU
      obtain ⟨h0, z, hz, _⟩ := UpB.yes HS.lt HB.out
      obtain ⟨hzk, hzs⟩ := HS2.key_ok hok (by have := par_lt h0; omega) hz
      clear HS HB hU
      have hjl := HS2.lt
      obtain ⟨i0, p0, c0, -⟩ := HS2.cells
      obtain ⟨g0, g1, g2, g3⟩ := HS2.item hz
      obtain ⟨q, hq⟩ : ∃ q, par j = q := ⟨_, rfl⟩
      have hql : q < l.length := by have := par_lt h0; omega
      have hw1 : IntKind.i64.wrap ((j : Int) - 1) = (j : Int) - 1 := by have := HS2.len; rw [IntKind.wrap_i64]; omega
      have hw2 : IntKind.i64.wrap (((j : Int) - 1).tdiv 2) = (q : Int) := by have := HS2.len; unfold par at hq; rw [Int.tdiv_eq_ediv_of_nonneg (by omega), IntKind.wrap_i64]; omega
      have hq0 : (0 : Int) ≤ (q : Int) := by omega
      have hq1 : (q : Int) < (l.length : Int) := by omega
      rw [hq] at g0 g1 g2 g3
      have HP := put_is z HS2.raw.drew hjl (by have := HS2.len; omega) hn hzk
      rw [if_pos hzs] at HP
      have HZ := hid hz
      have HQ := hid hq
      clear hz hq hzs hzk
      go_wp2_with fail
      refine wp_region_still_tail 11 (by kernel_rfl) (by kernel_rfl) ?_
      simp only [List.take_succ_cons, List.take_zero, List.drop_succ_cons, List.drop_zero]
      change wpStill _ _ (World.drew w2) (fun a' => wpList _ _ _ _ a' (World.drew w2)) _ _
      repeat still_step
      refine wpStill_nil ?_
      go_wp2_with fail
      refine HP.mono ?_
      rintro e w3 ⟨rfl, hr3, hu3⟩
      clear HP
      have hold := HS2.old
      have hu3' := hu3.drew0
      have hB3 := HS2.box.upd hu3' (by intro e; rcases e with e | e <;> omega) (by intro e; rcases e with e | e <;> omega) (by intro e; rcases e with e | e <;> omega)
      have k0 : w3.cell? ⟨w.heap.size + 1, 0, none⟩ = some (.int .i64 j) := hB3.i.cell 0 rfl
      have k1 := hB3.i.frozen 0
      go_wp2
      go_roundg q
      case measure => have := par_lt h0; have := HQ.out; omega
      case rel =>
        obtain rfl := HQ.out
        refine ⟨l.set j z, put f z.key (.int .i64 j), par j, Nat.le_refl _, HS2.up hN h0 HZ.out ?_ ?_ ?_⟩
        · exact hr3.upd ((Upd.refl (fun k => k = w.heap.size + 1) w3).set1 0 _) (by have := hr3.st.lt; show ¬ bh = _; omega) (by show ¬ bm = _; omega) (fun k hk => by show ¬ k = _; simp [Value.ownBlock] at hk; omega)
        · exact ⟨hB3.i.set 0 _, hB3.x.setOther (by simp) _, hB3.p.setOther (by simp) _⟩
        · exact (HS2.upd.trans hu3' (fun k hk => .inl hk)).setCell (p := ⟨w.heap.size + 1, 0, none⟩) (.inr (by simp)) _
    | false =>
      have hU0 := UpB.no HS.lt hb
      have HB := hid hb
      clear hb
      go_wp2_with fail
      refine (up_any false HS hl HB).mono ?_
      rintro e w2 ⟨rfl, hU⟩
      have HS2 := HS.non hU
      clear HS HB hU
      obtain ⟨i0, -⟩ := HS2.cells
      have hjl := HS2.lt
      have hlen := hid HS2.len
      have hjb : j < 1000000 := by have := HS2.len; omega
      go_wp2
      go_loopg [6] l0.length (fun k s6 wr => ∃ (l : List (Itm ByteArray)) (f : ByteArray → Option Value) (i : Nat), l0.length - i ≤ k ∧ s6 = .int .i64 ((2 * i + 1 : Nat) : Int) ∧ St w wr bh bm g cap n came l0 l f i x ∧ UpOK (l.set i x) i x)
      case atStart => exact ⟨l, f, j, by omega, by go_num, HS2, hU0⟩
      case round =>
        clear HS2 hU0 i0 hjl hlen hjb hjk
        obtain ⟨l, f, i, hik, rfl, HS, hU⟩ := hrel
        obtain ⟨i0, p0, c0, x0, x1, x2, x3⟩ := HS.cells
        obtain ⟨c, hcd⟩ : ∃ c, 2 * i + 1 = c := ⟨_, rfl⟩
        rw [hcd]
        have HC := hid hcd
        clear hcd
        have hil := HS.lt
        have hlen := hid HS.len
        by_cases hc : c < l.length
        · obtain ⟨zc, hzc⟩ : ∃ zc, l[c]? = some zc := ⟨l[c], List.getElem?_eq_getElem hc⟩
          obtain ⟨b, hb⟩ : ∃ b : Bool, MinB l c = b := ⟨_, rfl⟩
          have HB := hid hb
          clear hb
          have hcb : c + 1 < 2000000 := by have := hlen.out; omega
          have hcn : (c : Int) < (l.length : Int) := by omega
          go_upto_region 9 with (fail)
          go_cut [70] (fun s70 wc => s70 = .bool b ∧ St w wc bh bm g cap n came l0 l f i x)
          case first =>
            obtain ⟨g0, g1, g2, g3⟩ := HS.item hzc
            have hw1 : IntKind.i64.wrap ((c : Int) + 1) = (c : Int) + 1 := by rw [IntKind.wrap_i64]; omega
            by_cases hc1 : c + 1 < l.length
            · obtain ⟨zr, hzr⟩ : ∃ zr, l[c + 1]? = some zr := ⟨l[c + 1], List.getElem?_eq_getElem hc1⟩
              obtain ⟨r0, r1, r2, r3⟩ := HS.item hzr
              have hA := fun W => ahead_is zr.key zc.key zr.one zr.two zr.came zc.one zc.two zc.came b W (by rw [← HB.out, MinB, if_pos hc1, hzr, hzc]; exact hid rfl)
              have hw2 : ((c : Int) + 1).toNat = c + 1 := by omega
              have hw3 : (c : Int) + 1 < (l.length : Int) := by omega
              have hw4 : (0 : Int) ≤ (c : Int) + 1 := by omega
              have HZ := hid hzc
              have HR := hid hzr
              clear hzc hzr
              refine wp_region_still_tail 24 (by kernel_rfl) (by kernel_rfl) ?_
              simp only [List.take_succ_cons, List.take_zero, List.drop_succ_cons, List.drop_zero]
              change wpStill _ _ (World.drew wr) (fun a' => wpList _ _ _ _ a' (World.drew wr)) _ _
              repeat still_step
              refine wpStill_nil ?_
              go_wp2_with fail
              refine (hA _).mono ?_
              rintro e w3 ⟨rfl, hU3⟩
              go_wp2_with fail
              go_meet
              exact ⟨rfl, HS.non hU3.drew0⟩
            · obtain rfl : false = b := by rw [← HB.out, MinB, if_neg hc1]
              have hd : decide ((c : Int) + 1 < (l.length : Int)) = false := by simp; omega
              clear hzc
              go_quiet (fail)
              go_wp2_with fail
              go_meet
              exact ⟨rfl, HS.non ((Upd.refl Non wr).drewN nq)⟩
          case rest =>
            obtain ⟨rfl, HS2⟩ := hcut
            clear i0 p0 c0 x0 x1 x2 x3
            have hD : ∃ d zd, (if b then c + 1 else c) = d ∧ l[d]? = some zd ∧ 0 < d ∧ par d = i ∧ ∀ (k : Nat) (y : Itm ByteArray), 0 < k → par k = i → l[k]? = some y → ltI y zd = false := by
              rw [← HB.out]; exact MinB.least HC.out hc
            obtain ⟨d, zd, hd, hzd, hd0, hpd, hmin⟩ := hD
            have HD := hid hd
            clear hd hzc
            go_upto_if 70 with (fail)
            go_cut [6] (fun s6 wk => s6 = .int .i64 d ∧ St w wk bh bm g cap n came l0 l f i x)
            case first =>
              have HM := hid hmin
              have HZ := hid hzd
              have HP' := hid hpd
              clear hmin hzd hpd
              cases b with
              | true =>
                obtain rfl : c + 1 = d := HD.out
                clear HD
                go_wp2_with fail
                go_meet
                exact ⟨by go_num, HS2⟩
              | false =>
                obtain rfl : c = d := HD.out
                clear HD
                go_wp2_with fail
                go_meet
                exact ⟨rfl, HS2⟩
            case rest =>
              clear HS2
              obtain ⟨rfl, HS3⟩ := hcut
              clear HB HD hc hcn hcb HC
              have hdl := (List.getElem?_eq_some_iff.1 hzd).1
              obtain ⟨i0, p0, c0, x0, x1, x2, x3⟩ := HS3.cells
              obtain ⟨g0, g1, g2, g3⟩ := HS3.item hzd
              have hA := fun t W ht => ahead_is zd.key x.key zd.one zd.two zd.came x.one x.two x.came t W ht
              obtain ⟨hzk, hzs⟩ := HS3.key_ok hok (by have := par_lt hd0; omega) hzd
              have HM := hid hmin
              have HZ := hid hzd
              have HP' := hid hpd
              have HZS := hid hzs
              clear hmin hzd hpd hzs
              have hdn : (d : Int) < (l.length : Int) := by omega
              have hd1 : (0 : Int) ≤ (d : Int) := by omega
              cases ht : ltI zd x with
              | false =>
                have hA' := fun W => hA false W (hid ht)
                have HT := hid ht
                clear ht hA
                go_wp2_with fail
                refine wp_region_still_tail 8 (by kernel_rfl) (by kernel_rfl) ?_
                simp only [List.take_succ_cons, List.take_zero, List.drop_succ_cons, List.drop_zero]
                change wpStill _ _ (World.drew _) (fun a' => wpList _ _ _ _ a' (World.drew _)) _ _
                repeat still_step
                refine wpStill_nil ?_
                go_wp2_with fail
                refine (hA' _).mono ?_
                rintro e w3 ⟨rfl, hU3⟩
                have HS4 := HS3.non hU3.drew0
                clear HS3 hU3 i0 p0 c0 x0 x1 x2 x3 g0 g1 g2 g3 hA'
                obtain ⟨i0, p0, c0, x0, x1, x2, x3⟩ := HS4.cells
                obtain ⟨hxk, hxs⟩ := HS4.x_ok hok
                have HP := put_is x HS4.raw hil (by have := HS4.len; omega) hn hxk
                rw [if_pos hxs] at HP
                have HXS := hid hxs
                clear hxs
                go_wp2_with fail
                refine HP.mono ?_
                rintro e w5 ⟨rfl, hr5, hu5⟩
                go_wp2
                go_end0
                have hend : Heapd (l.set i x) := down_stop hil HS4.wh hU (fun k y hk0 hpk hy => ltI_ntrans (HM.out k y hk0 hpk hy) HT.out)
                exact ⟨rfl, l.set i x, put f x.key (.int .i64 i), by rw [List.length_set]; exact hr5, HS4.perm, hend, idx_end hil (hN.perm HS4.perm) HS4.idx, HS4.upd.trans hu5 (fun k hk => .inl hk)⟩
              | true =>
                have hA' := fun W => hA true W (hid ht)
                have HT := hid ht
                clear ht hA
                go_wp2_with fail
                refine wp_region_still_tail 8 (by kernel_rfl) (by kernel_rfl) ?_
                simp only [List.take_succ_cons, List.take_zero, List.drop_succ_cons, List.drop_zero]
                change wpStill _ _ (World.drew _) (fun a' => wpList _ _ _ _ a' (World.drew _)) _ _
                repeat still_step
                refine wpStill_nil ?_
                go_wp2_with fail
                refine (hA' _).mono ?_
                rintro e w3 ⟨rfl, hU3⟩
                have HS4 := HS3.non hU3.drew0
                clear HS3 hU3 i0 p0 c0 x0 x1 x2 x3 g0 g1 g2 g3 hA'
                obtain ⟨i0, p0, c0, x0, x1, x2, x3⟩ := HS4.cells
                obtain ⟨g0, g1, g2, g3⟩ := HS4.item HZ.out
                have HP := put_is zd HS4.raw.drew hil (by have := HS4.len; omega) hn hzk
                rw [if_pos HZS.out] at HP
                go_wp2_with fail
                refine wp_region_still_tail 9 (by kernel_rfl) (by kernel_rfl) ?_
                simp only [List.take_succ_cons, List.take_zero, List.drop_succ_cons, List.drop_zero]
                change wpStill _ _ (World.drew _) (fun a' => wpList _ _ _ _ a' (World.drew _)) _ _
                repeat still_step
                refine wpStill_nil ?_
                go_wp2_with fail
                refine HP.mono ?_
                rintro e w5 ⟨rfl, hr5, hu5⟩
                clear HP
                have hold := HS4.old
                have hu5' := hu5.drew0
                have hB5 := HS4.box.upd hu5' (by intro e; rcases e with e | e <;> omega) (by intro e; rcases e with e | e <;> omega) (by intro e; rcases e with e | e <;> omega)
                have hB6 : Boxes (w5.setCell ⟨w.heap.size + 1, 0, none⟩ (.int .i64 d)) (w.heap.size + 1) (w.heap.size + 1 + 1) w.heap.size bh d x := ⟨hB5.i.set 0 _, hB5.x.setOther (by simp) _, hB5.p.setOther (by simp) _⟩
                have hr6 := hr5.upd ((Upd.refl (fun k => k = w.heap.size + 1) w5).set1 0 (.int .i64 d)) (by show ¬ bh = _; omega) (by show ¬ bm = _; omega) (fun k hk => by show ¬ k = _; simp [Value.ownBlock] at hk; omega)
                have hu6 := (HS4.upd.trans hu5' (fun k hk => .inl hk)).setCell (p := ⟨w.heap.size + 1, 0, none⟩) (.inr (by simp)) (.int .i64 d)
                have hfin := HS4.down hN hd0 HP'.out HZ.out HT.out HM.out hr6 hB6 hu6
                have k0 : w5.cell? ⟨w.heap.size + 1, 0, none⟩ = some (.int .i64 i) := hB5.i.cell 0 rfl
                have k1 := hB5.i.frozen 0
                have k2 : (w5.setCell ⟨w.heap.size + 1, 0, none⟩ (.int .i64 d)).cell? ⟨w.heap.size + 1, 0, none⟩ = some (.int .i64 d) := hB6.i.cell 0 rfl
                have hdb : d < 1000000 := by have := hlen.out; omega
                clear hr6 hB6 hu6 hr5 hu5 hu5'
                go_wp2
                go_roundg (l0.length - d)
                case measure => have := par_lt hd0; have := HP'.out; have := hlen.out; omega
                case rel => exact ⟨l.set i zd, put f zd.key (.int .i64 i), d, Nat.le_refl _, by go_num, hfin.1, hfin.2⟩
        · obtain ⟨hxk, hxs⟩ := HS.x_ok hok
          have HP := put_is x HS.raw hil (by have := HS.len; omega) hn hxk
          rw [if_pos hxs] at HP
          have HXS := hid hxs
          clear hxs
          go_wp2_with fail
          refine HP.mono ?_
          rintro e w3 ⟨rfl, hr3, hu3⟩
          go_wp2
          go_end0
          have hend : Heapd (l.set i x) := down_stop hil HS.wh hU (fun k y hk0 hpk hy => by
            have := (List.getElem?_eq_some_iff.1 hy).1
            have := HC.out
            unfold par at hpk
            omega)
          exact ⟨rfl, l.set i x, put f x.key (.int .i64 i), by rw [List.length_set]; exact hr3, HS.perm, hend, idx_end hil (hN.perm HS.perm) HS.idx, HS.upd.trans hu3 (fun k hk => .inl hk)⟩

end Go.Proofs.Ytalnjkeajlbbpaa
