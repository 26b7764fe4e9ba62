/- The heap in memory: its struct, its row of items, its map; plain lemmas on flat rows. -/
import Derived.Test.YtalnjkeajlbbpaaBase
namespace Go.Proofs.Ytalnjkeajlbbpaa
open Go.RowKit

/-- An item: a key, its rank, when it came to have it. -/
structure Itm (α : Type) where
  key : α
  one : Int
  two : Int
  came : Int

variable {P : Program} {kt : TypeId} {α : Type}

def encI (K : KeyT P kt α) (x : Itm α) : List Value := [K.val x.key, .int .i64 x.one, .int .i64 x.two, .int .i64 x.came]
def flatI (K : KeyT P kt α) (l : List (Itm α)) : List Value := l.flatMap (encI K)

theorem flatI_cons (K : KeyT P kt α) (x : Itm α) (l : List (Itm α)) : flatI K (x :: l) = K.val x.key :: .int .i64 x.one :: .int .i64 x.two :: .int .i64 x.came :: flatI K l := rfl
theorem flatI_nil (K : KeyT P kt α) : flatI K [] = [] := rfl
theorem flatI_append (K : KeyT P kt α) (a b : List (Itm α)) : flatI K (a ++ b) = flatI K a ++ flatI K b := by simp [flatI]
theorem flatI_length (K : KeyT P kt α) (l : List (Itm α)) : (flatI K l).length = l.length * 4 := by
  induction l with
  | nil => rfl
  | cons x l ih => rw [flatI_cons]; simp [ih]; omega

theorem flatI_get (K : KeyT P kt α) : ∀ (l : List (Itm α)) (i : Nat) (x : Itm α), l[i]? = some x →
    (flatI K l)[i * 4]? = some (K.val x.key) ∧ (flatI K l)[i * 4 + 1]? = some (.int .i64 x.one) ∧ (flatI K l)[i * 4 + 2]? = some (.int .i64 x.two) ∧ (flatI K l)[i * 4 + 3]? = some (.int .i64 x.came)
  | [], i, x, h => by simp at h
  | y :: l, 0, x, h => by simp at h; subst h; rw [flatI_cons]; simp
  | y :: l, i + 1, x, h => by
    have := flatI_get K l i x (by simpa using h)
    rw [flatI_cons, show (i + 1) * 4 = i * 4 + 4 by omega]
    exact this

def set4 (xs : List Value) (a : Nat) (v0 v1 v2 v3 : Value) : List Value := (((xs.set a v0).set (a + 1) v1).set (a + 2) v2).set (a + 3) v3

theorem flatI_set (K : KeyT P kt α) (x : Itm α) : ∀ (l : List (Itm α)) (i : Nat), flatI K (l.set i x) = set4 (flatI K l) (i * 4) (K.val x.key) (.int .i64 x.one) (.int .i64 x.two) (.int .i64 x.came)
  | [], i => by simp [flatI_nil, set4]
  | y :: l, 0 => by simp [flatI_cons, set4]
  | y :: l, i + 1 => by
    rw [List.set_cons_succ, flatI_cons, flatI_cons, flatI_set K x l i, show (i + 1) * 4 = i * 4 + 4 by omega]
    rfl

theorem flatI_take (K : KeyT P kt α) : ∀ (l : List (Itm α)) (n : Nat), flatI K (l.take n) = (flatI K l).take (n * 4)
  | [], n => by simp [flatI_nil]
  | y :: l, 0 => by simp [flatI_nil]
  | y :: l, n + 1 => by
    rw [List.take_succ_cons, flatI_cons, flatI_cons, flatI_take K l n, show (n + 1) * 4 = n * 4 + 4 by omega]
    rfl

/-- The heap's memory: the struct at bh; v its slice, which holds the items l; bm its map. -/
structure HRaw (K : KeyT P kt α) (tH tI : TypeId) (w : World) (bh bm : Nat) (v : Value) (l : List (Itm α)) (f : α → Option Value) (n : Nat) (came : Int) : Prop where
  st : Blk w bh #[v, .map (some bm), .int .i64 came] tH
  row : w.ownsRow 0 tI 4 v l.length (flatI K l)
  mp : MapA K w bm f n
  hm : bh ≠ bm
  hv : v.ownBlock ≠ some bh ∧ v.ownBlock ≠ some bm

theorem ownsRow_upd {w w' : World} {base : Nat} {e : TypeId} {size : Nat} {v : Value} {n : Nat} {xs : List Value} {S : Nat → Prop} (h : w.ownsRow base e size v n xs) (hu : Upd S w w') (hn : ∀ k, v.ownBlock = some k → ¬ S k) : w'.ownsRow base e size v n xs := by
  refine ⟨h.1, ?_⟩
  rcases h.2 with h0 | ⟨g, cap, cur, rfl, hb, hg, r⟩
  · exact .inl h0
  · exact .inr ⟨g, cap, cur, rfl, hb, hu.heap hg (hn g rfl), r⟩

theorem HRaw.upd {K : KeyT P kt α} {tH tI : TypeId} {w w' : World} {bh bm : Nat} {v : Value} {l : List (Itm α)} {f : α → Option Value} {n : Nat} {came : Int} {S : Nat → Prop} (h : HRaw K tH tI w bh bm v l f n came) (hu : Upd S w w')
    (h1 : ¬ S bh) (h2 : ¬ S bm) (h3 : ∀ k, v.ownBlock = some k → ¬ S k) : HRaw K tH tI w' bh bm v l f n came :=
  ⟨h.st.upd hu h1, ownsRow_upd h.row hu h3, h.mp.upd hu h2, h.hm, h.hv⟩

theorem HRaw.alloc {K : KeyT P kt α} {tH tI : TypeId} {w : World} {bh bm : Nat} {v : Value} {l : List (Itm α)} {f : α → Option Value} {n : Nat} {came : Int} (h : HRaw K tH tI w bh bm v l f n came) (o : Obj) : HRaw K tH tI (w.alloc o) bh bm v l f n came :=
  h.upd ((Upd.refl Non w).alloc o) id id (fun _ _ => id)
theorem HRaw.drew {K : KeyT P kt α} {tH tI : TypeId} {w : World} {bh bm : Nat} {v : Value} {l : List (Itm α)} {f : α → Option Value} {n : Nat} {came : Int} (h : HRaw K tH tI w bh bm v l f n came) : HRaw K tH tI w.drew bh bm v l f n came := ⟨h.1, h.2, h.3, h.4, h.5⟩

/-- The slice of a heap that is not empty, written out; its block. -/
theorem HRaw.open {K : KeyT P kt α} {tH tI : TypeId} {w : World} {bh bm : Nat} {v : Value} {l : List (Itm α)} {f : α → Option Value} {n : Nat} {came : Int} (h : HRaw K tH tI w bh bm v l f n came) (hl : l ≠ []) :
    ∃ g cap cur, v = .slice (some ⟨g, 0, none⟩) l.length cap ∧ Blk w g cur tI ∧ l.length ≤ cap ∧ cap ≤ maxLen ∧ cur.size = cap * 4 ∧ cur.toList.take (l.length * 4) = flatI K l := by
  rcases h.row.2 with ⟨_, h0⟩ | ⟨g, cap, cur, rfl, _, hg, r⟩
  · exact absurd (List.length_eq_zero_iff.1 h0) hl
  · exact ⟨g, cap, cur, rfl, hg, r⟩

/-- What item i's four cells hold. -/
theorem row_cells {K : KeyT P kt α} {tI : TypeId} {w : World} {g : Nat} {cur : Array Value} {l : List (Itm α)} (hg : Blk w g cur tI) (ht : cur.toList.take (l.length * 4) = flatI K l) {i : Nat} {x : Itm α} (hx : l[i]? = some x) :
    w.cell? ⟨g, i * 4, none⟩ = some (K.val x.key) ∧ w.cell? ⟨g, i * 4 + 1, none⟩ = some (.int .i64 x.one) ∧ w.cell? ⟨g, i * 4 + 2, none⟩ = some (.int .i64 x.two) ∧ w.cell? ⟨g, i * 4 + 3, none⟩ = some (.int .i64 x.came) := by
  obtain ⟨a0, a1, a2, a3⟩ := flatI_get K l i x hx
  have hi := (List.getElem?_eq_some_iff.1 hx).1
  have key : ∀ (j : Nat) (v : Value), (flatI K l)[j]? = some v → cur[j]? = some v := by
    intro j v hj
    rw [← ht, List.getElem?_take] at hj
    split at hj
    · simpa using hj
    · cases hj
  exact ⟨hg.cell _ (key _ _ a0), hg.cell _ (key _ _ a1), hg.cell _ (key _ _ a2), hg.cell _ (key _ _ a3)⟩

/-- Four stores at item i. -/
theorem row_set {K : KeyT P kt α} {cur : Array Value} {l : List (Itm α)} (ht : cur.toList.take (l.length * 4) = flatI K l) (i : Nat) (x : Itm α) :
    ((((cur.setIfInBounds (i * 4) (K.val x.key)).setIfInBounds (i * 4 + 1) (.int .i64 x.one)).setIfInBounds (i * 4 + 2) (.int .i64 x.two)).setIfInBounds (i * 4 + 3) (.int .i64 x.came)).toList.take ((l.set i x).length * 4) = flatI K (l.set i x) := by
  rw [flatI_set, ← ht, List.length_set]
  simp only [Array.toList_setIfInBounds, set4, List.take_set]

theorem Upd.set1 {g : Nat} {a w : World} (h : Upd (fun k => k = g) a w) (o : Nat) (u : Value) : Upd (fun k => k = g) a (w.setCell ⟨g, o, none⟩ u) := h.setCell (p := ⟨g, o, none⟩) (.inl rfl) u

/-- Item i written over, cell by cell. -/
theorem HRaw.set4 {K : KeyT P kt α} {tH tI : TypeId} {w : World} {bh bm g cap : Nat} {l : List (Itm α)} {f : α → Option Value} {n : Nat} {came : Int} (h : HRaw K tH tI w bh bm (.slice (some ⟨g, 0, none⟩) l.length cap) l f n came) (i : Nat) (x : Itm α) :
    HRaw K tH tI ((((w.setCell ⟨g, i * 4, none⟩ (K.val x.key)).setCell ⟨g, i * 4 + 1, none⟩ (.int .i64 x.one)).setCell ⟨g, i * 4 + 2, none⟩ (.int .i64 x.two)).setCell ⟨g, i * 4 + 3, none⟩ (.int .i64 x.came)) bh bm (.slice (some ⟨g, 0, none⟩) l.length cap) (l.set i x) f n came ∧
    Upd (fun k => k = g) w ((((w.setCell ⟨g, i * 4, none⟩ (K.val x.key)).setCell ⟨g, i * 4 + 1, none⟩ (.int .i64 x.one)).setCell ⟨g, i * 4 + 2, none⟩ (.int .i64 x.two)).setCell ⟨g, i * 4 + 3, none⟩ (.int .i64 x.came)) := by
  have hu : Upd (fun k => k = g) w ((((w.setCell ⟨g, i * 4, none⟩ (K.val x.key)).setCell ⟨g, i * 4 + 1, none⟩ (.int .i64 x.one)).setCell ⟨g, i * 4 + 2, none⟩ (.int .i64 x.two)).setCell ⟨g, i * 4 + 3, none⟩ (.int .i64 x.came)) :=
    ((((Upd.refl _ w).set1 _ _).set1 _ _).set1 _ _).set1 _ _
  have hgh : bh ≠ g := fun e => h.hv.1 (by simp [Value.ownBlock, e])
  have hgm : bm ≠ g := fun e => h.hv.2 (by simp [Value.ownBlock, e])
  refine ⟨⟨h.st.upd hu hgh, ?_, h.mp.upd hu hgm, h.hm, h.hv⟩, hu⟩
  rcases h.row.2 with ⟨h0, _⟩ | ⟨g', cap', cur, hv, hb, hg, hcl, hcm, hcs, hct⟩
  · cases h0
  · obtain ⟨rfl, rfl⟩ : g = g' ∧ cap = cap' := by simpa using hv
    refine ⟨by rw [flatI_length], .inr ⟨g, cap, _, by simp, hb, (((Blk.set (vs := cur) hg _ _).set _ _).set _ _).set _ _, by simpa using hcl, hcm, by simpa using hcs, row_set hct i x⟩⟩

end Go.Proofs.Ytalnjkeajlbbpaa
