/- Slices that are read: rows of cells that stand while other blocks are written. -/
import Derived.Test.YtalnjkeajlbbpaaHeapS
namespace Go.Proofs.Ytalnjkeajlbbpaa
open Go.RowKit

/-- av leads to the elements l, each its cells, k a piece, in a block that is none of F. -/
def Arr (w : World) (F : Nat → Prop) (av : Option Addr) (k : Nat) (l : List (List Value)) : Prop :=
  l ≠ [] → ∃ g off, av = some ⟨g, off, none⟩ ∧ g < w.heap.size ∧ ¬ F g ∧ ∀ (i : Nat) (c : List Value), l[i]? = some c → ∀ (j : Nat) (v : Value), c[j]? = some v → w.cell? ⟨g, off + i * k + j, none⟩ = some v

theorem Arr.step {w w' : World} {F F' : Nat → Prop} {av : Option Addr} {k : Nat} {l : List (List Value)} (h : Arr w F av k l) (u : Upd F w w') (q : Within w F F') : Arr w' F' av k l := by
  intro hl
  obtain ⟨g, off, he, hg, hF, hc⟩ := h hl
  exact ⟨g, off, he, Nat.lt_of_lt_of_le hg u.size, q.no hF hg, fun i c hi j v hj => (u.cell (p := ⟨g, off + i * k + j, none⟩) hg hF).trans (hc i c hi j v hj)⟩
theorem Arr.non {w w' : World} {F : Nat → Prop} {av : Option Addr} {k : Nat} {l : List (List Value)} (h : Arr w F av k l) (u : Upd Non w w') : Arr w' F av k l := by
  intro hl
  obtain ⟨g, off, he, hg, hF, hc⟩ := h hl
  exact ⟨g, off, he, Nat.lt_of_lt_of_le hg u.size, hF, fun i c hi j v hj => (u.cell (p := ⟨g, off + i * k + j, none⟩) hg id).trans (hc i c hi j v hj)⟩
/-- Other blocks are of concern from now on. -/
theorem Arr.turn {w : World} {F F' : Nat → Prop} {av : Option Addr} {k : Nat} {l : List (List Value)} (h : Arr w F av k l) (hF : ∀ g, g < w.heap.size → ¬ F g → ¬ F' g) : Arr w F' av k l := by
  intro hl
  obtain ⟨g, off, he, hg, hn, hc⟩ := h hl
  exact ⟨g, off, he, hg, hF g hg hn, hc⟩
/-- Behind something new: it lies where nothing lay. -/
theorem Arr.fresh {w w' : World} {F : Nat → Prop} {av : Option Addr} {k : Nat} {l : List (List Value)} (h : Arr w Non av k l) (u : Upd Non w w') (hF : ∀ k, F k → w.heap.size ≤ k) : Arr w' F av k l := by
  intro hl
  obtain ⟨g, off, he, hg, hn, hc⟩ := h hl
  exact ⟨g, off, he, Nat.lt_of_lt_of_le hg u.size, fun h => by have := hF g h; omega, fun i c hi j v hj => (u.cell (p := ⟨g, off + i * k + j, none⟩) hg id).trans (hc i c hi j v hj)⟩

def strC (l : List ByteArray) : List (List Value) := l.map (fun s => [.string s])

theorem Arr.str {w : World} {F : Nat → Prop} {av : Option Addr} {l : List ByteArray} (h : Arr w F av 1 (strC l)) {i : Nat} {s : ByteArray} (hs : l[i]? = some s) : ∃ g off, av = some ⟨g, off, none⟩ ∧ w.cell? ⟨g, off + i, none⟩ = some (.string s) := by
  obtain ⟨g, off, he, _, _, hc⟩ := h (by intro e; simp [strC] at e; subst e; simp at hs)
  refine ⟨g, off, he, ?_⟩
  have := hc i [.string s] (by simp [strC, hs]) 0 _ rfl
  simpa using this

/-- What a slice of the call's own shows: its address, its length. -/
theorem owned_arr {w w0 : World} {e : TypeId} {vo : Value} {ks : List ByteArray} {F : Nat → Prop} (h : w.ownsRow w0.heap.size e 1 vo ks.length (ks.map Value.string)) (hF : ∀ k, F k → k < w0.heap.size) : ∃ av cap, vo = .slice av ks.length cap ∧ Arr w F av 1 (strC ks) := by
  obtain ⟨hl, ⟨rfl, h0⟩ | ⟨g, cap, cur, rfl, hb, hg, hn, hm, hs, ht⟩⟩ := h
  · refine ⟨none, 0, by rw [h0], fun hne => ?_⟩
    rw [List.length_eq_zero_iff] at h0
    subst h0
    exact absurd rfl hne
  · refine ⟨_, cap, rfl, fun hne => ⟨g, 0, rfl, Blk.lt (vs := cur) hg, fun h => by have := hF g h; omega, fun i c hi j v hj => ?_⟩⟩
    simp only [strC, List.getElem?_map] at hi
    cases hk : ks[i]? with
    | none => rw [hk] at hi; cases hi
    | some s =>
      rw [hk] at hi
      simp only [Option.map_some, Option.some.injEq] at hi
      subst hi
      match j, hj with
      | 0, hj =>
        simp only [List.getElem?_cons_zero, Option.some.injEq] at hj
        subst hj
        refine Blk.cell (vs := cur) hg _ ?_
        have e1 : (cur.toList.take (ks.length * 1))[i]? = some (.string s) := by rw [ht, List.getElem?_map, hk]; rfl
        rw [List.getElem?_take] at e1
        split at e1
        · simpa using e1
        · cases e1
      | j + 1, hj => simp at hj

def keysM (m : List (Itm ByteArray)) : List ByteArray := m.map (·.key)

theorem order_arr {w : World} {bh : Nat} {F : Nat → Prop} {m : List (Itm ByteArray)} {came : Int} (h : HR w bh F m came) (hl : m.length ≤ 1000000) :
    Calls Try.prog 17 #[.pointer (some ⟨bh, 0, none⟩)] w fun e w' => ∃ av cap, e = .returned (.slice av m.length cap) ∧ Arr w' F av 1 (strC (keysM m)) ∧ Upd Non w w' := by
  refine (order_hr h hl).mono fun e w' ⟨vo, he, hr, hu⟩ => ?_
  have e1 : keysV m = (keysM m).map Value.string := by simp [keysV, keysM]
  have e2 : m.length = (keysM m).length := by simp [keysM]
  rw [e1, e2] at hr
  obtain ⟨av, cap, rfl, ha⟩ := owned_arr hr (fun k hk => h.lt k hk)
  exact ⟨av, cap, by rw [he, e2], ha, hu⟩

/-- A call of layer 4's scripts. -/
structure Act4 where
  kind : Int
  key : ByteArray
  one : Int
  two : Int

def act4C (l : List Act4) : List (List Value) := l.map (fun a => [.int .i64 a.kind, .string a.key, .int .i64 a.one, .int .i64 a.two])

theorem Arr.act4 {w : World} {F : Nat → Prop} {av : Option Addr} {l : List Act4} (h : Arr w F av 4 (act4C l)) {i : Nat} {a : Act4} (hs : l[i]? = some a) : ∃ g off, av = some ⟨g, off, none⟩ ∧
    w.cell? ⟨g, off + i * 4, none⟩ = some (.int .i64 a.kind) ∧ w.cell? ⟨g, off + i * 4 + 1, none⟩ = some (.string a.key) ∧ w.cell? ⟨g, off + i * 4 + 2, none⟩ = some (.int .i64 a.one) ∧ w.cell? ⟨g, off + i * 4 + 3, none⟩ = some (.int .i64 a.two) := by
  obtain ⟨g, off, he, _, _, hc⟩ := h (by intro e; simp [act4C] at e; subst e; simp at hs)
  have hi : (act4C l)[i]? = some [.int .i64 a.kind, .string a.key, .int .i64 a.one, .int .i64 a.two] := by simp [act4C, hs]
  exact ⟨g, off, he, hc i _ hi 0 _ rfl, hc i _ hi 1 _ rfl, hc i _ hi 2 _ rfl, hc i _ hi 3 _ rfl⟩

/-- All calls as Set, one after the other. -/
def setRun : List Act4 → List (Itm ByteArray) × Int
  | l => l.foldl (fun p a => (setM p.1 a.key a.one a.two (p.2 + 1), p.2 + 1)) ([], 0)

theorem setRun_snoc (l : List Act4) (a : Act4) : setRun (l ++ [a]) = (setM (setRun l).1 a.key a.one a.two ((setRun l).2 + 1), (setRun l).2 + 1) := by simp [setRun, List.foldl_append]

theorem remM_len {α : Type} [DecidableEq α] (m : List (Itm α)) (k : α) : (remM m k).length ≤ m.length := List.length_filter_le _ _
theorem setM_len {α : Type} [DecidableEq α] (m : List (Itm α)) (k : α) (a b c : Int) : (setM m k a b c).length ≤ m.length + 1 := by
  unfold setM
  rw [(insI_perm _ _).length_eq]
  have := remM_len m k
  simpa using this

theorem take_snoc {α : Type} {l : List α} {j : Nat} {a : α} (h : l[j]? = some a) : l.take (j + 1) = l.take j ++ [a] := by rw [List.take_add_one, h]; rfl

theorem foldl_snoc_len : ∀ (l : List Act4) (p : List (Itm ByteArray) × Int), (l.foldl (fun p a => (setM p.1 a.key a.one a.two (p.2 + 1), p.2 + 1)) p).1.length ≤ p.1.length + l.length ∧ (l.foldl (fun p a => (setM p.1 a.key a.one a.two (p.2 + 1), p.2 + 1)) p).2 = p.2 + l.length
  | [], p => ⟨by simp, by simp⟩
  | a :: l, p => by
    obtain ⟨t1, t2⟩ := foldl_snoc_len l (setM p.1 a.key a.one a.two (p.2 + 1), p.2 + 1)
    have h2 := setM_len p.1 a.key a.one a.two (p.2 + 1)
    dsimp only at t1 t2
    rw [List.foldl_cons, List.length_cons]
    exact ⟨by omega, by rw [t2]; omega⟩
theorem setRun_len (l : List Act4) : (setRun l).1.length ≤ l.length ∧ (setRun l).2 = l.length := by
  have := foldl_snoc_len l ([], 0)
  simpa [setRun] using this

/-- A round of the loop that sets a script's keys. -/
theorem set_act {w1 W : World} {bh : Nat} {F : Nat → Prop} {l : List Act4} {j : Nat} {x : Act4} (o : Own w1 W bh F (setRun (l.take j)).1 (setRun (l.take j)).2) (hl : l.length ≤ 200) (hx : l[j]? = some x) (hk : x.key.size ≤ maxLen) :
    Calls Try.prog 15 #[.pointer (some ⟨bh, 0, none⟩), .string x.key, .agg #[.int .i64 x.one, .int .i64 x.two]] W.drew fun e w' => e = .returned (.tuple #[]) ∧
      ∃ F', Own w1 w' bh F' (setRun (l.take (j + 1))).1 (setRun (l.take (j + 1))).2 ∧ Upd F W w' ∧ Within W F F' := by
  obtain ⟨hl1, hl2⟩ := setRun_len (l.take j)
  have hl3 : (l.take j).length ≤ 200 := by simp; omega
  have o' := o.non ((Upd.refl Non W).drew)
  refine (set_hr o'.hr (by omega) (by omega) (by omega) hk x.one x.two).mono fun e w' ⟨he, F', h, u, q⟩ => ⟨he, F', ?_, u.drew0, q⟩
  have := o'.step h u q
  rw [take_snoc hx, setRun_snoc]
  exact this

theorem quiet_upd {w w' : World} (h : Hid (∃ q, w' = w.drewN q)) : Upd Non w w' := by obtain ⟨q, rfl⟩ := h.out; exact (Upd.refl Non w).drewN q

theorem str_ne {a b : ByteArray} (h : a ≠ b) : (a.toList == b.toList) = false := by
  rw [beq_eq_false_iff_ne, ByteArray.toList_eq, ByteArray.toList_eq]
  intro e
  apply h
  have : a.data = b.data := Array.toList_inj.1 e
  cases a; cases b; simp_all

theorem rank_is {w : World} {bh : Nat} {F : Nat → Prop} {m : List (Itm ByteArray)} {came : Int} (h : HR w bh F m came) (hl : m.length ≤ 1000000) {key : ByteArray} (hk : key.size ≤ maxLen) (b : Bool) (hb : (findM m key).isSome = b) :
    Calls Try.prog 18 #[.pointer (some ⟨bh, 0, none⟩), .string key] w fun e w' => ∃ r1 r2, e = .returned (.tuple #[.agg #[.int .i64 r1, .int .i64 r2], .bool b]) ∧ Upd Non w w' := by
  refine (rank_hr h hl hk _ rfl).mono fun e w' ⟨he, hu⟩ => ?_
  subst hb
  cases hf : findM m key with
  | none => rw [hf] at he; exact ⟨0, 0, he, hu⟩
  | some y => rw [hf] at he; exact ⟨y.one, y.two, he, hu⟩

theorem remM_again {α : Type} [DecidableEq α] (m : List (Itm α)) (k : α) : findM (remM m k) k = none ∧ remM (remM m k) k = remM m k := by
  have : ∀ y ∈ remM m k, y.key ≠ k := fun y hy => by simpa using (List.mem_filter.1 hy).2
  exact ⟨findM_none this, remM_none this⟩

theorem keysM_rem (m : List (Itm ByteArray)) (k : ByteArray) : keysM (remM m k) = (keysM m).filter (fun s => decide (s ≠ k)) := by
  unfold keysM remM
  rw [List.filter_map]
  rfl

/-- Where the i-th one stands among those that are kept. -/
theorem filter_at {α : Type} {p : α → Bool} : ∀ {l : List α} {i : Nat} {x : α}, l[i]? = some x → p x = true → (l.filter p)[((l.take i).filter p).length]? = some x
  | [], i, x, h, _ => by simp at h
  | y :: l, 0, x, h, hp => by simp at h; subst h; simp [hp]
  | y :: l, i + 1, x, h, hp => by
    have ih := filter_at (l := l) (i := i) (x := x) (by simpa using h) hp
    rw [List.take_succ_cons]
    cases hy : p y with
    | true => rw [List.filter_cons_of_pos hy, List.filter_cons_of_pos hy, List.length_cons, List.getElem?_cons_succ]; exact ih
    | false => rw [List.filter_cons_of_neg (by simp [hy]), List.filter_cons_of_neg (by simp [hy])]; exact ih

/-- How many of the first i are not key. -/
def cntNe (ks : List ByteArray) (key : ByteArray) (i : Nat) : Nat := ((ks.take i).filter (fun s => decide (s ≠ key))).length
theorem cntNe_eq {ks : List ByteArray} {key : ByteArray} {i : Nat} (h : ks[i]? = some key) : cntNe ks key (i + 1) = cntNe ks key i := by
  unfold cntNe
  rw [take_snoc h]; simp
theorem cntNe_ne {ks : List ByteArray} {key s : ByteArray} {i : Nat} (h : ks[i]? = some s) (hne : s ≠ key) : cntNe ks key (i + 1) = cntNe ks key i + 1 := by
  unfold cntNe
  rw [take_snoc h]; simp [hne]
theorem cntNe_all (ks : List ByteArray) (key : ByteArray) : cntNe ks key ks.length = (ks.filter (fun s => decide (s ≠ key))).length := by simp [cntNe]
theorem cntNe_at {ks : List ByteArray} {key s : ByteArray} {i : Nat} (h : ks[i]? = some s) (hne : s ≠ key) : (ks.filter (fun s => decide (s ≠ key)))[cntNe ks key i]? = some s := filter_at h (by simpa using hne)
theorem cntNe_le (ks : List ByteArray) (key : ByteArray) (i : Nat) : cntNe ks key i ≤ ks.length := by
  unfold cntNe
  exact Nat.le_trans (List.length_filter_le _ _) (by simp; omega)

end Go.Proofs.Ytalnjkeajlbbpaa
