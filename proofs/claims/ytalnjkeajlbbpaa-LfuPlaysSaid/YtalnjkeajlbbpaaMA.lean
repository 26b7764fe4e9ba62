/- Texts merged by merge.py: Base, HeapA, HeapP. -/
import Derived.WalkKit
import Derived.WalkSpells
import Derived.WalkLawsBesides
import Derived.Maps.OwnSet
import Derived.Maps.AppendAt

/- Frames ('Upd'), blocks known whole ('Blk'), maps of any elements as functions ('MapA'): over any program. -/
namespace Go.Proofs.Ytalnjkeajlbbpaa
open Go.RowKit

/-- w' is w but for the blocks in S, and new ones. -/
structure Upd (S : Nat → Prop) (w w' : World) : Prop where
  os : w'.os = w.os
  tape : w'.tape = w.tape
  output : w'.output = w.output
  size : w.heap.size ≤ w'.heap.size
  block : ∀ k, k < w.heap.size → ¬ S k → w'.heap[k]? = w.heap[k]?

theorem hid {p : Prop} (h : p) : Hid p := h

def Non : Nat → Prop := fun _ => False

theorem Upd.refl (S : Nat → Prop) (w : World) : Upd S w w := ⟨rfl, rfl, rfl, Nat.le_refl _, fun _ _ _ => rfl⟩

theorem Upd.trans {S S' : Nat → Prop} {a b c : World} (h : Upd S a b) (k : Upd S' b c) (hs : ∀ i, S' i → S i ∨ a.heap.size ≤ i) : Upd S a c :=
  ⟨k.os.trans h.os, k.tape.trans h.tape, k.output.trans h.output, Nat.le_trans h.size k.size, fun i hi hn =>
    (k.block i (Nat.lt_of_lt_of_le hi h.size) (fun hk => (hs i hk).elim hn (fun h => by omega))).trans (h.block i hi hn)⟩

theorem Upd.mono {S S' : Nat → Prop} {a b : World} (h : Upd S a b) (hs : ∀ i, S i → S' i ∨ a.heap.size ≤ i) : Upd S' a b :=
  ⟨h.os, h.tape, h.output, h.size, fun i hi hn => h.block i hi (fun hk => (hs i hk).elim hn (fun h => by omega))⟩

theorem Upd.drew {S : Nat → Prop} {a w : World} (h : Upd S a w) : Upd S a w.drew := ⟨h.os, h.tape, h.output, h.size, h.block⟩

theorem Upd.alloc {S : Nat → Prop} {a w : World} (h : Upd S a w) (o : Obj) : Upd S a (w.alloc o) :=
  h.trans (S' := Non) ⟨rfl, rfl, rfl, by simp, fun k hk _ => Below.heap_alloc _ _ _ hk⟩ (fun _ h => h.elim)

theorem Upd.setCell {S : Nat → Prop} {a w : World} (h : Upd S a w) {p : Addr} (hp : S p.block ∨ a.heap.size ≤ p.block) (u : Value) : Upd S a (w.setCell p u) :=
  h.trans (S' := fun k => k = p.block) ⟨rfl, rfl, rfl, by simp [World.setCell], fun k _ hn => Below.heap_setCell _ _ _ _ hn⟩ (fun _ h => h ▸ hp)

theorem Upd.grown {S : Nat → Prop} {a w w' : World} {row : Option Nat} (h : Upd S a w) (hg : w.grownBy w' row) (hr : ∀ k, row = some k → S k ∨ a.heap.size ≤ k) : Upd S a w' :=
  h.trans (S' := fun k => row = some k) ⟨hg.os, hg.tape, hg.output, hg.size, fun k hk hn => hg.block k hk (fun e => hn e.symm)⟩ hr

theorem Upd.below {S : Nat → Prop} {a w w' : World} {B : Nat} (h : Upd S a w) (hb : Below B w w') (hB : ∀ k, k < a.heap.size → ¬ S k → k < B) : Upd S a w' :=
  ⟨hb.os.trans h.os, hb.tape.trans h.tape, hb.output.trans h.output, Nat.le_trans h.size hb.size, fun k hk hn => (hb.block k (hB k hk hn)).trans (h.block k hk hn)⟩

theorem Upd.toBelow {S : Nat → Prop} {w w' : World} (h : Upd S w w') {B : Nat} (hB : B ≤ w.heap.size) (hs : ∀ k, S k → B ≤ k) : Below B w w' :=
  ⟨h.os, h.tape, h.output, h.size, fun k hk => h.block k (by omega) (fun hS => by have := hs k hS; omega)⟩

theorem Upd.heap {S : Nat → Prop} {w w' : World} (h : Upd S w w') {k : Nat} {o : Obj} (hk : w.heap[k]? = some o) (hn : ¬ S k) : w'.heap[k]? = some o :=
  (h.block k (Array.getElem?_eq_some_iff.1 hk).1 hn).trans hk

theorem Upd.cell {S : Nat → Prop} {w w' : World} (h : Upd S w w') {p : Addr} (hp : p.block < w.heap.size) (hn : ¬ S p.block) : w'.cell? p = w.cell? p := World.cell?_of_block (h.block p.block hp hn)
theorem Upd.frozen {S : Nat → Prop} {w w' : World} (h : Upd S w w') {p : Addr} (hp : p.block < w.heap.size) (hn : ¬ S p.block) : w'.frozen? p = w.frozen? p := World.frozen?_of_block (h.block p.block hp hn)

/-- A cell that is read stays, where nothing old has turned. -/
theorem Upd.keep {w w' : World} (h : Upd Non w w') {p : Addr} {v : Value} (hv : w.cell? p = some v) : w'.cell? p = some v := (h.cell (World.block_lt_of_cell? w p hv) id).trans hv
theorem Upd.drew0 {S : Nat → Prop} {w w' : World} (h : Upd S w.drew w') : Upd S w w' := ⟨h.os, h.tape, h.output, h.size, h.block⟩
theorem Upd.drewN {S : Nat → Prop} {a w : World} (h : Upd S a w) (n : Nat) : Upd S a (w.drewN n) := ⟨h.os, h.tape, h.output, h.size, h.block⟩

/-- Block b, whole: its cells; no mark. -/
def Blk (w : World) (b : Nat) (vs : Array Value) (T : TypeId) : Prop := w.heap[b]? = some (.cells vs T (0, 0))

theorem Blk.lt {w : World} {b : Nat} {vs : Array Value} {T : TypeId} (h : Blk w b vs T) : b < w.heap.size := (Array.getElem?_eq_some_iff.1 h).1
theorem Blk.cell {w : World} {b : Nat} {vs : Array Value} {T : TypeId} (h : Blk w b vs T) (i : Nat) {v : Value} (hv : vs[i]? = some v) : w.cell? ⟨b, i, none⟩ = some v := by
  unfold Blk at h; simp [World.cell?, h, hv]
theorem Blk.frozen {w : World} {b : Nat} {vs : Array Value} {T : TypeId} (h : Blk w b vs T) (i : Nat) : w.frozen? ⟨b, i, none⟩ = false := by
  unfold Blk at h; simp [World.frozen?, h]
theorem Blk.upd {w w' : World} {b : Nat} {vs : Array Value} {T : TypeId} {S : Nat → Prop} (h : Blk w b vs T) (hu : Upd S w w') (hn : ¬ S b) : Blk w' b vs T := hu.heap h hn
theorem Blk.drew {w : World} {b : Nat} {vs : Array Value} {T : TypeId} (h : Blk w b vs T) : Blk w.drew b vs T := h
theorem Blk.alloc {w : World} {b : Nat} {vs : Array Value} {T : TypeId} (h : Blk w b vs T) (o : Obj) : Blk (w.alloc o) b vs T := (Below.heap_alloc w o b h.lt).trans h
theorem Blk.new (w : World) (vs : Array Value) (T : TypeId) : Blk (w.alloc (.cells vs T)) w.heap.size vs T := by
  show (w.heap.push _)[w.heap.size]? = _
  rw [Array.getElem?_push, if_pos rfl]
theorem Blk.setOther {w : World} {b : Nat} {vs : Array Value} {T : TypeId} (h : Blk w b vs T) {a : Addr} (ha : b ≠ a.block) (v : Value) : Blk (w.setCell a v) b vs T := (Below.heap_setCell w a v b ha).trans h
theorem Blk.set {w : World} {b : Nat} {vs : Array Value} {T : TypeId} (h : Blk w b vs T) (i : Nat) (v : Value) : Blk (w.setCell ⟨b, i, none⟩ v) b (vs.setIfInBounds i v) T := by
  unfold Blk at *
  simp [World.setCell, Array.getElem?_modify, h]

/-- Of a map's element: any value. -/
def Rany (v : Value) : Option (DataW Value × List MemPlace) := some (.held v, [])

/-- How the keys of type kt stand for α. -/
structure KeyT (P : Program) (kt : TypeId) (α : Type) where
  val : α → Value
  lit : α → Lit
  keyed : Go.Maps.Keyed P kt
  isKey : ∀ a, WideAt.IsKeyLit (lit a)
  inj : ∀ a b, lit a = lit b → a = b
  ok : α → Prop
  of : ∀ a, ok a → keyOf P kt (val a) = some (lit a)

theorem str_inj {a b : ByteArray} (hab : Lit.string a.data.toList = Lit.string b.data.toList) : a = b := by
  have h1 : a.data.toList = b.data.toList := by simpa using hab
  have h2 : a.data = b.data := Array.toList_inj.1 h1
  cases a; cases b; simp_all

def strKey {P : Program} {kt : TypeId} (h : P.underlying kt = some .string) : KeyT P kt ByteArray :=
  { val := Value.string, lit := fun s => .string s.data.toList, keyed := Go.Maps.string_keyed h, isKey := fun _ => trivial, inj := fun _ _ hab => str_inj hab, ok := fun s => s.size ≤ maxLen, of := fun _ hs => Go.WideMaps.keyOf_string_mk h hs }

def intKey {P : Program} {kt : TypeId} (h : P.underlying kt = some (.int .i64)) : KeyT P kt Int :=
  { val := Value.int .i64, lit := Lit.int .i64, keyed := Go.Maps.int_keyed h, isKey := fun _ => trivial, inj := fun _ _ hab => by simpa using hab, ok := fun a => (Lit.int .i64 a).wf = true, of := fun _ hs => Go.Maps.keyOf_int_mk h hs }

variable {P : Program} {kt : TypeId} {α : Type}

/-- Block b is a map of n entries; f tells the element at a key. -/
def MapA (K : KeyT P kt α) (w : World) (b : Nat) (f : α → Option Value) (n : Nat) : Prop :=
  ∃ D : DataW Value, w.ownsMap P kt Rany b n D ∧ Maps.size D = n ∧ ∀ a, Maps.has D (K.lit a) = (f a).isSome ∧ ∀ v, f a = some v → ∀ z, D.atKey (K.lit a) z = .held v

theorem MapA.lt {K : KeyT P kt α} {w : World} {b : Nat} {f : α → Option Value} {n : Nat} (h : MapA K w b f n) : b < w.heap.size := by
  obtain ⟨D, h, _⟩ := h; exact h.lt

theorem MapA.made (K : KeyT P kt α) (w : World) : MapA K (w.alloc (.map #[] 0)) w.heap.size (fun _ => none) 0 :=
  ⟨.map [], World.ownsMap_made w P kt _, rfl, fun _ => ⟨rfl, fun _ h => by cases h⟩⟩

theorem MapA.upd {K : KeyT P kt α} {w w' : World} {b : Nat} {f : α → Option Value} {n : Nat} {S : Nat → Prop} (h : MapA K w b f n) (hu : Upd S w w') (hn : ¬ S b) : MapA K w' b f n := by
  obtain ⟨D, ⟨es, cl, hb, r⟩, h2⟩ := h
  exact ⟨D, ⟨es, cl, hu.heap hb hn, r⟩, h2⟩

theorem MapA.alloc {K : KeyT P kt α} {w : World} {b : Nat} {f : α → Option Value} {n : Nat} (h : MapA K w b f n) (o : Obj) : MapA K (w.alloc o) b f n := h.upd ((Upd.refl Non w).alloc o) id
theorem MapA.drew {K : KeyT P kt α} {w : World} {b : Nat} {f : α → Option Value} {n : Nat} (h : MapA K w b f n) : MapA K w.drew b f n := h
theorem MapA.setCell {K : KeyT P kt α} {w : World} {b : Nat} {f : α → Option Value} {n : Nat} (h : MapA K w b f n) {a : Addr} (ha : b ≠ a.block) (u : Value) : MapA K (w.setCell a u) b f n := by
  obtain ⟨D, h, h2⟩ := h
  exact ⟨D, h.setCell ha u, h2⟩

/-- 'm[k]', with 'ok' or without. -/
theorem MapA.look {K : KeyT P kt α} {w : World} {b : Nat} {f : α → Option Value} {n : Nat} (h : MapA K w b f n) {t e : TypeId} (ht : P.underlying t = some (.map kt e)) {z : Value} (hz : (zeroValue e).run P w = .ok z w) {a : α} (ha : K.ok a) :
    (Instr.lookup t (.map (some b)) (K.val a) true).run P w = .ok (.tuple #[(f a).getD z, .bool (f a).isSome]) w := by
  obtain ⟨D, h, _, hf⟩ := h
  obtain ⟨v, ps, hrun, hv⟩ := h.look_ok K.keyed ht hz (zd := .held z) (zp := []) rfl (K.of a ha)
  obtain ⟨h1, h2⟩ := hf a
  rw [hrun, h1]
  simp only [Rany, Option.some.injEq, Prod.mk.injEq] at hv
  cases hfa : f a with
  | none =>
    rw [hfa] at h1
    have := Maps.atKey_of_not_has h1 (.held z)
    rw [this] at hv
    have : v = z := by simpa using hv.1
    rw [this]; rfl
  | some u =>
    rw [h2 u hfa] at hv
    have : v = u := by simpa using hv.1
    rw [this]; rfl

theorem MapA.look1 {K : KeyT P kt α} {w : World} {b : Nat} {f : α → Option Value} {n : Nat} (h : MapA K w b f n) {t e : TypeId} (ht : P.underlying t = some (.map kt e)) {z : Value} (hz : (zeroValue e).run P w = .ok z w) {a : α} (ha : K.ok a) :
    (Instr.lookup t (.map (some b)) (K.val a) false).run P w = .ok ((f a).getD z) w := by
  obtain ⟨D, h, _, hf⟩ := h
  obtain ⟨v, ps, hrun, hv⟩ := h.lookup K.keyed ht hz (zd := .held z) (zp := []) rfl (K.of a ha)
  obtain ⟨h1, h2⟩ := hf a
  rw [hrun]
  simp only [Rany, Option.some.injEq, Prod.mk.injEq] at hv
  cases hfa : f a with
  | none =>
    rw [hfa] at h1
    have := Maps.atKey_of_not_has h1 (.held z)
    rw [this] at hv
    have : v = z := by simpa using hv.1
    rw [this]; rfl
  | some u =>
    rw [h2 u hfa] at hv
    have : v = u := by simpa using hv.1
    rw [this]; rfl

variable [DecidableEq α]

/-- f, with v at a. -/
def put (f : α → Option Value) (a : α) (v : Value) : α → Option Value := fun x => if x = a then some v else f x
def del (f : α → Option Value) (a : α) : α → Option Value := fun x => if x = a then none else f x

/-- 'm[k] = v'. -/
theorem MapA.store {K : KeyT P kt α} {w : World} {b : Nat} {f : α → Option Value} {n : Nat} (h : MapA K w b f n) {t e : TypeId} (ht : P.underlying t = some (.map kt e)) (hn : n < maxLen) {a : α} (ha : K.ok a) (v : Value) :
    ∃ w', (Instr.mapUpdate t (.map (some b)) (K.val a) v).run P w = .ok () w' ∧ MapA K w' b (put f a v) (if (f a).isSome then n else n + 1) ∧ w.mapTurned w' b := by
  obtain ⟨D, h, hs, hf⟩ := h
  obtain ⟨w', hrun, hown, ht⟩ := h.store K.keyed ht hn (d := .held v) (ps := []) (K.of a ha) rfl
  have hsz : Maps.size (D.put (K.lit a) (.held v)) = if (f a).isSome then n else n + 1 := by
    rw [Maps.size_put (h.tidy K.keyed), (hf a).1, hs]
  refine ⟨w', hrun, ⟨D.put (K.lit a) (.held v), ?_, hsz, fun x => ?_⟩, ht⟩
  · obtain ⟨es, cl, hb, F, hle, hD⟩ := hown
    refine ⟨es, cl, hb, F, ?_, hD⟩
    rw [← hsz, hD]; simp [Maps.size, length_sorted]
  · unfold put
    by_cases hx : x = a
    · subst hx
      simp only [if_true]
      exact ⟨Maps.has_put_same h.isMap (K.isKey x) _, fun u hu z => by cases hu; exact Maps.atKey_put_same h.isMap (K.isKey x) _ _⟩
    · have hne : K.lit x ≠ K.lit a := fun e => hx (K.inj _ _ e)
      simp only [if_neg hx]
      exact ⟨by rw [Maps.has_put_other hne]; exact (hf x).1, fun u hu z => by rw [Maps.atKey_put_other hne]; exact (hf x).2 u hu z⟩

/-- 'delete(m, k)'. -/
theorem MapA.drop {K : KeyT P kt α} {w : World} {b : Nat} {f : α → Option Value} {n : Nat} (h : MapA K w b f n) {t e : TypeId} (ht : P.underlying t = some (.map kt e)) {a : α} (ha : K.ok a) (ty : TypeId) :
    ∃ w', (Builtin.delete_ #[t, kt] ty #[.map (some b), K.val a]).run P w = .ok (.tuple #[]) w' ∧ MapA K w' b (del f a) (if (f a).isSome then n - 1 else n) ∧ w.mapTurned w' b := by
  obtain ⟨D, h, hs, hf⟩ := h
  obtain ⟨w', hrun, hown, ht⟩ := h.drop K.keyed ht (K.of a ha) ty
  have hsz : Maps.size (D.del (K.lit a)) = if (f a).isSome then n - 1 else n := by
    have := Maps.size_del (k := K.lit a) (h.tidy K.keyed)
    rw [(hf a).1, hs] at this
    split <;> rename_i hh <;> simp [hh] at this <;> omega
  refine ⟨w', hrun, ⟨D.del (K.lit a), ?_, hsz, fun x => ?_⟩, ht⟩
  · obtain ⟨es, cl, hb, F, hle, hD⟩ := hown
    refine ⟨es, cl, hb, F, ?_, hD⟩
    rw [← hsz, hD]; simp [Maps.size, length_sorted]
  · unfold del
    by_cases hx : x = a
    · subst hx
      simp only [if_true]
      exact ⟨Maps.has_del_same, fun u hu z => by cases hu⟩
    · have hne : K.lit x ≠ K.lit a := fun e => hx (K.inj _ _ e)
      simp only [if_neg hx]
      exact ⟨by rw [Maps.has_del_other hne]; exact (hf x).1, fun u hu z => by rw [Maps.atKey_del_other hne]; exact (hf x).2 u hu z⟩

omit [DecidableEq α] in
theorem MapA.len {K : KeyT P kt α} {w : World} {b : Nat} {f : α → Option Value} {n : Nat} (h : MapA K w b f n) {t e : TypeId} (ht : P.underlying t = some (.map kt e)) (ty : TypeId) :
    (Builtin.len_ #[t] ty #[.map (some b)]).run P w = .ok (.int .i64 n) w := by
  obtain ⟨D, h, hs, _⟩ := h
  rw [h.len ht, hs]

theorem turned_upd {w w' : World} {b : Nat} (h : w.mapTurned w' b) : Upd (fun k => k = b) w w' :=
  (Upd.refl (fun k => k = b) w).grown h.grown (fun k e => .inl (by cases e; rfl))

/-- append of at least one element: the new slice, written out; where it lies. -/
theorem wpList_append_some {w : World} {ops : Array Oper} {rest : List Oper} {o : Oper} {a : Act} {Q : Exit → Act → World → Prop} (hgd : o.guard = none) (s x : Operand) (t : TypeId)
    (ho : o.op = .call { callee := .builtin .append, args := #[s, x], argTypes := #[t, t] })
    (base : Nat) (e : TypeId) (i : TypeInfo) (z : Value) (size bytes : Nat) (ht : P.underlying t = some (.slice e)) (hi : P.info? e = some i) (hz : i.zero = some z)
    (hsize : i.size = size) (hby : i.bytes = bytes) (hzs : z.cells.size = size) (hsz : 0 < size)
    (v : Value) (n : Nat) (xs : List Value) (hs : a.eval s = v) (hown : w.ownsRow base e size v n xs)
    (ad : Addr) (m c : Nat) (news : List Value) (hx : a.eval x = .slice (some ad) m c) (hl : news.length = m * size) (hnews : ∀ j u, news[j]? = some u → w.cell? (ad.add j) = some u) (h1 : ∀ u ∈ news, u.oneCell' = true)
    (h63 : n + m ≤ maxLen) (hbytes : (n + m) * bytes ≤ 140737488355328) (hbase : base ≤ w.heap.size) (hm : 0 < m)
    (h : ∀ g cap w', w'.ownsRow base e size (.slice (some ⟨g, 0, none⟩) (n + m) cap) (n + m) (xs ++ news) → w.grownBy w' v.ownBlock → (v.ownBlock = some g ∨ g = w.heap.size) → wpList P ops Q rest (a.put o.dst (.slice (some ⟨g, 0, none⟩) (n + m) cap)) w') :
    wpList P ops Q (o :: rest) a w := by
  refine wpList_append_own_at w hgd s x t ho base e i z size bytes ht hi hz hsize hby hzs hsz v n xs hs hown ad m c news hx hl hnews h1 h63 hbytes hbase ?_
  intro v' w' h2 h3 h4 h5
  rcases h2.2 with ⟨_, h0⟩ | ⟨g, cap, cur, rfl, _⟩
  · omega
  · refine h g cap w' h2 h3 ?_
    rcases h5 with h5 | h5
    · exact .inl h5.symm
    · exact .inr (by simpa [Value.ownBlock] using h5)

end Go.Proofs.Ytalnjkeajlbbpaa

/- The heap in memory: its struct, its row of items, its map; plain lemmas on flat rows. -/
namespace Go.Proofs.Ytalnjkeajlbbpaa
open Go.RowKit

/-- An item: a key, its rank, when it came to have it. -/
structure Itm (α : Type) where
  key : α
  one : Int
  two : Int
  came : Int

variable {P : Program} {kt : TypeId} {α : Type}

def encI (K : KeyT P kt α) (x : Itm α) : List Value := [K.val x.key, .int .i64 x.one, .int .i64 x.two, .int .i64 x.came]
def flatI (K : KeyT P kt α) (l : List (Itm α)) : List Value := l.flatMap (encI K)

theorem flatI_cons (K : KeyT P kt α) (x : Itm α) (l : List (Itm α)) : flatI K (x :: l) = K.val x.key :: .int .i64 x.one :: .int .i64 x.two :: .int .i64 x.came :: flatI K l := rfl
theorem flatI_nil (K : KeyT P kt α) : flatI K [] = [] := rfl
theorem flatI_append (K : KeyT P kt α) (a b : List (Itm α)) : flatI K (a ++ b) = flatI K a ++ flatI K b := by simp [flatI]
theorem flatI_length (K : KeyT P kt α) (l : List (Itm α)) : (flatI K l).length = l.length * 4 := by
  induction l with
  | nil => rfl
  | cons x l ih => rw [flatI_cons]; simp [ih]; omega

theorem flatI_get (K : KeyT P kt α) : ∀ (l : List (Itm α)) (i : Nat) (x : Itm α), l[i]? = some x →
    (flatI K l)[i * 4]? = some (K.val x.key) ∧ (flatI K l)[i * 4 + 1]? = some (.int .i64 x.one) ∧ (flatI K l)[i * 4 + 2]? = some (.int .i64 x.two) ∧ (flatI K l)[i * 4 + 3]? = some (.int .i64 x.came)
  | [], i, x, h => by simp at h
  | y :: l, 0, x, h => by simp at h; subst h; rw [flatI_cons]; simp
  | y :: l, i + 1, x, h => by
    have := flatI_get K l i x (by simpa using h)
    rw [flatI_cons, show (i + 1) * 4 = i * 4 + 4 by omega]
    exact this

def set4 (xs : List Value) (a : Nat) (v0 v1 v2 v3 : Value) : List Value := (((xs.set a v0).set (a + 1) v1).set (a + 2) v2).set (a + 3) v3

theorem flatI_set (K : KeyT P kt α) (x : Itm α) : ∀ (l : List (Itm α)) (i : Nat), flatI K (l.set i x) = set4 (flatI K l) (i * 4) (K.val x.key) (.int .i64 x.one) (.int .i64 x.two) (.int .i64 x.came)
  | [], i => by simp [flatI_nil, set4]
  | y :: l, 0 => by simp [flatI_cons, set4]
  | y :: l, i + 1 => by
    rw [List.set_cons_succ, flatI_cons, flatI_cons, flatI_set K x l i, show (i + 1) * 4 = i * 4 + 4 by omega]
    rfl

theorem flatI_take (K : KeyT P kt α) : ∀ (l : List (Itm α)) (n : Nat), flatI K (l.take n) = (flatI K l).take (n * 4)
  | [], n => by simp [flatI_nil]
  | y :: l, 0 => by simp [flatI_nil]
  | y :: l, n + 1 => by
    rw [List.take_succ_cons, flatI_cons, flatI_cons, flatI_take K l n, show (n + 1) * 4 = n * 4 + 4 by omega]
    rfl

/-- The heap's memory: the struct at bh; v its slice, which holds the items l; bm its map. -/
structure HRaw (K : KeyT P kt α) (tH tI : TypeId) (w : World) (bh bm : Nat) (v : Value) (l : List (Itm α)) (f : α → Option Value) (n : Nat) (came : Int) : Prop where
  st : Blk w bh #[v, .map (some bm), .int .i64 came] tH
  row : w.ownsRow 0 tI 4 v l.length (flatI K l)
  mp : MapA K w bm f n
  hm : bh ≠ bm
  hv : v.ownBlock ≠ some bh ∧ v.ownBlock ≠ some bm

theorem ownsRow_upd {w w' : World} {base : Nat} {e : TypeId} {size : Nat} {v : Value} {n : Nat} {xs : List Value} {S : Nat → Prop} (h : w.ownsRow base e size v n xs) (hu : Upd S w w') (hn : ∀ k, v.ownBlock = some k → ¬ S k) : w'.ownsRow base e size v n xs := by
  refine ⟨h.1, ?_⟩
  rcases h.2 with h0 | ⟨g, cap, cur, rfl, hb, hg, r⟩
  · exact .inl h0
  · exact .inr ⟨g, cap, cur, rfl, hb, hu.heap hg (hn g rfl), r⟩

theorem HRaw.upd {K : KeyT P kt α} {tH tI : TypeId} {w w' : World} {bh bm : Nat} {v : Value} {l : List (Itm α)} {f : α → Option Value} {n : Nat} {came : Int} {S : Nat → Prop} (h : HRaw K tH tI w bh bm v l f n came) (hu : Upd S w w')
    (h1 : ¬ S bh) (h2 : ¬ S bm) (h3 : ∀ k, v.ownBlock = some k → ¬ S k) : HRaw K tH tI w' bh bm v l f n came :=
  ⟨h.st.upd hu h1, ownsRow_upd h.row hu h3, h.mp.upd hu h2, h.hm, h.hv⟩

theorem HRaw.alloc {K : KeyT P kt α} {tH tI : TypeId} {w : World} {bh bm : Nat} {v : Value} {l : List (Itm α)} {f : α → Option Value} {n : Nat} {came : Int} (h : HRaw K tH tI w bh bm v l f n came) (o : Obj) : HRaw K tH tI (w.alloc o) bh bm v l f n came :=
  h.upd ((Upd.refl Non w).alloc o) id id (fun _ _ => id)
theorem HRaw.drew {K : KeyT P kt α} {tH tI : TypeId} {w : World} {bh bm : Nat} {v : Value} {l : List (Itm α)} {f : α → Option Value} {n : Nat} {came : Int} (h : HRaw K tH tI w bh bm v l f n came) : HRaw K tH tI w.drew bh bm v l f n came := ⟨h.1, h.2, h.3, h.4, h.5⟩

/-- The slice of a heap that is not empty, written out; its block. -/
theorem HRaw.open {K : KeyT P kt α} {tH tI : TypeId} {w : World} {bh bm : Nat} {v : Value} {l : List (Itm α)} {f : α → Option Value} {n : Nat} {came : Int} (h : HRaw K tH tI w bh bm v l f n came) (hl : l ≠ []) :
    ∃ g cap cur, v = .slice (some ⟨g, 0, none⟩) l.length cap ∧ Blk w g cur tI ∧ l.length ≤ cap ∧ cap ≤ maxLen ∧ cur.size = cap * 4 ∧ cur.toList.take (l.length * 4) = flatI K l := by
  rcases h.row.2 with ⟨_, h0⟩ | ⟨g, cap, cur, rfl, _, hg, r⟩
  · exact absurd (List.length_eq_zero_iff.1 h0) hl
  · exact ⟨g, cap, cur, rfl, hg, r⟩

/-- What item i's four cells hold. -/
theorem row_cells {K : KeyT P kt α} {tI : TypeId} {w : World} {g : Nat} {cur : Array Value} {l : List (Itm α)} (hg : Blk w g cur tI) (ht : cur.toList.take (l.length * 4) = flatI K l) {i : Nat} {x : Itm α} (hx : l[i]? = some x) :
    w.cell? ⟨g, i * 4, none⟩ = some (K.val x.key) ∧ w.cell? ⟨g, i * 4 + 1, none⟩ = some (.int .i64 x.one) ∧ w.cell? ⟨g, i * 4 + 2, none⟩ = some (.int .i64 x.two) ∧ w.cell? ⟨g, i * 4 + 3, none⟩ = some (.int .i64 x.came) := by
  obtain ⟨a0, a1, a2, a3⟩ := flatI_get K l i x hx
  have hi := (List.getElem?_eq_some_iff.1 hx).1
  have key : ∀ (j : Nat) (v : Value), (flatI K l)[j]? = some v → cur[j]? = some v := by
    intro j v hj
    rw [← ht, List.getElem?_take] at hj
    split at hj
    · simpa using hj
    · cases hj
  exact ⟨hg.cell _ (key _ _ a0), hg.cell _ (key _ _ a1), hg.cell _ (key _ _ a2), hg.cell _ (key _ _ a3)⟩

/-- Four stores at item i. -/
theorem row_set {K : KeyT P kt α} {cur : Array Value} {l : List (Itm α)} (ht : cur.toList.take (l.length * 4) = flatI K l) (i : Nat) (x : Itm α) :
    ((((cur.setIfInBounds (i * 4) (K.val x.key)).setIfInBounds (i * 4 + 1) (.int .i64 x.one)).setIfInBounds (i * 4 + 2) (.int .i64 x.two)).setIfInBounds (i * 4 + 3) (.int .i64 x.came)).toList.take ((l.set i x).length * 4) = flatI K (l.set i x) := by
  rw [flatI_set, ← ht, List.length_set]
  simp only [Array.toList_setIfInBounds, set4, List.take_set]

theorem Upd.set1 {g : Nat} {a w : World} (h : Upd (fun k => k = g) a w) (o : Nat) (u : Value) : Upd (fun k => k = g) a (w.setCell ⟨g, o, none⟩ u) := h.setCell (p := ⟨g, o, none⟩) (.inl rfl) u

/-- Item i written over, cell by cell. -/
theorem HRaw.set4 {K : KeyT P kt α} {tH tI : TypeId} {w : World} {bh bm g cap : Nat} {l : List (Itm α)} {f : α → Option Value} {n : Nat} {came : Int} (h : HRaw K tH tI w bh bm (.slice (some ⟨g, 0, none⟩) l.length cap) l f n came) (i : Nat) (x : Itm α) :
    HRaw K tH tI ((((w.setCell ⟨g, i * 4, none⟩ (K.val x.key)).setCell ⟨g, i * 4 + 1, none⟩ (.int .i64 x.one)).setCell ⟨g, i * 4 + 2, none⟩ (.int .i64 x.two)).setCell ⟨g, i * 4 + 3, none⟩ (.int .i64 x.came)) bh bm (.slice (some ⟨g, 0, none⟩) l.length cap) (l.set i x) f n came ∧
    Upd (fun k => k = g) w ((((w.setCell ⟨g, i * 4, none⟩ (K.val x.key)).setCell ⟨g, i * 4 + 1, none⟩ (.int .i64 x.one)).setCell ⟨g, i * 4 + 2, none⟩ (.int .i64 x.two)).setCell ⟨g, i * 4 + 3, none⟩ (.int .i64 x.came)) := by
  have hu : Upd (fun k => k = g) w ((((w.setCell ⟨g, i * 4, none⟩ (K.val x.key)).setCell ⟨g, i * 4 + 1, none⟩ (.int .i64 x.one)).setCell ⟨g, i * 4 + 2, none⟩ (.int .i64 x.two)).setCell ⟨g, i * 4 + 3, none⟩ (.int .i64 x.came)) :=
    ((((Upd.refl _ w).set1 _ _).set1 _ _).set1 _ _).set1 _ _
  have hgh : bh ≠ g := fun e => h.hv.1 (by simp [Value.ownBlock, e])
  have hgm : bm ≠ g := fun e => h.hv.2 (by simp [Value.ownBlock, e])
  refine ⟨⟨h.st.upd hu hgh, ?_, h.mp.upd hu hgm, h.hm, h.hv⟩, hu⟩
  rcases h.row.2 with ⟨h0, _⟩ | ⟨g', cap', cur, hv, hb, hg, hcl, hcm, hcs, hct⟩
  · cases h0
  · obtain ⟨rfl, rfl⟩ : g = g' ∧ cap = cap' := by simpa using hv
    refine ⟨by rw [flatI_length], .inr ⟨g, cap, _, by simp, hb, (((Blk.set (vs := cur) hg _ _).set _ _).set _ _).set _ _, by simpa using hcl, hcm, by simpa using hcs, row_set hct i x⟩⟩

end Go.Proofs.Ytalnjkeajlbbpaa

/- Plain laws: a binary heap in a list, with an index; no program in sight. -/
namespace Go.Proofs.Ytalnjkeajlbbpaa

def ltR (a1 a2 b1 b2 : Int) : Bool := decide (a1 < b1) || (decide (a1 = b1) && decide (a2 < b2))
/-- Is item x ahead of y? -/
def ltI {α : Type} (x y : Itm α) : Bool := ltR x.one x.two y.one y.two || ((decide (x.one = y.one) && decide (x.two = y.two)) && decide (x.came < y.came))

variable {α : Type}

theorem ltI_iff (x y : Itm α) : ltI x y = true ↔ x.one < y.one ∨ (x.one = y.one ∧ (x.two < y.two ∨ (x.two = y.two ∧ x.came < y.came))) := by
  unfold ltI ltR
  simp only [Bool.or_eq_true, Bool.and_eq_true, decide_eq_true_eq]
  omega
theorem ltI_no (x y : Itm α) : ltI x y = false ↔ ¬ (x.one < y.one ∨ (x.one = y.one ∧ (x.two < y.two ∨ (x.two = y.two ∧ x.came < y.came)))) := by
  rw [← ltI_iff]; simp
theorem ltI_irrefl (x : Itm α) : ltI x x = false := by rw [ltI_no]; omega
theorem ltI_asymm {x y : Itm α} (h : ltI x y = true) : ltI y x = false := by rw [ltI_iff] at h; rw [ltI_no]; omega
theorem ltI_trans {x y z : Itm α} (h : ltI x y = true) (k : ltI y z = true) : ltI x z = true := by rw [ltI_iff] at *; omega
theorem ltI_ntrans {x y z : Itm α} (h : ltI x y = false) (k : ltI y z = false) : ltI x z = false := by rw [ltI_no] at *; omega
theorem ltI_eq {x y : Itm α} (h : ltI x y = false) (k : ltI y x = false) : x.one = y.one ∧ x.two = y.two ∧ x.came = y.came := by rw [ltI_no] at *; omega

def par (i : Nat) : Nat := (i - 1) / 2

/-- The heap's order everywhere. -/
def Heapd (L : List (Itm α)) : Prop := ∀ (j : Nat) (y z : Itm α), 0 < j → L[j]? = some y → L[par j]? = some z → ltI y z = false

/-- .. but at i; and what stands below i comes behind what stands above i. -/
def WH (L : List (Itm α)) (i : Nat) : Prop :=
  (∀ (j : Nat) (y z : Itm α), 0 < j → j ≠ i → par j ≠ i → L[j]? = some y → L[par j]? = some z → ltI y z = false) ∧
  (∀ (j : Nat) (y z : Itm α), 0 < j → par j = i → 0 < i → L[j]? = some y → L[par i]? = some z → ltI y z = false)

theorem par_lt {i : Nat} (h : 0 < i) : par i < i := by unfold par; omega

theorem get_swap {l : List (Itm α)} {i p : Nat} {x z : Itm α} (hi : i < l.length) (hp : p < l.length) (hne : i ≠ p) (j : Nat) : ((l.set i z).set p x)[j]? = if j = p then some x else if j = i then some z else l[j]? := by
  rw [List.getElem?_set, List.getElem?_set]
  by_cases h1 : j = p
  · subst h1; simp [hp]
  · rw [if_neg (fun e => h1 e.symm), if_neg h1]
    by_cases h2 : j = i
    · subst h2; simp [hi]
    · rw [if_neg (fun e => h2 e.symm), if_neg h2]

theorem get_one {l : List (Itm α)} {i : Nat} {x : Itm α} (hi : i < l.length) (j : Nat) : (l.set i x)[j]? = if j = i then some x else l[j]? := by
  rw [List.getElem?_set]
  by_cases h2 : j = i
  · subst h2; simp [hi]
  · rw [if_neg (fun e => h2 e.symm), if_neg h2]

theorem swap_perm {l : List (Itm α)} {i p : Nat} {x z : Itm α} (hi : i < l.length) (hp : p < l.length) (hne : i ≠ p) (hz : l[p]? = some z) : ((l.set i z).set p x).Perm (l.set i x) := by
  have h := List.set_set_perm (as := l.set i x) (i := i) (j := p) (by simpa using hi) (by simpa using hp)
  have e1 : (l.set i x)[p]'(by simpa using hp) = z := by
    have := List.getElem?_eq_getElem (l := l.set i x) (i := p) (by simpa using hp)
    rw [List.getElem?_set, if_neg hne, hz] at this
    simpa using this.symm
  have e2 : (l.set i x)[i]'(by simpa using hi) = x := by simp
  rw [e1, e2] at h
  simpa [List.set_set] using h

/-- One step up: x goes ahead of its parent z. -/
theorem up_step {l : List (Itm α)} {i : Nat} {x z : Itm α} (hi : i < l.length) (h0 : 0 < i) (hz : l[par i]? = some z) (hW : WH (l.set i x) i) : WH ((l.set i z).set (par i) x) (par i) := by
  have hp := par_lt h0
  have hpl : par i < l.length := by omega
  obtain ⟨h1, h2⟩ := hW
  have g := get_swap (x := x) (z := z) hi hpl (by omega : i ≠ par i)
  have k := get_one (x := x) hi
  have e1 : (l.set i x)[par i]? = some z := by rw [k, if_neg (by omega), hz]
  refine ⟨fun j y y' hj hjp hpp hy hy' => ?_, fun j y y' hj hpj hp0 hy hy' => ?_⟩
  · rw [g, if_neg hjp] at hy
    rw [g, if_neg hpp] at hy'
    by_cases hji : j = i
    · subst hji; exact absurd rfl hpp
    · rw [if_neg hji] at hy
      by_cases hpi : par j = i
      · rw [if_pos hpi] at hy'
        cases hy'
        exact h2 j y z hj hpi h0 (by rw [k, if_neg hji]; exact hy) e1
      · rw [if_neg hpi] at hy'
        exact h1 j y y' hj hji hpi (by rw [k, if_neg hji]; exact hy) (by rw [k, if_neg hpi]; exact hy')
  · have hpl := par_lt hp0
    rw [g, if_neg (by omega), if_neg (by omega)] at hy'
    have hzz : ltI z y' = false := h1 (par i) z y' hp0 (by omega) (by omega) e1 (by rw [k, if_neg (by omega)]; exact hy')
    have hjp : j ≠ par i := by intro e; rw [e] at hpj; omega
    rw [g, if_neg hjp] at hy
    by_cases hji : j = i
    · rw [if_pos hji] at hy
      cases hy
      exact hzz
    · rw [if_neg hji] at hy
      have : ltI y z = false := h1 j y z hj hji (by omega) (by rw [k, if_neg hji]; exact hy) (by rw [hpj]; exact e1)
      exact ltI_ntrans this hzz

/-- x stands right with its parent. -/
def UpOK (L : List (Itm α)) (i : Nat) (x : Itm α) : Prop := 0 < i → ∀ z, L[par i]? = some z → ltI x z = false

theorem up_stop {l : List (Itm α)} {i : Nat} {x z : Itm α} (hi : i < l.length) (h0 : 0 < i) (hz : l[par i]? = some z) (hlt : ltI x z = false) : UpOK (l.set i x) i x := by
  intro _ z' hz'
  have := par_lt h0
  rw [get_one hi, if_neg (by omega), hz] at hz'
  cases hz'
  exact hlt

theorem up_zero_ok (L : List (Itm α)) (x : Itm α) : UpOK L 0 x := fun h => absurd h (by omega)

/-- One step down: the lesser child z goes ahead of x. -/
theorem down_step {l : List (Itm α)} {i c : Nat} {x z : Itm α} (hi : i < l.length) (hc0 : 0 < c) (hpc : par c = i) (hz : l[c]? = some z) (hW : WH (l.set i x) i) (hlt : ltI z x = true)
    (hmin : ∀ (j : Nat) (y : Itm α), 0 < j → par j = i → l[j]? = some y → ltI y z = false) : WH ((l.set i z).set c x) c ∧ UpOK ((l.set i z).set c x) c x := by
  have hci := par_lt hc0
  have hcl : c < l.length := (List.getElem?_eq_some_iff.1 hz).1
  obtain ⟨h1, h2⟩ := hW
  have g := get_swap (x := x) (z := z) hi hcl (by omega : i ≠ c)
  have k := get_one (x := x) hi
  have e1 : (l.set i x)[c]? = some z := by rw [k, if_neg (by omega), hz]
  refine ⟨⟨fun j y y' hj hjc hpjc hy hy' => ?_, fun j y y' hj hpj _ hy hy' => ?_⟩, fun _ z' hz' => ?_⟩
  · rw [g, if_neg hjc] at hy
    rw [g, if_neg hpjc] at hy'
    by_cases hji : j = i
    · rw [if_pos hji] at hy
      cases hy
      have hp := par_lt hj
      rw [if_neg (by omega)] at hy'
      rw [hji] at hy' hj hp
      exact h2 c z y' hc0 hpc hj e1 (by rw [k, if_neg (by omega)]; exact hy')
    · rw [if_neg hji] at hy
      by_cases hpi : par j = i
      · rw [if_pos hpi] at hy'
        cases hy'
        exact hmin j y hj hpi hy
      · rw [if_neg hpi] at hy'
        exact h1 j y y' hj hji hpi (by rw [k, if_neg hji]; exact hy) (by rw [k, if_neg hpi]; exact hy')
  · have hpjj := par_lt hj
    rw [hpc, g, if_neg (by omega), if_pos rfl] at hy'
    cases hy'
    rw [g, if_neg (by omega), if_neg (by omega)] at hy
    exact h1 j y z hj (by omega) (by omega) (by rw [k, if_neg (by omega)]; exact hy) (by rw [hpj]; exact e1)
  · rw [hpc, g, if_neg (by omega), if_pos rfl] at hz'
    cases hz'
    exact ltI_asymm hlt

theorem down_stop {l : List (Itm α)} {i : Nat} {x : Itm α} (hi : i < l.length) (hW : WH (l.set i x) i) (hU : UpOK (l.set i x) i x) (hmin : ∀ (j : Nat) (y : Itm α), 0 < j → par j = i → l[j]? = some y → ltI y x = false) : Heapd (l.set i x) := by
  obtain ⟨h1, h2⟩ := hW
  intro j y z hj hy hz
  have k := get_one (x := x) hi
  by_cases hji : j = i
  · rw [hji] at hy hz hj
    rw [k, if_pos rfl] at hy
    cases hy
    exact hU hj z hz
  · by_cases hpi : par j = i
    · rw [k, if_neg hji] at hy
      rw [hpi, k, if_pos rfl] at hz
      cases hz
      exact hmin j y hj hpi hy
    · exact h1 j y z hj hji hpi hy hz

/-- The first one is ahead of all. -/
theorem heap_first {L : List (Itm α)} (h : Heapd L) {z : Itm α} (hz : L[0]? = some z) : ∀ (j : Nat) (y : Itm α), L[j]? = some y → ltI y z = false := by
  intro j
  induction j using Nat.strongRecOn with
  | _ j ih =>
    intro y hy
    by_cases h0 : j = 0
    · subst h0; rw [hz] at hy; cases hy; exact ltI_irrefl _
    · have hp := par_lt (by omega : 0 < j)
      obtain ⟨u, hu⟩ : ∃ u, L[par j]? = some u := ⟨L[par j]'(by have := (List.getElem?_eq_some_iff.1 hy).1; omega), List.getElem?_eq_getElem _⟩
      exact ltI_ntrans (h j y u (by omega) hy hu) (ih _ hp u hu)

/-- f tells where each key stands, but for the one at i. -/
def IdxBut (L : List (Itm α)) (f : α → Option Value) (i : Nat) : Prop := (∀ (j : Nat) (y : Itm α), j ≠ i → L[j]? = some y → f y.key = some (.int .i64 j)) ∧ (∀ k, (f k).isSome = true ↔ ∃ (j : Nat) (y : Itm α), L[j]? = some y ∧ y.key = k)
def Idx (L : List (Itm α)) (f : α → Option Value) : Prop := (∀ (j : Nat) (y : Itm α), L[j]? = some y → f y.key = some (.int .i64 j)) ∧ (∀ k, (f k).isSome = true ↔ ∃ (j : Nat) (y : Itm α), L[j]? = some y ∧ y.key = k)

/-- No key stands twice. -/
def NoTwice (L : List (Itm α)) : Prop := L.Pairwise (fun x y => x.key ≠ y.key)
theorem NoTwice.at {L : List (Itm α)} (h : NoTwice L) {i j : Nat} {x y : Itm α} (hx : L[i]? = some x) (hy : L[j]? = some y) (hk : x.key = y.key) : i = j := by
  have hi := (List.getElem?_eq_some_iff.1 hx)
  have hj := (List.getElem?_eq_some_iff.1 hy)
  obtain ⟨hi, ei⟩ := hi
  obtain ⟨hj, ej⟩ := hj
  rw [NoTwice, List.pairwise_iff_getElem] at h
  rcases Nat.lt_trichotomy i j with c | c | c
  · exact absurd (by rw [ei, ej]; exact hk) (h i j hi hj c)
  · exact c
  · exact absurd (by rw [ei, ej]; exact hk.symm) (h j i hj hi c)
theorem NoTwice.perm {L L' : List (Itm α)} (h : NoTwice L) (hp : L'.Perm L) : NoTwice L' := (hp.pairwise_iff (fun {_ _} h => Ne.symm h)).2 h

variable [DecidableEq α]

/-- The item z of place p goes to the hole at i; the hole is at p then. -/
theorem idx_step {l : List (Itm α)} {f : α → Option Value} {i p : Nat} {x z : Itm α} (hi : i < l.length) (hne : i ≠ p) (hz : l[p]? = some z) (hN : NoTwice (l.set i x)) (hI : IdxBut (l.set i x) f i) :
    IdxBut ((l.set i z).set p x) (put f z.key (.int .i64 i)) p := by
  have hpl : p < l.length := (List.getElem?_eq_some_iff.1 hz).1
  have g := get_swap (x := x) (z := z) hi hpl hne
  have k := get_one (x := x) hi
  have e1 : (l.set i x)[p]? = some z := by rw [k, if_neg (by omega), hz]
  obtain ⟨h1, h2⟩ := hI
  refine ⟨fun j y hjp hy => ?_, fun kk => ?_⟩
  · rw [g, if_neg hjp] at hy
    by_cases hji : j = i
    · rw [if_pos hji] at hy
      cases hy
      simp [put, hji]
    · rw [if_neg hji] at hy
      have hy' : (l.set i x)[j]? = some y := by rw [k, if_neg hji]; exact hy
      have : y.key ≠ z.key := fun e => hjp (hN.at hy' e1 e)
      simp only [put, if_neg this]
      exact h1 j y hji hy'
  · have hperm : ∀ (y : Itm α), (∃ j : Nat, ((l.set i z).set p x)[j]? = some y) ↔ ∃ j : Nat, (l.set i x)[j]? = some y := by
      intro y
      have := (swap_perm (x := x) hi hpl hne hz).mem_iff (a := y)
      rw [List.mem_iff_getElem?, List.mem_iff_getElem?] at this
      exact this
    have hz' : (f z.key).isSome = true := (h2 _).2 ⟨p, z, e1, rfl⟩
    have e : (put f z.key (.int .i64 i) kk).isSome = (f kk).isSome := by
      unfold put
      split
      · next h => subst h; rw [hz']; rfl
      · rfl
    rw [e, h2]
    constructor
    · rintro ⟨j, y, hy, hk⟩
      obtain ⟨j', hj'⟩ := (hperm y).2 ⟨j, hy⟩
      exact ⟨j', y, hj', hk⟩
    · rintro ⟨j, y, hy, hk⟩
      obtain ⟨j', hj'⟩ := (hperm y).1 ⟨j, hy⟩
      exact ⟨j', y, hj', hk⟩

theorem idx_end {l : List (Itm α)} {f : α → Option Value} {i : Nat} {x : Itm α} (hi : i < l.length) (hN : NoTwice (l.set i x)) (hI : IdxBut (l.set i x) f i) : Idx (l.set i x) (put f x.key (.int .i64 i)) := by
  obtain ⟨h1, h2⟩ := hI
  have k := get_one (x := x) hi
  have ex : (l.set i x)[i]? = some x := by rw [k, if_pos rfl]
  refine ⟨fun j y hy => ?_, fun kk => ?_⟩
  · by_cases hji : j = i
    · rw [hji] at hy ⊢
      rw [ex] at hy
      cases hy
      simp [put]
    · have : y.key ≠ x.key := fun e => hji (hN.at hy ex e)
      simp only [put, if_neg this]
      exact h1 j y hji hy
  · have hx' : (f x.key).isSome = true := (h2 _).2 ⟨i, x, ex, rfl⟩
    have e : (put f x.key (.int .i64 i) kk).isSome = (f kk).isSome := by
      unfold put
      split
      · next h => subst h; rw [hx']; rfl
      · rfl
    rw [e, h2]

end Go.Proofs.Ytalnjkeajlbbpaa
