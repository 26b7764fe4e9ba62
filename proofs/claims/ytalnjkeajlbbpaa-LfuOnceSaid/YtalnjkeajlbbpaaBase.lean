/- Frames ('Upd'), blocks known whole ('Blk'), maps of any elements as functions ('MapA'): over any program. -/
import Derived.WalkKit
import Derived.WalkSpells
import Derived.WalkLawsBesides
import Derived.Maps.OwnSet
import Derived.Maps.AppendAt
namespace Go.Proofs.Ytalnjkeajlbbpaa
open Go.RowKit

/-- w' is w but for the blocks in S, and new ones. -/
structure Upd (S : Nat → Prop) (w w' : World) : Prop where
  os : w'.os = w.os
  tape : w'.tape = w.tape
  output : w'.output = w.output
  size : w.heap.size ≤ w'.heap.size
  block : ∀ k, k < w.heap.size → ¬ S k → w'.heap[k]? = w.heap[k]?

theorem hid {p : Prop} (h : p) : Hid p := h

def Non : Nat → Prop := fun _ => False

theorem Upd.refl (S : Nat → Prop) (w : World) : Upd S w w := ⟨rfl, rfl, rfl, Nat.le_refl _, fun _ _ _ => rfl⟩

theorem Upd.trans {S S' : Nat → Prop} {a b c : World} (h : Upd S a b) (k : Upd S' b c) (hs : ∀ i, S' i → S i ∨ a.heap.size ≤ i) : Upd S a c :=
  ⟨k.os.trans h.os, k.tape.trans h.tape, k.output.trans h.output, Nat.le_trans h.size k.size, fun i hi hn =>
    (k.block i (Nat.lt_of_lt_of_le hi h.size) (fun hk => (hs i hk).elim hn (fun h => by omega))).trans (h.block i hi hn)⟩

theorem Upd.mono {S S' : Nat → Prop} {a b : World} (h : Upd S a b) (hs : ∀ i, S i → S' i ∨ a.heap.size ≤ i) : Upd S' a b :=
  ⟨h.os, h.tape, h.output, h.size, fun i hi hn => h.block i hi (fun hk => (hs i hk).elim hn (fun h => by omega))⟩

theorem Upd.drew {S : Nat → Prop} {a w : World} (h : Upd S a w) : Upd S a w.drew := ⟨h.os, h.tape, h.output, h.size, h.block⟩

theorem Upd.alloc {S : Nat → Prop} {a w : World} (h : Upd S a w) (o : Obj) : Upd S a (w.alloc o) :=
  h.trans (S' := Non) ⟨rfl, rfl, rfl, by simp, fun k hk _ => Below.heap_alloc _ _ _ hk⟩ (fun _ h => h.elim)

theorem Upd.setCell {S : Nat → Prop} {a w : World} (h : Upd S a w) {p : Addr} (hp : S p.block ∨ a.heap.size ≤ p.block) (u : Value) : Upd S a (w.setCell p u) :=
  h.trans (S' := fun k => k = p.block) ⟨rfl, rfl, rfl, by simp [World.setCell], fun k _ hn => Below.heap_setCell _ _ _ _ hn⟩ (fun _ h => h ▸ hp)

theorem Upd.grown {S : Nat → Prop} {a w w' : World} {row : Option Nat} (h : Upd S a w) (hg : w.grownBy w' row) (hr : ∀ k, row = some k → S k ∨ a.heap.size ≤ k) : Upd S a w' :=
  h.trans (S' := fun k => row = some k) ⟨hg.os, hg.tape, hg.output, hg.size, fun k hk hn => hg.block k hk (fun e => hn e.symm)⟩ hr

theorem Upd.below {S : Nat → Prop} {a w w' : World} {B : Nat} (h : Upd S a w) (hb : Below B w w') (hB : ∀ k, k < a.heap.size → ¬ S k → k < B) : Upd S a w' :=
  ⟨hb.os.trans h.os, hb.tape.trans h.tape, hb.output.trans h.output, Nat.le_trans h.size hb.size, fun k hk hn => (hb.block k (hB k hk hn)).trans (h.block k hk hn)⟩

theorem Upd.toBelow {S : Nat → Prop} {w w' : World} (h : Upd S w w') {B : Nat} (hB : B ≤ w.heap.size) (hs : ∀ k, S k → B ≤ k) : Below B w w' :=
  ⟨h.os, h.tape, h.output, h.size, fun k hk => h.block k (by omega) (fun hS => by have := hs k hS; omega)⟩

theorem Upd.heap {S : Nat → Prop} {w w' : World} (h : Upd S w w') {k : Nat} {o : Obj} (hk : w.heap[k]? = some o) (hn : ¬ S k) : w'.heap[k]? = some o :=
  (h.block k (Array.getElem?_eq_some_iff.1 hk).1 hn).trans hk

theorem Upd.cell {S : Nat → Prop} {w w' : World} (h : Upd S w w') {p : Addr} (hp : p.block < w.heap.size) (hn : ¬ S p.block) : w'.cell? p = w.cell? p := World.cell?_of_block (h.block p.block hp hn)
theorem Upd.frozen {S : Nat → Prop} {w w' : World} (h : Upd S w w') {p : Addr} (hp : p.block < w.heap.size) (hn : ¬ S p.block) : w'.frozen? p = w.frozen? p := World.frozen?_of_block (h.block p.block hp hn)

/-- A cell that is read stays, where nothing old has turned. -/
theorem Upd.keep {w w' : World} (h : Upd Non w w') {p : Addr} {v : Value} (hv : w.cell? p = some v) : w'.cell? p = some v := (h.cell (World.block_lt_of_cell? w p hv) id).trans hv
theorem Upd.drew0 {S : Nat → Prop} {w w' : World} (h : Upd S w.drew w') : Upd S w w' := ⟨h.os, h.tape, h.output, h.size, h.block⟩
theorem Upd.drewN {S : Nat → Prop} {a w : World} (h : Upd S a w) (n : Nat) : Upd S a (w.drewN n) := ⟨h.os, h.tape, h.output, h.size, h.block⟩

/-- Block b, whole: its cells; no mark. -/
def Blk (w : World) (b : Nat) (vs : Array Value) (T : TypeId) : Prop := w.heap[b]? = some (.cells vs T (0, 0))

theorem Blk.lt {w : World} {b : Nat} {vs : Array Value} {T : TypeId} (h : Blk w b vs T) : b < w.heap.size := (Array.getElem?_eq_some_iff.1 h).1
theorem Blk.cell {w : World} {b : Nat} {vs : Array Value} {T : TypeId} (h : Blk w b vs T) (i : Nat) {v : Value} (hv : vs[i]? = some v) : w.cell? ⟨b, i, none⟩ = some v := by
  unfold Blk at h; simp [World.cell?, h, hv]
theorem Blk.frozen {w : World} {b : Nat} {vs : Array Value} {T : TypeId} (h : Blk w b vs T) (i : Nat) : w.frozen? ⟨b, i, none⟩ = false := by
  unfold Blk at h; simp [World.frozen?, h]
theorem Blk.upd {w w' : World} {b : Nat} {vs : Array Value} {T : TypeId} {S : Nat → Prop} (h : Blk w b vs T) (hu : Upd S w w') (hn : ¬ S b) : Blk w' b vs T := hu.heap h hn
theorem Blk.drew {w : World} {b : Nat} {vs : Array Value} {T : TypeId} (h : Blk w b vs T) : Blk w.drew b vs T := h
theorem Blk.alloc {w : World} {b : Nat} {vs : Array Value} {T : TypeId} (h : Blk w b vs T) (o : Obj) : Blk (w.alloc o) b vs T := (Below.heap_alloc w o b h.lt).trans h
theorem Blk.new (w : World) (vs : Array Value) (T : TypeId) : Blk (w.alloc (.cells vs T)) w.heap.size vs T := by
  show (w.heap.push _)[w.heap.size]? = _
  rw [Array.getElem?_push, if_pos rfl]
theorem Blk.setOther {w : World} {b : Nat} {vs : Array Value} {T : TypeId} (h : Blk w b vs T) {a : Addr} (ha : b ≠ a.block) (v : Value) : Blk (w.setCell a v) b vs T := (Below.heap_setCell w a v b ha).trans h
theorem Blk.set {w : World} {b : Nat} {vs : Array Value} {T : TypeId} (h : Blk w b vs T) (i : Nat) (v : Value) : Blk (w.setCell ⟨b, i, none⟩ v) b (vs.setIfInBounds i v) T := by
  unfold Blk at *
  simp [World.setCell, Array.getElem?_modify, h]

/-- Of a map's element: any value. -/
def Rany (v : Value) : Option (DataW Value × List MemPlace) := some (.held v, [])

/-- How the keys of type kt stand for α. -/
structure KeyT (P : Program) (kt : TypeId) (α : Type) where
  val : α → Value
  lit : α → Lit
  keyed : Go.Maps.Keyed P kt
  isKey : ∀ a, WideAt.IsKeyLit (lit a)
  inj : ∀ a b, lit a = lit b → a = b
  ok : α → Prop
  of : ∀ a, ok a → keyOf P kt (val a) = some (lit a)

theorem str_inj {a b : ByteArray} (hab : Lit.string a.data.toList = Lit.string b.data.toList) : a = b := by
  have h1 : a.data.toList = b.data.toList := by simpa using hab
  have h2 : a.data = b.data := Array.toList_inj.1 h1
  cases a; cases b; simp_all

def strKey {P : Program} {kt : TypeId} (h : P.underlying kt = some .string) : KeyT P kt ByteArray :=
  { val := Value.string, lit := fun s => .string s.data.toList, keyed := Go.Maps.string_keyed h, isKey := fun _ => trivial, inj := fun _ _ hab => str_inj hab, ok := fun s => s.size ≤ maxLen, of := fun _ hs => Go.WideMaps.keyOf_string_mk h hs }

def intKey {P : Program} {kt : TypeId} (h : P.underlying kt = some (.int .i64)) : KeyT P kt Int :=
  { val := Value.int .i64, lit := Lit.int .i64, keyed := Go.Maps.int_keyed h, isKey := fun _ => trivial, inj := fun _ _ hab => by simpa using hab, ok := fun a => (Lit.int .i64 a).wf = true, of := fun _ hs => Go.Maps.keyOf_int_mk h hs }

variable {P : Program} {kt : TypeId} {α : Type}

/-- Block b is a map of n entries; f tells the element at a key. -/
def MapA (K : KeyT P kt α) (w : World) (b : Nat) (f : α → Option Value) (n : Nat) : Prop :=
  ∃ D : DataW Value, w.ownsMap P kt Rany b n D ∧ Maps.size D = n ∧ ∀ a, Maps.has D (K.lit a) = (f a).isSome ∧ ∀ v, f a = some v → ∀ z, D.atKey (K.lit a) z = .held v

theorem MapA.lt {K : KeyT P kt α} {w : World} {b : Nat} {f : α → Option Value} {n : Nat} (h : MapA K w b f n) : b < w.heap.size := by
  obtain ⟨D, h, _⟩ := h; exact h.lt

theorem MapA.made (K : KeyT P kt α) (w : World) : MapA K (w.alloc (.map #[] 0)) w.heap.size (fun _ => none) 0 :=
  ⟨.map [], World.ownsMap_made w P kt _, rfl, fun _ => ⟨rfl, fun _ h => by cases h⟩⟩

theorem MapA.upd {K : KeyT P kt α} {w w' : World} {b : Nat} {f : α → Option Value} {n : Nat} {S : Nat → Prop} (h : MapA K w b f n) (hu : Upd S w w') (hn : ¬ S b) : MapA K w' b f n := by
  obtain ⟨D, ⟨es, cl, hb, r⟩, h2⟩ := h
  exact ⟨D, ⟨es, cl, hu.heap hb hn, r⟩, h2⟩

theorem MapA.alloc {K : KeyT P kt α} {w : World} {b : Nat} {f : α → Option Value} {n : Nat} (h : MapA K w b f n) (o : Obj) : MapA K (w.alloc o) b f n := h.upd ((Upd.refl Non w).alloc o) id
theorem MapA.drew {K : KeyT P kt α} {w : World} {b : Nat} {f : α → Option Value} {n : Nat} (h : MapA K w b f n) : MapA K w.drew b f n := h
theorem MapA.setCell {K : KeyT P kt α} {w : World} {b : Nat} {f : α → Option Value} {n : Nat} (h : MapA K w b f n) {a : Addr} (ha : b ≠ a.block) (u : Value) : MapA K (w.setCell a u) b f n := by
  obtain ⟨D, h, h2⟩ := h
  exact ⟨D, h.setCell ha u, h2⟩

/-- 'm[k]', with 'ok' or without. -/
theorem MapA.look {K : KeyT P kt α} {w : World} {b : Nat} {f : α → Option Value} {n : Nat} (h : MapA K w b f n) {t e : TypeId} (ht : P.underlying t = some (.map kt e)) {z : Value} (hz : (zeroValue e).run P w = .ok z w) {a : α} (ha : K.ok a) :
    (Instr.lookup t (.map (some b)) (K.val a) true).run P w = .ok (.tuple #[(f a).getD z, .bool (f a).isSome]) w := by
  obtain ⟨D, h, _, hf⟩ := h
  obtain ⟨v, ps, hrun, hv⟩ := h.look_ok K.keyed ht hz (zd := .held z) (zp := []) rfl (K.of a ha)
  obtain ⟨h1, h2⟩ := hf a
  rw [hrun, h1]
  simp only [Rany, Option.some.injEq, Prod.mk.injEq] at hv
  cases hfa : f a with
  | none =>
    rw [hfa] at h1
    have := Maps.atKey_of_not_has h1 (.held z)
    rw [this] at hv
    have : v = z := by simpa using hv.1
    rw [this]; rfl
  | some u =>
    rw [h2 u hfa] at hv
    have : v = u := by simpa using hv.1
    rw [this]; rfl

theorem MapA.look1 {K : KeyT P kt α} {w : World} {b : Nat} {f : α → Option Value} {n : Nat} (h : MapA K w b f n) {t e : TypeId} (ht : P.underlying t = some (.map kt e)) {z : Value} (hz : (zeroValue e).run P w = .ok z w) {a : α} (ha : K.ok a) :
    (Instr.lookup t (.map (some b)) (K.val a) false).run P w = .ok ((f a).getD z) w := by
  obtain ⟨D, h, _, hf⟩ := h
  obtain ⟨v, ps, hrun, hv⟩ := h.lookup K.keyed ht hz (zd := .held z) (zp := []) rfl (K.of a ha)
  obtain ⟨h1, h2⟩ := hf a
  rw [hrun]
  simp only [Rany, Option.some.injEq, Prod.mk.injEq] at hv
  cases hfa : f a with
  | none =>
    rw [hfa] at h1
    have := Maps.atKey_of_not_has h1 (.held z)
    rw [this] at hv
    have : v = z := by simpa using hv.1
    rw [this]; rfl
  | some u =>
    rw [h2 u hfa] at hv
    have : v = u := by simpa using hv.1
    rw [this]; rfl

variable [DecidableEq α]

/-- f, with v at a. -/
def put (f : α → Option Value) (a : α) (v : Value) : α → Option Value := fun x => if x = a then some v else f x
def del (f : α → Option Value) (a : α) : α → Option Value := fun x => if x = a then none else f x

/-- 'm[k] = v'. -/
theorem MapA.store {K : KeyT P kt α} {w : World} {b : Nat} {f : α → Option Value} {n : Nat} (h : MapA K w b f n) {t e : TypeId} (ht : P.underlying t = some (.map kt e)) (hn : n < maxLen) {a : α} (ha : K.ok a) (v : Value) :
    ∃ w', (Instr.mapUpdate t (.map (some b)) (K.val a) v).run P w = .ok () w' ∧ MapA K w' b (put f a v) (if (f a).isSome then n else n + 1) ∧ w.mapTurned w' b := by
  obtain ⟨D, h, hs, hf⟩ := h
  obtain ⟨w', hrun, hown, ht⟩ := h.store K.keyed ht hn (d := .held v) (ps := []) (K.of a ha) rfl
  have hsz : Maps.size (D.put (K.lit a) (.held v)) = if (f a).isSome then n else n + 1 := by
    rw [Maps.size_put (h.tidy K.keyed), (hf a).1, hs]
  refine ⟨w', hrun, ⟨D.put (K.lit a) (.held v), ?_, hsz, fun x => ?_⟩, ht⟩
  · obtain ⟨es, cl, hb, F, hle, hD⟩ := hown
    refine ⟨es, cl, hb, F, ?_, hD⟩
    rw [← hsz, hD]; simp [Maps.size, length_sorted]
  · unfold put
    by_cases hx : x = a
    · subst hx
      simp only [if_true]
      exact ⟨Maps.has_put_same h.isMap (K.isKey x) _, fun u hu z => by cases hu; exact Maps.atKey_put_same h.isMap (K.isKey x) _ _⟩
    · have hne : K.lit x ≠ K.lit a := fun e => hx (K.inj _ _ e)
      simp only [if_neg hx]
      exact ⟨by rw [Maps.has_put_other hne]; exact (hf x).1, fun u hu z => by rw [Maps.atKey_put_other hne]; exact (hf x).2 u hu z⟩

/-- 'delete(m, k)'. -/
theorem MapA.drop {K : KeyT P kt α} {w : World} {b : Nat} {f : α → Option Value} {n : Nat} (h : MapA K w b f n) {t e : TypeId} (ht : P.underlying t = some (.map kt e)) {a : α} (ha : K.ok a) (ty : TypeId) :
    ∃ w', (Builtin.delete_ #[t, kt] ty #[.map (some b), K.val a]).run P w = .ok (.tuple #[]) w' ∧ MapA K w' b (del f a) (if (f a).isSome then n - 1 else n) ∧ w.mapTurned w' b := by
  obtain ⟨D, h, hs, hf⟩ := h
  obtain ⟨w', hrun, hown, ht⟩ := h.drop K.keyed ht (K.of a ha) ty
  have hsz : Maps.size (D.del (K.lit a)) = if (f a).isSome then n - 1 else n := by
    have := Maps.size_del (k := K.lit a) (h.tidy K.keyed)
    rw [(hf a).1, hs] at this
    split <;> rename_i hh <;> simp [hh] at this <;> omega
  refine ⟨w', hrun, ⟨D.del (K.lit a), ?_, hsz, fun x => ?_⟩, ht⟩
  · obtain ⟨es, cl, hb, F, hle, hD⟩ := hown
    refine ⟨es, cl, hb, F, ?_, hD⟩
    rw [← hsz, hD]; simp [Maps.size, length_sorted]
  · unfold del
    by_cases hx : x = a
    · subst hx
      simp only [if_true]
      exact ⟨Maps.has_del_same, fun u hu z => by cases hu⟩
    · have hne : K.lit x ≠ K.lit a := fun e => hx (K.inj _ _ e)
      simp only [if_neg hx]
      exact ⟨by rw [Maps.has_del_other hne]; exact (hf x).1, fun u hu z => by rw [Maps.atKey_del_other hne]; exact (hf x).2 u hu z⟩

omit [DecidableEq α] in
theorem MapA.len {K : KeyT P kt α} {w : World} {b : Nat} {f : α → Option Value} {n : Nat} (h : MapA K w b f n) {t e : TypeId} (ht : P.underlying t = some (.map kt e)) (ty : TypeId) :
    (Builtin.len_ #[t] ty #[.map (some b)]).run P w = .ok (.int .i64 n) w := by
  obtain ⟨D, h, hs, _⟩ := h
  rw [h.len ht, hs]

theorem turned_upd {w w' : World} {b : Nat} (h : w.mapTurned w' b) : Upd (fun k => k = b) w w' :=
  (Upd.refl (fun k => k = b) w).grown h.grown (fun k e => .inl (by cases e; rfl))

/-- append of at least one element: the new slice, written out; where it lies. -/
theorem wpList_append_some {w : World} {ops : Array Oper} {rest : List Oper} {o : Oper} {a : Act} {Q : Exit → Act → World → Prop} (hgd : o.guard = none) (s x : Operand) (t : TypeId)
    (ho : o.op = .call { callee := .builtin .append, args := #[s, x], argTypes := #[t, t] })
    (base : Nat) (e : TypeId) (i : TypeInfo) (z : Value) (size bytes : Nat) (ht : P.underlying t = some (.slice e)) (hi : P.info? e = some i) (hz : i.zero = some z)
    (hsize : i.size = size) (hby : i.bytes = bytes) (hzs : z.cells.size = size) (hsz : 0 < size)
    (v : Value) (n : Nat) (xs : List Value) (hs : a.eval s = v) (hown : w.ownsRow base e size v n xs)
    (ad : Addr) (m c : Nat) (news : List Value) (hx : a.eval x = .slice (some ad) m c) (hl : news.length = m * size) (hnews : ∀ j u, news[j]? = some u → w.cell? (ad.add j) = some u) (h1 : ∀ u ∈ news, u.oneCell' = true)
    (h63 : n + m ≤ maxLen) (hbytes : (n + m) * bytes ≤ 140737488355328) (hbase : base ≤ w.heap.size) (hm : 0 < m)
    (h : ∀ g cap w', w'.ownsRow base e size (.slice (some ⟨g, 0, none⟩) (n + m) cap) (n + m) (xs ++ news) → w.grownBy w' v.ownBlock → (v.ownBlock = some g ∨ g = w.heap.size) → wpList P ops Q rest (a.put o.dst (.slice (some ⟨g, 0, none⟩) (n + m) cap)) w') :
    wpList P ops Q (o :: rest) a w := by
  refine wpList_append_own_at w hgd s x t ho base e i z size bytes ht hi hz hsize hby hzs hsz v n xs hs hown ad m c news hx hl hnews h1 h63 hbytes hbase ?_
  intro v' w' h2 h3 h4 h5
  rcases h2.2 with ⟨_, h0⟩ | ⟨g, cap, cur, rfl, _⟩
  · omega
  · refine h g cap w' h2 h3 ?_
    rcases h5 with h5 | h5
    · exact .inl h5.symm
    · exact .inr (by simpa [Value.ownBlock] using h5)

end Go.Proofs.Ytalnjkeajlbbpaa
