/- HeapPops: what its loops keep. -/
import Derived.Test.YtalnjkeajlbbpaaTie
namespace Go.Proofs.Ytalnjkeajlbbpaa
open Go.RowKit

theorem set_own {w1 W : World} {bh : Nat} {F : Nat → Prop} {m : List (Itm ByteArray)} {c : Int} (o : Own w1 W bh F m c) (hl : m.length ≤ 1000) (h0 : 0 ≤ c) (h1 : c ≤ 1000) {key : ByteArray} (hk : key.size ≤ maxLen) (r1 r2 : Int) :
    Calls Try.prog 15 #[.pointer (some ⟨bh, 0, none⟩), .string key, .agg #[.int .i64 r1, .int .i64 r2]] W fun e w' => e = .returned (.tuple #[]) ∧
      ∃ F', Own w1 w' bh F' (setM m key r1 r2 (c + 1)) (c + 1) ∧ Upd F W w' ∧ Within W F F' :=
  (set_hr o.hr (by omega) h0 (by omega) hk r1 r2).mono fun e w' ⟨he, F', h, u, q⟩ => ⟨he, F', o.step h u q, u, q⟩

theorem rem_own {w1 W : World} {bh : Nat} {F : Nat → Prop} {m : List (Itm ByteArray)} {c : Int} (o : Own w1 W bh F m c) (hl : m.length ≤ 1000) {key : ByteArray} (hk : key.size ≤ maxLen) (b : Bool) (hb : (findM m key).isSome = b) :
    Calls Try.prog 16 #[.pointer (some ⟨bh, 0, none⟩), .string key] W fun e w' => e = .returned (.bool b) ∧
      ∃ F', Own w1 w' bh F' (remM m key) c ∧ Upd F W w' ∧ Within W F F' :=
  (rem_hr o.hr (by omega) hk b hb).mono fun e w' ⟨he, F', h, u, q⟩ => ⟨he, F', o.step h u q, u, q⟩

theorem pop_own {w1 W : World} {bh : Nat} {F : Nat → Prop} {m : List (Itm ByteArray)} {c : Int} (o : Own w1 W bh F m c) (hl : m.length ≤ 1000) (v : Value) (hv : popV m = v) :
    Calls Try.prog 19 #[.pointer (some ⟨bh, 0, none⟩)] W fun e w' => e = .returned v ∧
      ∃ F', Own w1 w' bh F' m.tail c ∧ Upd F W w' ∧ Within W F F' :=
  (pop_hr o.hr (by omega) v hv).mono fun e w' ⟨he, F', h, u, q⟩ => ⟨he, F', o.step h u q, u, q⟩

def popStep (p : List (Itm ByteArray) × Int) (a : Act4) : List (Itm ByteArray) × Int :=
  (if a.kind = 1 then remM (setM p.1 a.key a.one a.two (p.2 + 1)) a.key else setM p.1 a.key a.one a.two (p.2 + 1), p.2 + 1)
def popRun (l : List Act4) : List (Itm ByteArray) × Int := l.foldl popStep ([], 0)
theorem popRun_snoc (l : List Act4) (a : Act4) : popRun (l ++ [a]) = popStep (popRun l) a := by simp [popRun, List.foldl_append]

theorem popStep_len (p : List (Itm ByteArray) × Int) (a : Act4) : (popStep p a).1.length ≤ p.1.length + 1 ∧ (popStep p a).2 = p.2 + 1 := by
  refine ⟨?_, rfl⟩
  have h := setM_len p.1 a.key a.one a.two (p.2 + 1)
  unfold popStep
  dsimp only
  split
  · have := remM_len (setM p.1 a.key a.one a.two (p.2 + 1)) a.key; omega
  · exact h
theorem popFold_len : ∀ (l : List Act4) (p : List (Itm ByteArray) × Int), (l.foldl popStep p).1.length ≤ p.1.length + l.length ∧ (l.foldl popStep p).2 = p.2 + l.length
  | [], p => ⟨by simp, by simp⟩
  | a :: l, p => by
    obtain ⟨t1, t2⟩ := popFold_len l (popStep p a)
    obtain ⟨h1, h2⟩ := popStep_len p a
    rw [List.foldl_cons, List.length_cons]
    exact ⟨by omega, by rw [t2, h2]; omega⟩
theorem popRun_len (l : List Act4) : (popRun l).1.length ≤ l.length ∧ (popRun l).2 = l.length := by
  have := popFold_len l ([], 0)
  simpa [popRun] using this

theorem Arr.wider {w w' : World} {F F' : Nat → Prop} {av : Option Addr} {k : Nat} {l : List (List Value)} (h : Arr w F av k l) (u : Upd Non w w') (hF : ∀ k, F' k → F k ∨ w.heap.size ≤ k) : Arr w' F' av k l :=
  (h.turn (F' := F') (fun g hg hn h => (hF g h).elim hn (fun e => by omega))).non u

theorem box2 {w w' : World} {b : Nat} {a1 a2 : Int} {T : TypeId} (B : Blk w b #[.int .i64 a1, .int .i64 a2] T) (u : Upd Non w w') : w'.cell? ⟨b, 0, none⟩ = some (.int .i64 a1) ∧ w'.cell? ⟨b, 1, none⟩ = some (.int .i64 a2) :=
  ⟨(B.upd u id).cell 0 rfl, (B.upd u id).cell 1 rfl⟩

def With2 (F : Nat → Prop) (a b : Nat) : Nat → Prop := fun k => F k ∨ k = a ∨ k = b

structure PopS (w1 w : World) (bh bs bl : Nat) (F : Nat → Prop) (m : List (Itm ByteArray)) (c : Int) (ks sn : List ByteArray) (av : Option Addr) (a b : Int) : Prop where
  own : Own w1 w bh F m c
  arr : Arr w (With2 F bs bl) av 1 (strC ks)
  mp : MapA SK w bs (seenF sn) sn.length
  mpF : ¬ F bs
  mpB : w1.heap.size ≤ bs
  lb : Blk w bl #[.int .i64 a, .int .i64 b] 24
  lbF : ¬ F bl
  lbB : w1.heap.size ≤ bl
  ne : bs ≠ bl

variable {w1 w w' : World} {bh bs bl : Nat} {F : Nat → Prop} {m : List (Itm ByteArray)} {c : Int} {ks sn : List ByteArray} {av : Option Addr} {a b : Int}

theorem PopS.non (s : PopS w1 w bh bs bl F m c ks sn av a b) (u : Upd Non w w') : PopS w1 w' bh bs bl F m c ks sn av a b :=
  ⟨s.own.non u, s.arr.non u, s.mp.upd u id, s.mpF, s.mpB, s.lb.upd u id, s.lbF, s.lbB, s.ne⟩

theorem PopS.heap (s : PopS w1 w bh bs bl F m c ks sn av a b) {F' : Nat → Prop} {m' : List (Itm ByteArray)} {c' : Int} (o : Own w1 w' bh F' m' c') (u : Upd F w w') (q : Within w F F') : PopS w1 w' bh bs bl F' m' c' ks sn av a b :=
  ⟨o, s.arr.step (u.mono (fun k hk => .inl (.inl hk))) (fun k hk => hk.elim (fun h => (q k h).imp .inl id) (fun h => .inl (.inr h))), s.mp.upd u s.mpF, q.no s.mpF s.mp.lt, s.mpB, s.lb.upd u s.lbF, q.no s.lbF s.lb.lt, s.lbB, s.ne⟩

theorem pop_store (s : PopS w1 w bh bs bl F m c ks sn av a b) (hn : sn.length ≤ 1000) {x : ByteArray} (hx : x.size ≤ maxLen) (hno : isIn x sn = false) :
    ∃ w', (Instr.mapUpdate 35 (.map (some bs)) (.string x) (.bool true)).run Try.prog w = .ok () w' ∧ PopS w1 w' bh bs bl F m c ks (sn ++ [x]) av a b ∧ Upd (fun k => k = bs) w w' := by
  obtain ⟨w', hr, hm, ht⟩ := s.mp.store Try.underlying35 (by unfold maxLen; omega) (a := x) hx (.bool true)
  have u := turned_upd ht
  refine ⟨w', hr, ⟨s.own.other u (fun k hF hk => s.mpF (hk ▸ hF)) (fun k hk => hk ▸ s.mpB), s.arr.step (u.mono (fun k hk => .inl (.inr (.inl hk)))) (Within.refl _ _), ?_, s.mpF, s.mpB, s.lb.upd u (fun e => s.ne e.symm), s.lbF, s.lbB, s.ne⟩, u⟩
  rw [seen_put, show (seenF sn x).isSome = false by simp [seenF, hno]] at hm
  simpa using hm

theorem PopS.last (s : PopS w1 w bh bs bl F m c ks sn av a b) (a' b' : Int) : PopS w1 ((w.setCell ⟨bl, 0, none⟩ (.int .i64 a')).setCell ⟨bl, 1, none⟩ (.int .i64 b')) bh bs bl F m c ks sn av a' b' := by
  have u : Upd (fun k => k = bl) w ((w.setCell ⟨bl, 0, none⟩ (.int .i64 a')).setCell ⟨bl, 1, none⟩ (.int .i64 b')) := ((Upd.refl (fun k => k = bl) w).set1 0 _).set1 1 _
  exact ⟨s.own.other u (fun k hF hk => s.lbF (hk ▸ hF)) (fun k hk => hk ▸ s.lbB), s.arr.step (u.mono (fun k hk => .inl (.inr (.inr hk)))) (Within.refl _ _), s.mp.upd u s.ne, s.mpF, s.mpB, (s.lb.set 0 _).set 1 _, s.lbF, s.lbB, s.ne⟩

/-- Off the front: in order, each once. -/
theorem drop_cons {α : Type} {m : List α} {i : Nat} {y : α} (h : m[i]? = some y) : m.drop i = y :: m.drop (i + 1) := by
  obtain ⟨hi, rfl⟩ := List.getElem?_eq_some_iff.1 h
  exact List.drop_eq_getElem_cons hi

theorem fresh_key {m : List (Itm ByteArray)} (hN : NoTwice m) {i : Nat} {y : Itm ByteArray} (h : m[i]? = some y) : isIn y.key ((keysM m).take i) = false := by
  rw [isIn_no]
  intro hm
  obtain ⟨j, hj⟩ := List.mem_iff_getElem?.1 hm
  rw [List.getElem?_take] at hj
  split at hj
  · next hji =>
    simp only [keysM, List.getElem?_map] at hj
    cases hz : m[j]? with
    | none => rw [hz] at hj; cases hj
    | some z =>
      rw [hz] at hj
      simp only [Option.map_some, Option.some.injEq] at hj
      have := hN.at hz h hj
      omega
  · cases hj

theorem rank_rise {m : List (Itm ByteArray)} (hS : SortedS m) {i : Nat} {y z : Itm ByteArray} (h : m[i]? = some y) (h' : m[i + 1]? = some z) : ltR z.one z.two y.one y.two = false := by
  obtain ⟨hi, rfl⟩ := List.getElem?_eq_some_iff.1 h
  obtain ⟨hi', rfl⟩ := List.getElem?_eq_some_iff.1 h'
  have := List.pairwise_iff_getElem.1 hS i (i + 1) hi hi' (by omega)
  rw [ltI_iff] at this
  unfold ltR
  simp only [Bool.or_eq_false_iff, Bool.and_eq_false_iff, decide_eq_false_iff_not]
  omega

theorem head_rank (y : Itm ByteArray) (r : List (Itm ByteArray)) : rankV (findM (y :: r) y.key) = .tuple #[.agg #[.int .i64 y.one, .int .i64 y.two], .bool true] := by
  unfold findM
  rw [List.find?_cons_of_pos (by simp)]
  rfl

end Go.Proofs.Ytalnjkeajlbbpaa
