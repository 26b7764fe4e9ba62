/- The heap's contracts, told by the sorted list of its items (keys: strings). -/
import Derived.Test.YtalnjkeajlbbpaaHeapW10
namespace Go.Proofs.Ytalnjkeajlbbpaa
open Go.RowKit

section plain
variable {α : Type} [DecidableEq α]

def SortedS (m : List (Itm α)) : Prop := m.Pairwise (fun x y => ltI x y = true)

def insI (x : Itm α) : List (Itm α) → List (Itm α)
  | [] => [x]
  | y :: r => if ltI x y then x :: y :: r else y :: insI x r

def remM (m : List (Itm α)) (k : α) : List (Itm α) := m.filter (fun y => decide (y.key ≠ k))
def setM (m : List (Itm α)) (k : α) (a b c : Int) : List (Itm α) := insI ⟨k, a, b, c⟩ (remM m k)
def findM (m : List (Itm α)) (k : α) : Option (Itm α) := m.find? (fun y => decide (y.key = k))

omit [DecidableEq α] in
theorem insI_perm (x : Itm α) : ∀ m : List (Itm α), (insI x m).Perm (x :: m)
  | [] => List.Perm.refl _
  | y :: r => by
    unfold insI
    split
    · exact List.Perm.refl _
    · exact ((insI_perm x r).cons y).trans (List.Perm.swap _ _ _)

omit [DecidableEq α] in
theorem insI_sorted (x : Itm α) : ∀ m : List (Itm α), SortedS m → (∀ y ∈ m, y.came ≠ x.came) → SortedS (insI x m)
  | [], _, _ => List.pairwise_singleton _ _
  | y :: r, h, hc => by
    obtain ⟨h1, h2⟩ := List.pairwise_cons.1 h
    unfold insI
    split
    · next hx => exact List.pairwise_cons.2 ⟨fun z hz => by
        rcases List.mem_cons.1 hz with rfl | hz
        · exact hx
        · exact ltI_trans hx (h1 z hz), h⟩
    · next hx =>
      have hyx : ltI y x = true := by
        cases e : ltI y x with
        | true => rfl
        | false => exact absurd (ltI_eq e (by simpa using hx)).2.2 (hc y (by simp))
      exact List.pairwise_cons.2 ⟨fun z hz => by
        rcases List.mem_cons.1 ((insI_perm x r).mem_iff.1 hz) with rfl | hz
        · exact hyx
        · exact h1 z hz, insI_sorted x r h2 (fun z hz => hc z (by simp [hz]))⟩

omit [DecidableEq α] in
theorem sortedS_unique : ∀ {a b : List (Itm α)}, SortedS a → SortedS b → a.Perm b → a = b
  | [], b, _, _, hp => (List.nil_perm.1 hp).symm
  | x :: a, [], _, _, hp => absurd hp.length_eq (by simp)
  | x :: a, y :: b, ha, hb, hp => by
    obtain ⟨a1, a2⟩ := List.pairwise_cons.1 ha
    obtain ⟨b1, b2⟩ := List.pairwise_cons.1 hb
    have hxy : x = y := by
      rcases List.mem_cons.1 (hp.mem_iff.1 (List.mem_cons_self (a := x) (l := a))) with h | h
      · exact h
      · rcases List.mem_cons.1 (hp.mem_iff.2 (List.mem_cons_self (a := y) (l := b))) with h' | h'
        · exact h'.symm
        · have := ltI_asymm (b1 x h)
          rw [a1 y h'] at this
          cases this
    subst hxy
    rw [sortedS_unique a2 b2 hp.cons_inv]

theorem filter_one : ∀ (l : List (Itm α)) (y : Itm α), NoTwice l → y ∈ l → l.Perm (y :: remM l y.key)
  | [], y, _, h => by simp at h
  | z :: l, y, hN, h => by
    obtain ⟨h1, h2⟩ := List.pairwise_cons.1 hN
    rcases List.mem_cons.1 h with rfl | h
    · have : remM (y :: l) y.key = l := by
        unfold remM
        rw [List.filter_cons_of_neg (by simp), List.filter_eq_self]
        intro u hu
        simpa using (h1 u hu).symm
      rw [this]
    · have : remM (z :: l) y.key = z :: remM l y.key := by
        unfold remM
        rw [List.filter_cons_of_pos (by simpa using h1 y h)]
      rw [this]
      exact ((filter_one l y h2 h).cons z).trans (List.Perm.swap _ _ _)

theorem remM_none {m : List (Itm α)} {k : α} (h : ∀ y ∈ m, y.key ≠ k) : remM m k = m := by
  unfold remM
  rw [List.filter_eq_self]
  intro u hu
  simpa using h u hu

omit [DecidableEq α] in
theorem sortedS_sub {m m' : List (Itm α)} (h : SortedS m) (hs : m'.Sublist m) : SortedS m' := List.Pairwise.sublist hs h
theorem remM_sub (m : List (Itm α)) (k : α) : (remM m k).Sublist m := List.filter_sublist

theorem findM_some {m : List (Itm α)} {k : α} {y : Itm α} (hN : NoTwice m) (hy : y ∈ m) (hk : y.key = k) : findM m k = some y := by
  unfold findM
  induction m with
  | nil => simp at hy
  | cons z m ih =>
    obtain ⟨h1, h2⟩ := List.pairwise_cons.1 hN
    rcases List.mem_cons.1 hy with rfl | hy
    · simp [hk]
    · have : z.key ≠ k := by rw [← hk]; exact h1 y hy
      rw [List.find?_cons_of_neg (by simpa using this)]
      exact ih h2 hy
theorem findM_none {m : List (Itm α)} {k : α} (h : ∀ y ∈ m, y.key ≠ k) : findM m k = none := by
  unfold findM
  rw [List.find?_eq_none]
  intro y hy
  simpa using h y hy
theorem findM_mem {m : List (Itm α)} {k : α} {y : Itm α} (h : findM m k = some y) : y ∈ m ∧ y.key = k :=
  ⟨List.mem_of_find?_eq_some h, by simpa using List.find?_some h⟩
theorem findM_no {m : List (Itm α)} {k : α} (h : findM m k = none) : ∀ y ∈ m, y.key ≠ k := by
  intro y hy
  simpa using List.find?_eq_none.1 h y hy
end plain

/-- The heap at bh holds the items m, in their order; F: its blocks. -/
def HR (w : World) (bh : Nat) (F : Nat → Prop) (m : List (Itm ByteArray)) (came : Int) : Prop :=
  ∃ bm v l f, HC w bh bm v l f came ∧ l.Perm m ∧ SortedS m ∧ (∀ y ∈ m, y.came ≤ came) ∧ ∀ k, own3 bh bm v k ↔ F k

theorem HR.upd {w w' : World} {bh : Nat} {F S : Nat → Prop} {m : List (Itm ByteArray)} {came : Int} (h : HR w bh F m came) (hu : Upd S w w') (hs : ∀ k, F k → ¬ S k) : HR w' bh F m came := by
  obtain ⟨bm, v, l, f, hc, r1, r2, r3, hF⟩ := h
  exact ⟨bm, v, l, f, ⟨hc.raw.upd hu (hs _ ((hF _).1 (.inl rfl))) (hs _ ((hF _).1 (.inr (.inl rfl)))) (fun k hk => hs _ ((hF _).1 (.inr (.inr hk)))), hc.heap, hc.idx, hc.nt, hc.ok⟩, r1, r2, r3, hF⟩
theorem HR.non {w w' : World} {bh : Nat} {F : Nat → Prop} {m : List (Itm ByteArray)} {came : Int} (h : HR w bh F m came) (hu : Upd Non w w') : HR w' bh F m came := h.upd hu (fun _ _ => id)
theorem HR.lt {w : World} {bh : Nat} {F : Nat → Prop} {m : List (Itm ByteArray)} {came : Int} (h : HR w bh F m came) : ∀ k, F k → k < w.heap.size := by
  obtain ⟨bm, v, l, f, hc, r1, r2, r3, hF⟩ := h
  intro k hk
  rcases (hF k).2 hk with rfl | rfl | hk
  · exact hc.raw.st.lt
  · exact hc.raw.mp.lt
  · exact (hc.raw.row.lt k hk).2
theorem HR.nt {w : World} {bh : Nat} {F : Nat → Prop} {m : List (Itm ByteArray)} {came : Int} (h : HR w bh F m came) : NoTwice m := by
  obtain ⟨bm, v, l, f, hc, r1, _⟩ := h
  exact hc.nt.perm r1.symm
theorem HR.sorted {w : World} {bh : Nat} {F : Nat → Prop} {m : List (Itm ByteArray)} {came : Int} (h : HR w bh F m came) : SortedS m := by
  obtain ⟨bm, v, l, f, hc, r1, r2, _⟩ := h
  exact r2
theorem HR.came {w : World} {bh : Nat} {F : Nat → Prop} {m : List (Itm ByteArray)} {came : Int} (h : HR w bh F m came) : ∀ y ∈ m, y.came ≤ came := by
  obtain ⟨bm, v, l, f, hc, r1, r2, r3, _⟩ := h
  exact r3
theorem HR.ok {w : World} {bh : Nat} {F : Nat → Prop} {m : List (Itm ByteArray)} {came : Int} (h : HR w bh F m came) : ∀ y ∈ m, y.key.size ≤ maxLen := by
  obtain ⟨bm, v, l, f, hc, r1, _⟩ := h
  exact fun y hy => hc.ok y (r1.mem_iff.2 hy)
theorem HR.in {w : World} {bh : Nat} {F : Nat → Prop} {m : List (Itm ByteArray)} {came : Int} (h : HR w bh F m came) : F bh := by
  obtain ⟨bm, v, l, f, hc, r1, r2, r3, hF⟩ := h
  exact (hF bh).1 (.inl rfl)

/-- F' is F, but for blocks made since. -/
def Within (w : World) (F F' : Nat → Prop) : Prop := ∀ k, F' k → F k ∨ w.heap.size ≤ k

theorem within_own {w : World} {bh bm : Nat} {v v' : Value} {F : Nat → Prop} (hF : ∀ k, own3 bh bm v k ↔ F k) (hv : ∀ k, v'.ownBlock = some k → v.ownBlock = some k ∨ w.heap.size ≤ k) : Within w F (own3 bh bm v') := by
  intro k hk
  rcases hk with rfl | rfl | hk
  · exact .inl ((hF _).1 (.inl rfl))
  · exact .inl ((hF _).1 (.inr (.inl rfl)))
  · rcases hv k hk with h | h
    · exact .inl ((hF _).1 (.inr (.inr h)))
    · exact .inr h

theorem own_upd {w w' : World} {bh bm : Nat} {v : Value} {F : Nat → Prop} (hF : ∀ k, own3 bh bm v k ↔ F k) (h : Upd (own3 bh bm v) w w') : Upd F w w' := h.mono (fun k hk => .inl ((hF k).1 hk))

theorem Within.no {w : World} {F F' : Nat → Prop} {b : Nat} (h : Within w F F') (hb : ¬ F b) (hl : b < w.heap.size) : ¬ F' b := fun h' => (h b h').elim hb (fun h => by omega)
theorem Within.refl (w : World) (F : Nat → Prop) : Within w F F := fun _ h => .inl h

/-- A heap of the call's own, since w0. -/
structure Own (w0 w : World) (bh : Nat) (F : Nat → Prop) (m : List (Itm ByteArray)) (came : Int) : Prop where
  hr : HR w bh F m came
  upd : Upd Non w0 w
  fresh : ∀ k, F k → w0.heap.size ≤ k

theorem Own.step {w0 w w' : World} {bh : Nat} {F F' : Nat → Prop} {m m' : List (Itm ByteArray)} {c c' : Int} (h : Own w0 w bh F m c) (h' : HR w' bh F' m' c') (u : Upd F w w') (q : Within w F F') : Own w0 w' bh F' m' c' :=
  ⟨h', h.upd.trans u (fun k hk => .inr (h.fresh k hk)), fun k hk => (q k hk).elim (h.fresh k) (fun e => by have := h.upd.size; omega)⟩
theorem Own.non {w0 w w' : World} {bh : Nat} {F : Nat → Prop} {m : List (Itm ByteArray)} {c : Int} (h : Own w0 w bh F m c) (u : Upd Non w w') : Own w0 w' bh F m c := ⟨h.hr.non u, h.upd.trans u (fun _ h => h.elim), h.fresh⟩
/-- Something else of the call's own is written. -/
theorem Own.other {w0 w w' : World} {bh : Nat} {F S : Nat → Prop} {m : List (Itm ByteArray)} {c : Int} (h : Own w0 w bh F m c) (u : Upd S w w') (hs : ∀ k, F k → ¬ S k) (hf : ∀ k, S k → w0.heap.size ≤ k) : Own w0 w' bh F m c :=
  ⟨h.hr.upd u hs, h.upd.trans u (fun k hk => .inr (hf k hk)), h.fresh⟩

theorem new_hr (w : World) :
    Calls Try.prog 14 #[] w fun e w' => ∃ bh F, e = .returned (.pointer (some ⟨bh, 0, none⟩)) ∧ HR w' bh F [] 0 ∧ Upd Non w w' ∧ (∀ k, F k → w.heap.size ≤ k) :=
  (new_is w).mono fun e w' ⟨bh, bm, he, hc, hu, h1, h2⟩ => ⟨bh, own3 bh bm (.slice none 0 0), he, ⟨bm, _, [], _, hc, List.Perm.refl _, List.Pairwise.nil, fun y hy => by simp at hy, fun _ => Iff.rfl⟩, hu, fun k hk => by
    rcases hk with rfl | rfl | hk
    · exact h1
    · exact h2
    · simp [Value.ownBlock] at hk⟩

theorem set_hr {w : World} {bh : Nat} {F : Nat → Prop} {m : List (Itm ByteArray)} {came : Int} (h : HR w bh F m came) (hl : m.length < 1000000) (h0 : 0 ≤ came) (h1 : came < 1000000000000) {key : ByteArray} (hk : key.size ≤ maxLen) (r1 r2 : Int) :
    Calls Try.prog 15 #[.pointer (some ⟨bh, 0, none⟩), .string key, .agg #[.int .i64 r1, .int .i64 r2]] w fun e w' => e = .returned (.tuple #[]) ∧
      ∃ F', HR w' bh F' (setM m key r1 r2 (came + 1)) (came + 1) ∧ Upd F w w' ∧ Within w F F' := by
  obtain ⟨bm, v, l, f, hc, p1, p2, p3, hF⟩ := h
  have hll : l.length = m.length := p1.length_eq
  have hsort : ∀ l' : List (Itm ByteArray), l'.Perm (⟨key, r1, r2, came + 1⟩ :: remM m key) → l'.Perm (setM m key r1 r2 (came + 1)) := fun l' hp => hp.trans (insI_perm _ _).symm
  have hS : SortedS (setM m key r1 r2 (came + 1)) := insI_sorted _ _ (sortedS_sub p2 (remM_sub _ _)) (fun y hy => by have := p3 y ((remM_sub m key).mem hy); show y.came ≠ came + 1; omega)
  have hcm : ∀ y ∈ setM m key r1 r2 (came + 1), y.came ≤ came + 1 := by
    intro y hy
    rcases List.mem_cons.1 ((insI_perm _ _).mem_iff.1 hy) with rfl | hy
    · exact Int.le_refl _
    · have := p3 y ((remM_sub m key).mem hy); omega
  cases hf : f key with
  | none =>
    refine (set_new hc (by omega) hk hf h0 h1 (r1 := r1) (r2 := r2)).mono fun e w' ⟨he, v', l', f', hc', hp, hu, hv⟩ => ⟨he, _, ⟨bm, v', l', f', hc', hsort l' ?_, hS, hcm, fun _ => Iff.rfl⟩, own_upd hF hu, within_own hF hv⟩
    have hno : ∀ y ∈ m, y.key ≠ key := by
      intro y hy e
      obtain ⟨j, hj⟩ := List.mem_iff_getElem?.1 (p1.mem_iff.2 hy)
      have := (hc.idx.2 key).2 ⟨j, y, hj, e⟩
      rw [hf] at this
      cases this
    rw [remM_none hno]
    exact hp.trans ((List.perm_append_comm (l₁ := l) (l₂ := [_])).trans (p1.cons _))
  | some u =>
    obtain ⟨i, y, hy, hky⟩ := (hc.idx.2 key).1 (by rw [hf]; rfl)
    refine (set_old hc (by omega) hk hy hky.symm h0 h1 (r1 := r1) (r2 := r2)).mono fun e w' ⟨he, v', l', f', hc', hp, hu, hv⟩ => ⟨he, _, ⟨bm, v', l', f', hc', hsort l' (hp.trans ?_), hS, hcm, fun _ => Iff.rfl⟩, own_upd hF hu, within_own hF hv⟩
    have q1 := set_perm1 (x := (⟨key, r1, r2, came + 1⟩ : Itm ByteArray)) l i hy
    have q2 := filter_one m y (hc.nt.perm p1.symm) (p1.mem_iff.1 (List.mem_iff_getElem?.2 ⟨i, hy⟩))
    rw [hky] at q2
    have q3 : (y :: l.set i ⟨key, r1, r2, came + 1⟩).Perm (y :: ⟨key, r1, r2, came + 1⟩ :: remM m key) := q1.trans (((p1.trans q2).cons _).trans (List.Perm.swap _ _ _))
    exact q3.cons_inv

theorem rem_hr {w : World} {bh : Nat} {F : Nat → Prop} {m : List (Itm ByteArray)} {came : Int} (h : HR w bh F m came) (hl : m.length ≤ 1000000) {key : ByteArray} (hk : key.size ≤ maxLen) (b : Bool) (hb : (findM m key).isSome = b) :
    Calls Try.prog 16 #[.pointer (some ⟨bh, 0, none⟩), .string key] w fun e w' => e = .returned (.bool b) ∧
      ∃ F', HR w' bh F' (remM m key) came ∧ Upd F w w' ∧ Within w F F' := by
  have hnt := h.nt
  obtain ⟨bm, v, l, f, hc, p1, p2, p3, hF⟩ := h
  have hll : l.length = m.length := p1.length_eq
  subst hb
  cases hf : f key with
  | none =>
    have hno : ∀ y ∈ m, y.key ≠ key := by
      intro y hy e
      obtain ⟨j, hj⟩ := List.mem_iff_getElem?.1 (p1.mem_iff.2 hy)
      have := (hc.idx.2 key).2 ⟨j, y, hj, e⟩
      rw [hf] at this
      cases this
    rw [findM_none hno, remM_none hno]
    exact (rem_no hc hk hf).mono fun e w' ⟨he, hw⟩ => ⟨he, F, ⟨bm, v, l, f, hw ▸ hc, p1, p2, p3, hF⟩, hw ▸ Upd.refl _ _, fun k hk => .inl hk⟩
  | some u =>
    obtain ⟨i, y, hy, hky⟩ := (hc.idx.2 key).1 (by rw [hf]; rfl)
    have hym := p1.mem_iff.1 (List.mem_iff_getElem?.2 ⟨i, hy⟩)
    rw [findM_some hnt hym hky]
    have q2 := filter_one m y hnt hym
    rw [hky] at q2
    exact (rem_yes hc (by omega) hk hy hky.symm).mono fun e w' ⟨he, v', l', f', hc', hp, hu, hv⟩ => ⟨he, _, ⟨bm, v', l', f', hc', ((hp.trans p1).trans q2).cons_inv, sortedS_sub p2 (remM_sub _ _), fun y hy => p3 y ((remM_sub m key).mem hy), fun _ => Iff.rfl⟩, own_upd hF hu, within_own hF hv⟩

theorem len_hr {w : World} {bh : Nat} {F : Nat → Prop} {m : List (Itm ByteArray)} {came : Int} (h : HR w bh F m came) :
    Calls Try.prog 20 #[.pointer (some ⟨bh, 0, none⟩)] w fun e w' => e = .returned (.int .i64 m.length) ∧ w = w' := by
  obtain ⟨bm, v, l, f, hc, p1, p2, p3, hF⟩ := h
  rw [← p1.length_eq]
  exact len_is hc

def rankV (o : Option (Itm ByteArray)) : Value := match o with
  | some y => .tuple #[.agg #[.int .i64 y.one, .int .i64 y.two], .bool true]
  | none => .tuple #[.agg #[.int .i64 0, .int .i64 0], .bool false]

theorem rank_hr {w : World} {bh : Nat} {F : Nat → Prop} {m : List (Itm ByteArray)} {came : Int} (h : HR w bh F m came) (hl : m.length ≤ 1000000) {key : ByteArray} (hk : key.size ≤ maxLen) (v : Value) (hv : rankV (findM m key) = v) :
    Calls Try.prog 18 #[.pointer (some ⟨bh, 0, none⟩), .string key] w fun e w' => e = .returned v ∧ Upd Non w w' := by
  have hnt := h.nt
  obtain ⟨bm, v', l, f, hc, p1, p2, p3, hF⟩ := h
  have hll : l.length = m.length := p1.length_eq
  subst hv
  cases hf : f key with
  | none =>
    have hno : ∀ y ∈ m, y.key ≠ key := by
      intro y hy e
      obtain ⟨j, hj⟩ := List.mem_iff_getElem?.1 (p1.mem_iff.2 hy)
      have := (hc.idx.2 key).2 ⟨j, y, hj, e⟩
      rw [hf] at this
      cases this
    rw [findM_none hno]
    exact rank_no hc hk hf
  | some u =>
    obtain ⟨i, y, hy, hky⟩ := (hc.idx.2 key).1 (by rw [hf]; rfl)
    have hym := p1.mem_iff.1 (List.mem_iff_getElem?.2 ⟨i, hy⟩)
    rw [findM_some hnt hym hky]
    exact rank_yes hc (by omega) hk hy hky.symm

theorem first_is {w : World} {bh bm : Nat} {v : Value} {l m : List (Itm ByteArray)} {f : ByteArray → Option Value} {came : Int} {y : Itm ByteArray} {r : List (Itm ByteArray)} (hc : HC w bh bm v l f came) (p1 : l.Perm m) (p2 : SortedS m) (hm : m = y :: r) : l[0]? = some y := by
  subst hm
  have hlen := p1.length_eq
  obtain ⟨z, hz⟩ : ∃ z, l[0]? = some z := ⟨l[0]'(by rw [hlen]; simp), List.getElem?_eq_getElem _⟩
  have hall := heap_first hc.heap hz
  rcases List.mem_cons.1 (p1.mem_iff.1 (List.mem_iff_getElem?.2 ⟨0, hz⟩)) with h | h
  · rw [hz, h]
  · have h1 := (List.pairwise_cons.1 p2).1 z h
    obtain ⟨j, hj⟩ := List.mem_iff_getElem?.1 (p1.mem_iff.2 (List.mem_cons_self (a := y) (l := r)))
    rw [hall j y hj] at h1
    cases h1

def leastV (m : List (Itm ByteArray)) : Value := match m with
  | y :: _ => .tuple #[.string y.key, .agg #[.int .i64 y.one, .int .i64 y.two], .bool true]
  | [] => .tuple #[.string ⟨#[]⟩, .agg #[.int .i64 0, .int .i64 0], .bool false]

theorem least_hr {w : World} {bh : Nat} {F : Nat → Prop} {m : List (Itm ByteArray)} {came : Int} (h : HR w bh F m came) (hl : m.length ≤ 1000000) (v : Value) (hv : leastV m = v) :
    Calls Try.prog 49 #[.pointer (some ⟨bh, 0, none⟩)] w fun e w' => e = .returned v ∧ Upd Non w w' := by
  obtain ⟨bm, v', l, f, hc, p1, p2, p3, hF⟩ := h
  subst hv
  cases hm : m with
  | nil =>
    rw [hm] at p1
    obtain rfl := List.perm_nil.1 p1
    exact least_no hc
  | cons y r => exact least_yes hc (by rw [p1.length_eq]; exact hl) (first_is hc p1 p2 hm)

def popV (m : List (Itm ByteArray)) : Value := match m with
  | y :: _ => .tuple #[.string y.key, .bool true]
  | [] => .tuple #[.string ⟨#[]⟩, .bool false]

theorem pop_hr {w : World} {bh : Nat} {F : Nat → Prop} {m : List (Itm ByteArray)} {came : Int} (h : HR w bh F m came) (hl : m.length ≤ 1000000) (v : Value) (hv : popV m = v) :
    Calls Try.prog 19 #[.pointer (some ⟨bh, 0, none⟩)] w fun e w' => e = .returned v ∧ ∃ F', HR w' bh F' m.tail came ∧ Upd F w w' ∧ Within w F F' := by
  obtain ⟨bm, v', l, f, hc, p1, p2, p3, hF⟩ := h
  subst hv
  cases hm : m with
  | nil =>
    rw [hm] at p1
    obtain rfl := List.perm_nil.1 p1
    exact (pop_no hc).mono fun e w' ⟨he, hu⟩ => ⟨he, F, ⟨bm, v', [], f, hc.non hu, List.Perm.refl _, List.Pairwise.nil, fun y hy => by simp at hy, hF⟩, hu.mono (fun _ h => h.elim), fun k hk => .inl hk⟩
  | cons y r =>
    refine (pop_yes hc (by rw [p1.length_eq]; exact hl) (first_is hc p1 p2 hm)).mono fun e w' ⟨he, v2, l', f', hc', hp, hu, hv⟩ => ⟨he, _, ⟨bm, v2, l', f', hc', ?_, ?_, ?_, fun _ => Iff.rfl⟩, own_upd hF hu, within_own hF hv⟩
    · rw [hm] at p1; exact (hp.trans p1).cons_inv
    · rw [hm] at p2; exact (List.pairwise_cons.1 p2).2
    · intro z hz; exact p3 z (by rw [hm]; exact List.mem_cons_of_mem _ hz)

theorem sorted_strict {m m' : List (Itm ByteArray)} (hp : m'.Perm m) (hs : Sorted m') (hS : SortedS m) : m' = m := by
  refine sortedS_unique ?_ hS hp
  have hne : m'.Pairwise (fun x y => ltI x y = true ∨ ltI y x = true) := by
    have : m.Pairwise (fun x y => ltI x y = true ∨ ltI y x = true) := hS.imp (fun h => .inl h)
    exact (hp.pairwise_iff (fun {_ _} h => h.symm)).2 this
  have := hs.and hne
  exact this.imp (fun {a b} h => h.2.elim id (fun h2 => by rw [h.1] at h2; cases h2))

theorem order_hr {w : World} {bh : Nat} {F : Nat → Prop} {m : List (Itm ByteArray)} {came : Int} (h : HR w bh F m came) (hl : m.length ≤ 1000000) :
    Calls Try.prog 17 #[.pointer (some ⟨bh, 0, none⟩)] w fun e w' => ∃ vo, e = .returned vo ∧ w'.ownsRow w.heap.size 9 1 vo m.length (keysV m) ∧ Upd Non w w' := by
  obtain ⟨bm, v', l, f, hc, p1, p2, p3, hF⟩ := h
  refine (order_is hc (by rw [p1.length_eq]; exact hl)).mono fun e w' ⟨vo, m', he, hp, hs, hr, hu⟩ => ⟨vo, he, ?_, hu⟩
  rw [← sorted_strict (hp.trans p1) hs p2]
  exact hr

end Go.Proofs.Ytalnjkeajlbbpaa
