/- The heap's contracts, told by the sorted list of its items (keys: whole numbers). -/
import Derived.Test.YtalnjkeajlbbpaaIHeapW10
namespace Go.Proofs.Ytalnjkeajlbbpaa.KI
open Go.RowKit


/-- The heap at bh holds the items m, in their order; F: its blocks. -/
def HR (w : World) (bh : Nat) (F : Nat → Prop) (m : List (Itm Int)) (came : Int) : Prop :=
  ∃ bm v l f, HC w bh bm v l f came ∧ l.Perm m ∧ SortedS m ∧ (∀ y ∈ m, y.came ≤ came) ∧ ∀ k, own3 bh bm v k ↔ F k

theorem HR.upd {w w' : World} {bh : Nat} {F S : Nat → Prop} {m : List (Itm Int)} {came : Int} (h : HR w bh F m came) (hu : Upd S w w') (hs : ∀ k, F k → ¬ S k) : HR w' bh F m came := by
  obtain ⟨bm, v, l, f, hc, r1, r2, r3, hF⟩ := h
  exact ⟨bm, v, l, f, ⟨hc.raw.upd hu (hs _ ((hF _).1 (.inl rfl))) (hs _ ((hF _).1 (.inr (.inl rfl)))) (fun k hk => hs _ ((hF _).1 (.inr (.inr hk)))), hc.heap, hc.idx, hc.nt, hc.ok⟩, r1, r2, r3, hF⟩
theorem HR.non {w w' : World} {bh : Nat} {F : Nat → Prop} {m : List (Itm Int)} {came : Int} (h : HR w bh F m came) (hu : Upd Non w w') : HR w' bh F m came := h.upd hu (fun _ _ => id)
theorem HR.lt {w : World} {bh : Nat} {F : Nat → Prop} {m : List (Itm Int)} {came : Int} (h : HR w bh F m came) : ∀ k, F k → k < w.heap.size := by
  obtain ⟨bm, v, l, f, hc, r1, r2, r3, hF⟩ := h
  intro k hk
  rcases (hF k).2 hk with rfl | rfl | hk
  · exact hc.raw.st.lt
  · exact hc.raw.mp.lt
  · exact (hc.raw.row.lt k hk).2
theorem HR.nt {w : World} {bh : Nat} {F : Nat → Prop} {m : List (Itm Int)} {came : Int} (h : HR w bh F m came) : NoTwice m := by
  obtain ⟨bm, v, l, f, hc, r1, _⟩ := h
  exact hc.nt.perm r1.symm
theorem HR.sorted {w : World} {bh : Nat} {F : Nat → Prop} {m : List (Itm Int)} {came : Int} (h : HR w bh F m came) : SortedS m := by
  obtain ⟨bm, v, l, f, hc, r1, r2, _⟩ := h
  exact r2
theorem HR.came {w : World} {bh : Nat} {F : Nat → Prop} {m : List (Itm Int)} {came : Int} (h : HR w bh F m came) : ∀ y ∈ m, y.came ≤ came := by
  obtain ⟨bm, v, l, f, hc, r1, r2, r3, _⟩ := h
  exact r3
theorem HR.ok {w : World} {bh : Nat} {F : Nat → Prop} {m : List (Itm Int)} {came : Int} (h : HR w bh F m came) : ∀ y ∈ m, okI y.key := by
  obtain ⟨bm, v, l, f, hc, r1, _⟩ := h
  exact fun y hy => hc.ok y (r1.mem_iff.2 hy)
theorem HR.in {w : World} {bh : Nat} {F : Nat → Prop} {m : List (Itm Int)} {came : Int} (h : HR w bh F m came) : F bh := by
  obtain ⟨bm, v, l, f, hc, r1, r2, r3, hF⟩ := h
  exact (hF bh).1 (.inl rfl)

/-- A heap of the call's own, since w0. -/
structure Own (w0 w : World) (bh : Nat) (F : Nat → Prop) (m : List (Itm Int)) (came : Int) : Prop where
  hr : HR w bh F m came
  upd : Upd Non w0 w
  fresh : ∀ k, F k → w0.heap.size ≤ k

theorem Own.step {w0 w w' : World} {bh : Nat} {F F' : Nat → Prop} {m m' : List (Itm Int)} {c c' : Int} (h : Own w0 w bh F m c) (h' : HR w' bh F' m' c') (u : Upd F w w') (q : Within w F F') : Own w0 w' bh F' m' c' :=
  ⟨h', h.upd.trans u (fun k hk => .inr (h.fresh k hk)), fun k hk => (q k hk).elim (h.fresh k) (fun e => by have := h.upd.size; omega)⟩
theorem Own.non {w0 w w' : World} {bh : Nat} {F : Nat → Prop} {m : List (Itm Int)} {c : Int} (h : Own w0 w bh F m c) (u : Upd Non w w') : Own w0 w' bh F m c := ⟨h.hr.non u, h.upd.trans u (fun _ h => h.elim), h.fresh⟩
/-- Something else of the call's own is written. -/
theorem Own.other {w0 w w' : World} {bh : Nat} {F S : Nat → Prop} {m : List (Itm Int)} {c : Int} (h : Own w0 w bh F m c) (u : Upd S w w') (hs : ∀ k, F k → ¬ S k) (hf : ∀ k, S k → w0.heap.size ≤ k) : Own w0 w' bh F m c :=
  ⟨h.hr.upd u hs, h.upd.trans u (fun k hk => .inr (hf k hk)), h.fresh⟩

theorem new_hr (w : World) :
    Calls Try.prog 21 #[] w fun e w' => ∃ bh F, e = .returned (.pointer (some ⟨bh, 0, none⟩)) ∧ HR w' bh F [] 0 ∧ Upd Non w w' ∧ (∀ k, F k → w.heap.size ≤ k) :=
  (new_is w).mono fun e w' ⟨bh, bm, he, hc, hu, h1, h2⟩ => ⟨bh, own3 bh bm (.slice none 0 0), he, ⟨bm, _, [], _, hc, List.Perm.refl _, List.Pairwise.nil, fun y hy => by simp at hy, fun _ => Iff.rfl⟩, hu, fun k hk => by
    rcases hk with rfl | rfl | hk
    · exact h1
    · exact h2
    · simp [Value.ownBlock] at hk⟩

theorem set_hr {w : World} {bh : Nat} {F : Nat → Prop} {m : List (Itm Int)} {came : Int} (h : HR w bh F m came) (hl : m.length < 1000000) (h0 : 0 ≤ came) (h1 : came < 1000000000000) {key : Int} (hk : okI key) (r1 r2 : Int) :
    Calls Try.prog 22 #[.pointer (some ⟨bh, 0, none⟩), .int .i64 key, .agg #[.int .i64 r1, .int .i64 r2]] w fun e w' => e = .returned (.tuple #[]) ∧
      ∃ F', HR w' bh F' (setM m key r1 r2 (came + 1)) (came + 1) ∧ Upd F w w' ∧ Within w F F' := by
  obtain ⟨bm, v, l, f, hc, p1, p2, p3, hF⟩ := h
  have hll : l.length = m.length := p1.length_eq
  have hsort : ∀ l' : List (Itm Int), l'.Perm (⟨key, r1, r2, came + 1⟩ :: remM m key) → l'.Perm (setM m key r1 r2 (came + 1)) := fun l' hp => hp.trans (insI_perm _ _).symm
  have hS : SortedS (setM m key r1 r2 (came + 1)) := insI_sorted _ _ (sortedS_sub p2 (remM_sub _ _)) (fun y hy => by have := p3 y ((remM_sub m key).mem hy); show y.came ≠ came + 1; omega)
  have hcm : ∀ y ∈ setM m key r1 r2 (came + 1), y.came ≤ came + 1 := by
    intro y hy
    rcases List.mem_cons.1 ((insI_perm _ _).mem_iff.1 hy) with rfl | hy
    · exact Int.le_refl _
    · have := p3 y ((remM_sub m key).mem hy); omega
  cases hf : f key with
  | none =>
    refine (set_new hc (by omega) hk hf h0 h1 (r1 := r1) (r2 := r2)).mono fun e w' ⟨he, v', l', f', hc', hp, hu, hv⟩ => ⟨he, _, ⟨bm, v', l', f', hc', hsort l' ?_, hS, hcm, fun _ => Iff.rfl⟩, own_upd hF hu, within_own hF hv⟩
    have hno : ∀ y ∈ m, y.key ≠ key := by
      intro y hy e
      obtain ⟨j, hj⟩ := List.mem_iff_getElem?.1 (p1.mem_iff.2 hy)
      have := (hc.idx.2 key).2 ⟨j, y, hj, e⟩
      rw [hf] at this
      cases this
    rw [remM_none hno]
    exact hp.trans ((List.perm_append_comm (l₁ := l) (l₂ := [_])).trans (p1.cons _))
  | some u =>
    obtain ⟨i, y, hy, hky⟩ := (hc.idx.2 key).1 (by rw [hf]; rfl)
    refine (set_old hc (by omega) hk hy hky.symm h0 h1 (r1 := r1) (r2 := r2)).mono fun e w' ⟨he, v', l', f', hc', hp, hu, hv⟩ => ⟨he, _, ⟨bm, v', l', f', hc', hsort l' (hp.trans ?_), hS, hcm, fun _ => Iff.rfl⟩, own_upd hF hu, within_own hF hv⟩
    have q1 := set_perm1 (x := (⟨key, r1, r2, came + 1⟩ : Itm Int)) l i hy
    have q2 := filter_one m y (hc.nt.perm p1.symm) (p1.mem_iff.1 (List.mem_iff_getElem?.2 ⟨i, hy⟩))
    rw [hky] at q2
    have q3 : (y :: l.set i ⟨key, r1, r2, came + 1⟩).Perm (y :: ⟨key, r1, r2, came + 1⟩ :: remM m key) := q1.trans (((p1.trans q2).cons _).trans (List.Perm.swap _ _ _))
    exact q3.cons_inv

theorem sorted_strict {m m' : List (Itm Int)} (hp : m'.Perm m) (hs : Sorted m') (hS : SortedS m) : m' = m := by
  refine sortedS_unique ?_ hS hp
  have hne : m'.Pairwise (fun x y => ltI x y = true ∨ ltI y x = true) := by
    have : m.Pairwise (fun x y => ltI x y = true ∨ ltI y x = true) := hS.imp (fun h => .inl h)
    exact (hp.pairwise_iff (fun {_ _} h => h.symm)).2 this
  have := hs.and hne
  exact this.imp (fun {a b} h => h.2.elim id (fun h2 => by rw [h.1] at h2; cases h2))

theorem order_hr {w : World} {bh : Nat} {F : Nat → Prop} {m : List (Itm Int)} {came : Int} (h : HR w bh F m came) (hl : m.length ≤ 1000000) :
    Calls Try.prog 23 #[.pointer (some ⟨bh, 0, none⟩)] w fun e w' => ∃ vo, e = .returned vo ∧ w'.ownsRow w.heap.size 3 1 vo m.length (keysV m) ∧ Upd Non w w' := by
  obtain ⟨bm, v', l, f, hc, p1, p2, p3, hF⟩ := h
  refine (order_is hc (by rw [p1.length_eq]; exact hl)).mono fun e w' ⟨vo, m', he, hp, hs, hr, hu⟩ => ⟨vo, he, ?_, hu⟩
  rw [← sorted_strict (hp.trans p1) hs p2]
  exact hr

end Go.Proofs.Ytalnjkeajlbbpaa.KI
