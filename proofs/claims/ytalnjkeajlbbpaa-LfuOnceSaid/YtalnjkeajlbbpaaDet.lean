/- A region that draws its order, all of whose operations answer the same in every world that meets S, and keep S: it is walked once, in the order of the text. Over any program. -/
import Derived.Test.YtalnjkeajlbbpaaBase
import Derived.Orders
namespace Go.Proofs.Ytalnjkeajlbbpaa
open Go

section
variable {P : Program} {ops : Array Oper} {Q : Exit → Act → World → Prop} {md : Region.Mode} {S : World → Prop}

/-- Operation o leaves v, in every world that meets S, and S holds behind it. -/
def YieldsV (P : Program) (ops : Array Oper) (S : World → Prop) (o : Oper) (v : Value) (a : Act) : Prop :=
  (Region.wanted o (yielded ops a.tmps) = true ∧ ∀ w, S w → ((execOp a.eval o).run P w = .ok (.value v) w ∨
    ∃ f args, (execOp a.eval o).run P w = .ok (.enter f args) w ∧ Calls P f args w (fun e w' => e = .returned v ∧ S w'))) ∨
  (Region.wanted o (yielded ops a.tmps) = false ∧ v = undef)

theorem YieldsV.of_same {o : Oper} {v : Value} {a a' : Act} (hy : YieldsV P ops S o v a) (he : execOp a'.eval o = execOp a.eval o)
    (hw : Region.wanted o (yielded ops a'.tmps) = Region.wanted o (yielded ops a.tmps)) : YieldsV P ops S o v a' := by
  unfold YieldsV at *
  rw [he, hw]
  exact hy

theorem YieldsV.wpOp {i : Nat} {o : Oper} {v : Value} {a : Act} (hi : ops[i]? = some o) (hy : YieldsV P ops S o v a)
    {K : Act → World → Prop} {w : World} (hS : S w) (h : ∀ w', S w' → K (a.put o.dst v) w') : wpOp P ops Q i K a w := by
  unfold Go.wpOp
  simp only [hi]
  rcases hy with ⟨hw, hv⟩ | ⟨hw, rfl⟩
  · rw [if_pos hw]
    refine .inl ?_
    unfold Oper.wp
    rcases hv w hS with hr | ⟨f, args, hr, hc⟩
    · rw [hr]; exact h w hS
    · rw [hr]
      refine Calls.mono hc fun e w' he => ?_
      obtain ⟨rfl, hS'⟩ := he
      exact h w' hS'
  · rw [if_neg (by rw [hw]; simp)]
    exact h w hS

/-- .. one after the other, in some order that the region lets in. -/
def DetN (P : Program) (md : Region.Mode) (ops : Array Oper) (Q : Exit → Act → World → Prop) (S : World → Prop) : Nat → Array Bool → Act → Prop
  | 0, listed, a => Region.ready md ops listed = [] ∧ ∀ w, S w → Q .normal a w
  | n + 1, listed, a => ∃ i o v, ops[i]? = some o ∧ i ∈ Region.ready md ops listed ∧ Region.free md ops listed i = true ∧ YieldsV P ops S o v a ∧ DetN P md ops Q S n (listed.setIfInBounds i true) (a.put o.dst v)

theorem free_mono {i j : Nat} {listed : Array Bool} (hne : j ≠ i) (h : Region.free md ops listed i = true) (hj : listed.getD j true = false) : Region.free md ops (listed.setIfInBounds j true) i = true := by
  unfold Region.free at h ⊢
  split at h
  · cases h
  · next oi hoi =>
    simp only [List.all_eq_true, List.mem_range] at h ⊢
    intro k hk
    have h1 := h k hk
    by_cases hjk : j = k
    · subst hjk
      have hlt : j < listed.size := by
        rcases Nat.lt_or_ge j listed.size with h' | h'
        · exact h'
        · simp [Array.getElem?_eq_none h'] at hj
      simp [hlt]
    · rw [getD_set_ne true hjk]
      exact h1

theorem det_any (hns : Region.noSelect ops = true) : ∀ (n : Nat) (listed : Array Bool) (a : Act), DetN P md ops Q S n listed a → ∀ (j : Nat), j ∈ Region.ready md ops listed →
    ∃ m oj v, n = m + 1 ∧ ops[j]? = some oj ∧ YieldsV P ops S oj v a ∧ DetN P md ops Q S m (listed.setIfInBounds j true) (a.put oj.dst v)
  | 0, listed, a, h, j, hj => by rw [h.1] at hj; cases hj
  | n + 1, listed, a, h, j, hj => by
    obtain ⟨i, oi, vi, hi, hr, hf, hy, hd⟩ := h
    by_cases hji : j = i
    · subst hji
      exact ⟨n, oi, vi, rfl, hi, hy, hd⟩
    · obtain ⟨m, oj, v, rfl, hoj, hyj, hdj⟩ := det_any hns n _ _ hd j (ready_mono hj hji)
      obtain ⟨hjun, oj', hoj', hall⟩ := mem_ready.1 hj
      have hjj : oj' = oj := by rw [hoj] at hoj'; cases hoj'; rfl
      subst hjj
      have hiun := (mem_ready.1 hr).1
      have hnot : ∀ e ∈ oj'.after, Region.binds md e = true → e.on ≠ i := fun e he hb heq => by
        have h1 := hall e he hb
        rw [heq] at h1
        rcases Nat.lt_or_ge i listed.size with h' | h'
        · simp [h'] at hiun h1; rw [hiun] at h1; cases h1
        · simp [Array.getElem?_eq_none h'] at h1
      have hap := Region.free_spec hi hf j oj' hoj hji hjun hnot
      obtain ⟨h1, h2, h3⟩ := Oper.apart_spec hap
      have si := fun cs b => Region.noSelect_spec hns i oi cs b hi
      have sj := fun cs b => Region.noSelect_spec hns j oj' cs b hoj
      refine ⟨m + 1, oj', v, rfl, hoj, hyj.of_same (execOp_put oj' sj a oi.dst vi h1).symm (wanted_put oj' a oi.dst vi h1).symm, i, oi, vi, hi, ready_mono hr (Ne.symm hji), free_mono hji hf hjun, hy.of_same (execOp_put oi si a oj'.dst v h3) (wanted_put oi a oj'.dst v h3), ?_⟩
      rw [Array.setIfInBounds_comm _ _ hji, ← Act.put_comm a vi v h2]
      exact hdj

theorem wpAny_det (hns : Region.noSelect ops = true) : ∀ (fuel n : Nat) (listed : Array Bool) (a : Act), n ≤ fuel → DetN P md ops Q S n listed a → ∀ w, S w → wpAny P md ops Q fuel listed a w
  | 0, n, listed, a, hn, h, w, hS => by
    obtain rfl : n = 0 := by omega
    exact ⟨h.1, h.2 w hS⟩
  | fuel + 1, n, listed, a, hn, h, w, hS => by
    refine ⟨fun h0 => ?_, fun j hj => ?_⟩
    · cases n with
      | zero => exact h.2 w hS
      | succ n =>
        obtain ⟨i, _, _, _, hr, _⟩ := h
        rw [h0] at hr
        cases hr
    · obtain ⟨m, oj, v, rfl, hoj, hy, hd⟩ := det_any hns n listed a h j hj
      exact hy.wpOp hoj hS (fun w' hS' => wpAny_det hns fuel m _ _ (by omega) hd w' hS')

/-- In the order of the text each operation may come up, and nobody else minds. -/
def textual (md : Region.Mode) (ops : Array Oper) : Nat → Nat → Array Bool → Bool
  | 0, _, listed => (Region.ready md ops listed).isEmpty
  | n + 1, k, listed => (Region.ready md ops listed).contains k && Region.free md ops listed k && textual md ops n (k + 1) (listed.setIfInBounds k true)

/-- The walk: one operation behind the other. -/
def DetL (P : Program) (ops : Array Oper) (Q : Exit → Act → World → Prop) (S : World → Prop) : List Oper → Act → Prop
  | [], a => ∀ w, S w → Q .normal a w
  | o :: rest, a => ∃ v, YieldsV P ops S o v a ∧ DetL P ops Q S rest (a.put o.dst v)

theorem det_of : ∀ (rest : List Oper) (k : Nat) (listed : Array Bool) (a : Act), ops.toList.drop k = rest → textual md ops rest.length k listed = true → DetL P ops Q S rest a → DetN P md ops Q S rest.length listed a
  | [], k, listed, a, _, ht, h => ⟨by simpa [textual] using ht, h⟩
  | o :: rest, k, listed, a, hk, ht, h => by
    obtain ⟨v, hy, hd⟩ := h
    rw [List.length_cons] at ht
    simp only [textual, Bool.and_eq_true] at ht
    obtain ⟨⟨h1, h2⟩, h3⟩ := ht
    have ho : ops[k]? = some o := by
      have := congrArg (fun l => l[0]?) hk
      simpa [List.getElem?_drop] using this
    have hk' : ops.toList.drop (k + 1) = rest := by
      have := congrArg List.tail hk
      rwa [List.tail_drop] at this
    exact ⟨k, o, v, ho, by simpa using h1, h2, hy, det_of rest (k + 1) _ _ hk' h3 hd⟩

theorem wp_region_det (S : World → Prop) {id : Nat} {a : Act} {w : World} (hm : P.follows .mixedOrders = true) (hns : Region.noSelect ops = true) (ht : textual .any ops ops.size 0 (Array.replicate ops.size false) = true)
    (hS : S w.drew) (h : DetL P ops Q S ops.toList a) : (Code.region id ops true).wp P Q a w := by
  refine wp_region_any hm ?_
  have hl : ops.toList.length = ops.size := by simp
  have hd := det_of (md := .any) (P := P) (Q := Q) (S := S) ops.toList 0 (Array.replicate ops.size false) a (by simp) (by rw [hl]; exact ht) h
  rw [hl] at hd
  exact wpAny_det hns ops.size ops.size _ a (Nat.le_refl _) hd w.drew hS

theorem det_nil {a : Act} (h : ∀ w, S w → Q .normal a w) : DetL P ops Q S [] a := h
theorem det_pure {o : Oper} {rest : List Oper} {a : Act} {v : Value} (hw : Region.wanted o (yielded ops a.tmps) = true) (hv : ∀ w, S w → (execOp a.eval o).run P w = .ok (.value v) w) (h : DetL P ops Q S rest (a.put o.dst v)) : DetL P ops Q S (o :: rest) a :=
  ⟨v, .inl ⟨hw, fun w hS => .inl (hv w hS)⟩, h⟩
theorem det_skip {o : Oper} {rest : List Oper} {a : Act} (hw : Region.wanted o (yielded ops a.tmps) = false) (h : DetL P ops Q S rest (a.put o.dst undef)) : DetL P ops Q S (o :: rest) a :=
  ⟨undef, .inr ⟨hw, rfl⟩, h⟩
theorem det_call {o : Oper} {rest : List Oper} {a : Act} {v : Value} {f : FuncId} {args : Array Value} (hw : Region.wanted o (yielded ops a.tmps) = true) (hr : ∀ w, (execOp a.eval o).run P w = .ok (.enter f args) w)
    (hc : ∀ w, S w → Calls P f args w (fun e w' => e = .returned v ∧ S w')) (h : DetL P ops Q S rest (a.put o.dst v)) : DetL P ops Q S (o :: rest) a :=
  ⟨v, .inl ⟨hw, fun w hS => .inr ⟨f, args, hr w, hc w hS⟩⟩, h⟩

end
end Go.Proofs.Ytalnjkeajlbbpaa
