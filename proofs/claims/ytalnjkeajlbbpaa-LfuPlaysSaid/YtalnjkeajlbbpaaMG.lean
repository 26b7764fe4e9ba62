/- Texts merged by merge.py: RefP, RefA, RefB, RefC, RefD, RefE, RefF, PlaysA. -/
import Derived.Test.YtalnjkeajlbbpaaMF
import Derived.Test.YtalnjkeajlbbpaaPLfuPlaysx3
import Derived.Deep.RegionWith

/- Plain laws: the document's lfu cache (a row by the last request) and the heap's items: what the printed functions of cachewiseref06 answer. -/
namespace Go.Proofs.Ytalnjkeajlbbpaa
open Go.RowKit
open Go.Proofs.Ytalnjkeajlbbpaa.PLfuPlays

abbrev Rsd := S116

theorem bytes_eq {a b : ByteArray} : a.toList = b.toList ↔ a = b := by
  constructor
  · intro h
    rw [ByteArray.toList_eq, ByteArray.toList_eq] at h
    have : a.data = b.data := Array.toList_inj.1 h
    cases a; cases b; simp_all
  · rintro rfl; rfl

theorem rd_at {L : List Rsd} {i : Nat} {x : Rsd} (h : L[i]? = some x) : rd_T116 L (i : Int) = x := by
  unfold rd_T116
  rw [List.getD_eq_getElem?_getD, Int.toNat_natCast, h]; rfl

theorem wrap_next {i n : Nat} (h : i < n) (hn : n ≤ 1000000) : wrap64 ((i : Int) + 1) = ((i + 1 : Nat) : Int) := by
  unfold wrap64; omega

def timesL (L : List Rsd) (key : ByteArray) : Int := match L.find? (fun x => decide (x.f0 = key)) with
  | some x => x.f1
  | none => 0

theorem times_l0 (L : List Rsd) (hL : L.length ≤ 1000000) (key : ByteArray) (most : Int) (churn : Bool) (d : Nat) : ∀ (k i : Nat), i + d = L.length → d < k →
    cachewiseref06_Times.l0 k key (i : Int) most churn L = some (timesL (L.drop i) key) := by
  induction d with
  | zero =>
    intro k i hi hk
    obtain ⟨k, rfl⟩ : ∃ q, k = q + 1 := ⟨k - 1, by omega⟩
    simp only [cachewiseref06_Times.l0]
    rw [if_neg (by omega), List.drop_eq_nil_of_le (by omega)]
    rfl
  | succ d ih =>
    intro k i hi hk
    obtain ⟨k, rfl⟩ : ∃ q, k = q + 1 := ⟨k - 1, by omega⟩
    have hlt : i < L.length := by omega
    have hx : L[i]? = some L[i] := List.getElem?_eq_getElem hlt
    have hd : L.drop i = L[i] :: L.drop (i + 1) := List.drop_eq_getElem_cons hlt
    simp only [cachewiseref06_Times.l0]
    rw [if_pos (by omega), if_pos (by omega), rd_at hx, hd]
    unfold timesL
    by_cases hk : L[i].f0 = key
    · rw [if_pos (bytes_eq.2 hk), List.find?_cons_of_pos (by simpa using hk)]
    · rw [if_neg (fun h => hk (bytes_eq.1 h)), List.find?_cons_of_neg (by simpa using hk), wrap_next hlt hL]
      exact ih k (i + 1) (by omega) (by omega)

theorem times_f (L : List Rsd) (hL : L.length ≤ 1000000) (key : ByteArray) (most : Int) (churn : Bool) (k : Nat) (hk : L.length < k) :
    cachewiseref06_Times.f k most churn L key = some (timesL L key) := by
  have := times_l0 L hL key most churn L.length k 0 (by omega) hk
  simpa [cachewiseref06_Times.f] using this

def keepL (L : List Rsd) (key : ByteArray) : List Rsd := L.filter (fun x => decide (x.f0 ≠ key))

theorem remove_l0 (L : List Rsd) (hL : L.length ≤ 1000000) (key : ByteArray) (most : Int) (churn : Bool) (d : Nat) : ∀ (k i : Nat) (out : List Rsd), i + d = L.length → d < k → out.length ≤ i →
    cachewiseref06_Remove.l0 k key out (i : Int) most churn L = some (most, churn, out ++ keepL (L.drop i) key) := by
  induction d with
  | zero =>
    intro k i out hi hk ho
    obtain ⟨k, rfl⟩ : ∃ q, k = q + 1 := ⟨k - 1, by omega⟩
    simp only [cachewiseref06_Remove.l0]
    rw [if_neg (by omega), List.drop_eq_nil_of_le (by omega)]
    simp [keepL]
  | succ d ih =>
    intro k i out hi hk ho
    obtain ⟨k, rfl⟩ : ∃ q, k = q + 1 := ⟨k - 1, by omega⟩
    have hlt : i < L.length := by omega
    have hx : L[i]? = some L[i] := List.getElem?_eq_getElem hlt
    have hd : L.drop i = L[i] :: L.drop (i + 1) := List.drop_eq_getElem_cons hlt
    simp only [cachewiseref06_Remove.l0]
    rw [if_pos (by omega), if_pos (by omega), rd_at hx, hd]
    unfold keepL
    by_cases hk : L[i].f0 = key
    · rw [if_pos (bytes_eq.2 hk), List.filter_cons_of_neg (by simpa using hk), wrap_next hlt hL]
      exact ih k (i + 1) out (by omega) (by omega) (by omega)
    · rw [if_neg (fun h => hk (bytes_eq.1 h)), List.filter_cons_of_pos (by simpa using hk), if_pos (by omega), wrap_next hlt hL]
      rw [ih k (i + 1) _ (by omega) (by omega) (by simp; omega), List.append_assoc]
      rfl

theorem remove_f (L : List Rsd) (hL : L.length ≤ 1000000) (key : ByteArray) (most : Int) (churn : Bool) (k : Nat) (hk : L.length < k) :
    cachewiseref06_Remove.f k most churn L key = some (most, churn, keepL L key) := by
  have := remove_l0 L hL key most churn L.length k 0 [] (by omega) hk (by simp)
  simpa [cachewiseref06_Remove.f] using this

/-- b is the best of the first i. -/
def BestL (L : List Rsd) (churn : Bool) (i b : Nat) : Prop :=
  b < i ∧ ∀ (j : Nat) (x y : Rsd), j < i → j ≠ b → L[b]? = some x → L[j]? = some y → x.f1 < y.f1 ∨ (x.f1 = y.f1 ∧ if churn then j < b else b < j)

theorem best_keep {L : List Rsd} {churn : Bool} {i b : Nat} (h : BestL L churn i b) {x y : Rsd} (hb : L[b]? = some x) (hy : L[i]? = some y) (h1 : ¬ y.f1 < x.f1) (h2 : ¬ (churn = true ∧ y.f1 = x.f1)) : BestL L churn (i + 1) b := by
  refine ⟨by have := h.1; omega, fun j x' y' hj hne hx' hy' => ?_⟩
  by_cases hji : j = i
  · subst hji
    rw [hb] at hx'; rw [hy] at hy'
    cases hx'; cases hy'
    have := h.1
    cases churn with
    | true => exact .inl (by simp at h2; omega)
    | false => simp; omega
  · exact h.2 j x' y' (by omega) hne hx' hy'
theorem best_new {L : List Rsd} {churn : Bool} {i b : Nat} (h : BestL L churn i b) {x y : Rsd} (hb : L[b]? = some x) (hy : L[i]? = some y) (h1 : y.f1 < x.f1 ∨ (churn = true ∧ y.f1 = x.f1)) : BestL L churn (i + 1) i := by
  refine ⟨by omega, fun j x' y' hj hne hx' hy' => ?_⟩
  rw [hy] at hx'; cases hx'
  by_cases hjb : j = b
  · subst hjb
    rw [hb] at hy'; cases hy'
    rcases h1 with h1 | ⟨rfl, h1⟩
    · exact .inl h1
    · exact .inr ⟨h1, by simp; omega⟩
  · have h3 := h.2 j x y' (by omega) hjb hb hy'
    rcases h3 with h3 | ⟨h3, h4⟩
    · left; rcases h1 with h1 | ⟨_, h1⟩ <;> omega
    · rcases h1 with h1 | ⟨rfl, h1⟩
      · left; omega
      · right; exact ⟨by omega, by simp; omega⟩

theorem victim_l0 (L : List Rsd) (hL : L.length ≤ 1000000) (most : Int) (churn : Bool) (d : Nat) : ∀ (k i b : Nat), i + d = L.length → d < k → BestL L churn i b →
    ∃ b' x, BestL L churn L.length b' ∧ L[b']? = some x ∧ cachewiseref06_Victim.l0 k (b : Int) (i : Int) most churn L = some (x.f0, true) := by
  induction d with
  | zero =>
    intro k i b hi hk hB
    obtain ⟨k, rfl⟩ : ∃ q, k = q + 1 := ⟨k - 1, by omega⟩
    obtain rfl : i = L.length := by omega
    have hb := hB.1
    have hx : L[b]? = some L[b] := List.getElem?_eq_getElem hb
    refine ⟨b, L[b], hB, hx, ?_⟩
    simp only [cachewiseref06_Victim.l0]
    rw [if_neg (by omega), if_neg (by omega), if_pos (by omega), if_pos (by omega), rd_at hx]
  | succ d ih =>
    intro k i b hi hk hB
    obtain ⟨k, rfl⟩ : ∃ q, k = q + 1 := ⟨k - 1, by omega⟩
    have hb := hB.1
    have hlt : i < L.length := by omega
    have hx : L[b]? = some L[b] := List.getElem?_eq_getElem (by omega)
    have hy : L[i]? = some L[i] := List.getElem?_eq_getElem hlt
    simp only [cachewiseref06_Victim.l0]
    rw [if_pos (by omega), if_neg (by omega), if_pos (by omega), if_pos (by omega), if_pos (by omega), rd_at hx, rd_at hy, wrap_next hlt hL]
    by_cases h1 : L[i].f1 < L[b].f1
    · rw [if_pos h1]
      exact ih k (i + 1) i (by omega) (by omega) (best_new hB hx hy (.inl h1))
    · rw [if_neg h1]
      cases churn with
      | true =>
        rw [if_pos rfl]
        by_cases h2 : L[i].f1 = L[b].f1
        · rw [if_pos h2]
          exact ih k (i + 1) i (by omega) (by omega) (best_new hB hx hy (.inr ⟨rfl, h2⟩))
        · rw [if_neg h2]
          exact ih k (i + 1) b (by omega) (by omega) (best_keep hB hx hy h1 (fun h => h2 h.2))
      | false =>
        rw [if_neg (by simp)]
        exact ih k (i + 1) b (by omega) (by omega) (best_keep hB hx hy h1 (by simp))

theorem victim_f (L : List Rsd) (hL : L.length ≤ 1000000) (most : Int) (churn : Bool) (k : Nat) (hk : L.length < k) :
    (L = [] ∧ cachewiseref06_Victim.f k most churn L = some (⟨#[]⟩, false)) ∨ ∃ b' x, BestL L churn L.length b' ∧ L[b']? = some x ∧ cachewiseref06_Victim.f k most churn L = some (x.f0, true) := by
  obtain ⟨k, rfl⟩ : ∃ q, k = q + 1 := ⟨k - 1, by omega⟩
  unfold cachewiseref06_Victim.f
  simp only [cachewiseref06_Victim.l0]
  rcases Nat.eq_zero_or_pos L.length with h0 | h0
  · left
    refine ⟨List.length_eq_zero_iff.1 h0, ?_⟩
    rw [if_neg (by omega), if_pos (by omega)]
  · right
    rw [if_pos (by omega), if_pos (by omega), show wrap64 (0 + 1) = ((1 : Nat) : Int) by unfold wrap64; omega]
    refine victim_l0 L hL most churn (L.length - 1) k 1 0 (by omega) (by omega) ⟨by omega, fun j x y hj hne => by omega⟩

theorem ask_f (L : List Rsd) (hL : L.length ≤ 1000000) (key : ByteArray) (most : Int) (churn : Bool) (k : Nat) (hk : L.length < k) (h0 : 0 ≤ timesL L key) (h1 : timesL L key ≤ 1000000) :
    cachewiseref06_ask.f k most churn L key = some (most, churn, keepL L key ++ [⟨key, timesL L key + 1⟩]) := by
  unfold cachewiseref06_ask.f
  rw [times_f L hL key most churn k hk]
  simp only [Option.bind_some]
  rw [remove_f L hL key most churn k hk]
  simp only [Option.bind_some]
  have : (keepL L key).length ≤ L.length := List.length_filter_le _ _
  rw [if_pos (by omega), show wrap64 (timesL L key + 1) = timesL L key + 1 by unfold wrap64; omega]

/-! The row against the heap's items. -/

/-- p: the items by when they came. -/
structure ByCame (m p : List (Itm ByteArray)) : Prop where
  perm : p.Perm m
  rise : p.Pairwise (fun x y => x.came < y.came)

def resL (p : List (Itm ByteArray)) : List Rsd := p.map (fun y => ⟨y.key, y.one⟩)

variable {m p : List (Itm ByteArray)} {most now : Int} {churn : Bool}

theorem resL_len (p : List (Itm ByteArray)) : (resL p).length = p.length := by simp [resL]

theorem times_res (hN : NoTwice m) (hp : p.Perm m) (key : ByteArray) : timesL (resL p) key = timesM m key := by
  unfold timesL resL timesM
  rw [List.find?_map]
  cases hf : p.find? ((fun x : Rsd => decide (x.f0 = key)) ∘ fun y : Itm ByteArray => (⟨y.key, y.one⟩ : Rsd)) with
  | none =>
    have : ∀ y ∈ m, y.key ≠ key := fun y hy => by
      have := List.find?_eq_none.1 hf y (hp.mem_iff.2 hy)
      simpa using this
    rw [findM_none this]; rfl
  | some y =>
    have h1 := hp.mem_iff.1 (List.mem_of_find?_eq_some hf)
    have h2 : y.key = key := by simpa using List.find?_some hf
    rw [findM_some hN h1 h2]; rfl

theorem keep_res (p : List (Itm ByteArray)) (key : ByteArray) : keepL (resL p) key = resL (remM p key) := by
  unfold keepL resL remM
  rw [List.filter_map]; rfl

theorem remM_perm (h : p.Perm m) (key : ByteArray) : (remM p key).Perm (remM m key) := h.filter _
theorem ByCame.rem (h : ByCame m p) (key : ByteArray) : ByCame (remM m key) (remM p key) := ⟨remM_perm h.perm key, h.rise.sublist (remM_sub p key)⟩
theorem ByCame.tail {y : Itm ByteArray} {r : List (Itm ByteArray)} (h : ByCame (y :: r) p) (hN : NoTwice (y :: r)) : ByCame r (remM p y.key) := by
  have : remM (y :: r) y.key = r := by
    obtain ⟨h1, h2⟩ := List.pairwise_cons.1 hN
    unfold remM
    rw [List.filter_cons_of_neg (by simp), List.filter_eq_self]
    intro u hu
    simpa using (h1 u hu).symm
  have h2 := h.rem y.key
  rw [this] at h2
  exact h2

/-- Behind a request: the key last. -/
theorem ByCame.ask (h : ByCame m p) (hc : ∀ y ∈ m, y.came ≤ now) (key : ByteArray) : ByCame (askM m now churn key) (remM p key ++ [⟨key, timesM m key + 1, if churn then -(now + 1) else now + 1, now + 1⟩]) := by
  refine ⟨?_, ?_⟩
  · unfold askM setM
    refine List.Perm.trans ?_ (insI_perm _ _).symm
    exact (List.perm_append_comm (l₁ := remM p key) (l₂ := [_])).trans ((remM_perm h.perm key).cons _)
  · rw [List.pairwise_append]
    refine ⟨h.rise.sublist (remM_sub p key), List.pairwise_singleton _ _, fun x hx y hy => ?_⟩
    simp at hy
    subst hy
    have := hc x (h.perm.mem_iff.1 ((remM_sub p key).mem hx))
    show x.came < now + 1
    omega

theorem resL_ask (p : List (Itm ByteArray)) (key : ByteArray) (t two c : Int) : resL (remM p key ++ [⟨key, t, two, c⟩]) = keepL (resL p) key ++ [⟨key, t⟩] := by
  rw [keep_res]; simp [resL]

/-- Who goes: the heap's first one. -/
theorem best_head (h : ByCame m p) (hS : SortedS m) (ht : ∀ y ∈ m, y.two = if churn then -y.came else y.came) {b : Nat} {x : Rsd} (hB : BestL (resL p) churn (resL p).length b) (hx : (resL p)[b]? = some x) :
    ∃ y r, m = y :: r ∧ x.f0 = y.key := by
  have hlen := h.perm.length_eq
  have hb : b < p.length := by have := hB.1; simpa [resL] using this
  cases m with
  | nil => simp at hlen; subst hlen; simp at hb
  | cons y r =>
    refine ⟨y, r, rfl, ?_⟩
    have hz : p[b]? = some p[b] := List.getElem?_eq_getElem hb
    have hzx : x = ⟨p[b].key, p[b].one⟩ := by
      unfold resL at hx
      rw [List.getElem?_map, hz] at hx
      simpa using hx.symm
    have hmem : p[b] ∈ y :: r := h.perm.mem_iff.1 (List.getElem_mem hb)
    rcases List.mem_cons.1 hmem with he | he
    · rw [hzx, he]
    · exfalso
      obtain ⟨j, hj⟩ := List.mem_iff_getElem?.1 (h.perm.mem_iff.2 (List.mem_cons_self (a := y) (l := r)))
      have hjl : j < p.length := (List.getElem?_eq_some_iff.1 hj).1
      have hlt := (List.pairwise_cons.1 hS).1 _ he
      rw [ltI_iff] at hlt
      have hne : j ≠ b := by
        rintro rfl
        rw [hz] at hj
        have : p[j] = y := by simpa using hj
        rw [this] at hlt
        omega
      have h2 := hB.2 j x ⟨y.key, y.one⟩ (by rw [resL_len]; exact hjl) hne hx (by unfold resL; rw [List.getElem?_map, hj]; rfl)
      rw [hzx] at h2
      have t1 := ht y (by simp)
      have t2 := ht p[b] (by simp [he])
      have hrise := List.pairwise_iff_getElem.1 h.rise
      have hpj : p[j] = y := by have := (List.getElem?_eq_some_iff.1 hj).2; simpa using this
      simp only at h2
      cases churn with
      | true =>
        simp only [if_true] at h2 t1 t2
        rcases h2 with h2 | ⟨h2, h3⟩
        · omega
        · have := hrise j b hjl hb h3
          rw [hpj] at this
          omega
      | false =>
        simp only [Bool.false_eq_true, if_false] at h2 t1 t2
        rcases h2 with h2 | ⟨h2, h3⟩
        · omega
        · have := hrise b j hb hjl h3
          rw [hpj] at this
          omega

end Go.Proofs.Ytalnjkeajlbbpaa

/- The document's lfu cache in memory (cachewiseref06): a row that is read; the printed contracts of Times, Remove, Victim, ask in the words of the heap's items. -/
namespace Go.Proofs.Ytalnjkeajlbbpaa
open Go.RowKit
open Go.Proofs.Ytalnjkeajlbbpaa.PLfuPlays
open Go.Proofs.YtalnjkeajlbbpaaW.PrintWords

def resC (p : List (Itm ByteArray)) : List (List Value) := p.map (fun y => [.string y.key, .int .i64 y.one])

theorem below_upd {w w' : World} (h : Below w.heap.size w w') : Upd Non w w' := ⟨h.os, h.tape, h.output, h.size, fun k hk _ => h.block k hk⟩

theorem resC_at {p : List (Itm ByteArray)} {j : Nat} {x : Rsd} (h : (resL p)[j]? = some x) : (resC p)[j]? = some [.string x.f0, .int .i64 x.f1] := by
  unfold resL at h
  unfold resC
  rw [List.getElem?_map] at h ⊢
  cases hp : p[j]? with
  | none => rw [hp] at h; cases h
  | some y => rw [hp] at h; simp at h; subst h; rfl

theorem ref_C {w : World} {F : Nat → Prop} {av : Option Addr} {p : List (Itm ByteArray)} (h : Arr w F av 2 (resC p)) (hp : p.length ≤ 1000000) : Kd.C k116 w av (resL p).length (resL p) := by
  refine ⟨rfl, by rw [resL_len]; omega, fun h0 => ?_⟩
  rw [resL_len] at h0
  obtain ⟨g, off, rfl, _, _, hc⟩ := h (by intro e; simp [resC] at e; subst e; simp at h0)
  refine ⟨⟨g, off, none⟩, rfl, fun j x hx => ⟨[.string x.f0, .int .i64 x.f1], rfl, k116_mk w x, fun i u hu => ?_⟩⟩
  rw [Addr.add_lit, ← Nat.add_assoc]
  exact hc j _ (resC_at hx) i u hu

theorem ref_R {w : World} {base : Nat} {ok : Nat → Prop} {v : Value} {L : List Rsd} (h : Kd.R k116 116 w base ok v L) :
    ∃ av cap, v = .slice av L.length cap ∧ L.length ≤ cap ∧ ∀ F : Nat → Prop, (∀ k, F k → k < base) → Arr w F av 2 (L.map (fun x => [.string x.f0, .int .i64 x.f1])) := by
  obtain ⟨_, inner, ⟨hl, hv⟩, hr⟩ := h
  rcases hv with ⟨rfl, h0⟩ | ⟨g, cap, cur, rfl, hb, hg, hn, hm, hs, ht⟩
  · refine ⟨none, 0, by rw [h0], by omega, fun F hF hne => ?_⟩
    rw [List.length_eq_zero_iff] at h0
    subst h0
    exact absurd rfl hne
  · refine ⟨_, cap, rfl, hn, fun F hF hne => ⟨g, 0, rfl, Blk.lt (vs := cur) hg, fun h => by have := hF g h; omega, fun j c hj i u hu => ?_⟩⟩
    rw [List.getElem?_map] at hj
    cases hx : L[j]? with
    | none => rw [hx] at hj; cases hj
    | some x =>
      rw [hx] at hj
      simp only [Option.map_some, Option.some.injEq] at hj
      subst hj
      have hM := k116_openM (hr.2 j x hx)
      have hM2 : (inner.drop (j * 2)).take 2 = [.string x.f0, .int .i64 x.f1] := hM
      refine Blk.cell (vs := cur) hg _ ?_
      have e1 : inner[j * 2 + i]? = some u := by
        rw [← hM2, List.getElem?_take] at hu
        split at hu
        · rwa [List.getElem?_drop] at hu
        · cases hu
      rw [← ht, List.getElem?_take] at e1
      split at e1
      · rw [Nat.zero_add]; simpa using e1
      · cases e1

theorem resC_of (p : List (Itm ByteArray)) : (resL p).map (fun x : Rsd => [Value.string x.f0, .int .i64 x.f1]) = resC p := by simp [resL, resC]

/-- The row p at av, of so much room: no block of F. -/
structure RowP (w : World) (F : Nat → Prop) (av : Option Addr) (cap : Nat) (p : List (Itm ByteArray)) : Prop where
  arr : Arr w F av 2 (resC p)
  cap : p.length ≤ cap

variable {w w' : World} {F : Nat → Prop} {av : Option Addr} {cap : Nat} {m p : List (Itm ByteArray)} {most : Int} {churn : Bool}

theorem RowP.non (h : RowP w F av cap p) (u : Upd Non w w') : RowP w' F av cap p := ⟨h.arr.non u, h.cap⟩
theorem RowP.step {F' : Nat → Prop} (h : RowP w F av cap p) (u : Upd F w w') (q : Within w F F') : RowP w' F' av cap p := ⟨h.arr.step u q, h.cap⟩

theorem times_ref (h : RowP w F av cap p) (hl : p.length ≤ 1000000) (hN : NoTwice m) (hp : p.Perm m) (key : ByteArray) (t : Int) (ht : timesM m key = t) :
    Calls Try.prog 38 #[.agg #[.int .i64 most, .bool churn, .slice av p.length cap], .string key] w fun e w' => e = .returned (.int .i64 t) ∧ Upd Non w w' := by
  have := cachewiseref06_Times.calls (p.length + 1) most churn av cap (resL p) key t w (ref_C h.arr hl) (by rw [resL_len]; exact h.cap) (by rw [times_f _ (by rw [resL_len]; exact hl) _ _ _ _ (by rw [resL_len]; omega), times_res hN hp, ht])
  rw [resL_len] at this
  exact this.mono fun e w' h => ⟨h.1, below_upd h.2⟩

theorem remove_ref (h : RowP w F av cap p) (hl : p.length ≤ 1000000) (key : ByteArray) :
    Calls Try.prog 39 #[.agg #[.int .i64 most, .bool churn, .slice av p.length cap], .string key] w fun e w' => ∃ av' cap', e = .returned (.agg #[.int .i64 most, .bool churn, .slice av' (remM p key).length cap']) ∧
      (∀ F' : Nat → Prop, (∀ k, F' k → k < w.heap.size) → RowP w' F' av' cap' (remM p key)) ∧ Upd Non w w' := by
  have := cachewiseref06_Remove.calls (p.length + 1) most churn av cap (resL p) key most churn (resL (remM p key)) w (ref_C h.arr hl) (by rw [resL_len]; exact h.cap) (by rw [remove_f _ (by rw [resL_len]; exact hl) _ _ _ _ (by rw [resL_len]; omega), keep_res])
  rw [resL_len] at this
  refine this.mono fun e w' ⟨v2, he, hR, hB⟩ => ?_
  obtain ⟨av', cap', rfl, hc, hA⟩ := ref_R hR
  rw [resL_len] at he hc
  exact ⟨av', cap', he, fun F' hF => ⟨by rw [← resC_of]; exact hA F' hF, hc⟩, below_upd hB⟩

theorem ask_ref (h : RowP w F av cap p) (hl : p.length ≤ 1000000) (hN : NoTwice m) (hp : p.Perm m) (key : ByteArray) (h0 : 0 ≤ timesM m key) (h1 : timesM m key ≤ 1000000) (two c : Int) (q : List (Itm ByteArray)) (hq : remM p key ++ [⟨key, timesM m key + 1, two, c⟩] = q) :
    Calls Try.prog 63 #[.agg #[.int .i64 most, .bool churn, .slice av p.length cap], .string key] w fun e w' => ∃ av' cap', e = .returned (.agg #[.int .i64 most, .bool churn, .slice av' q.length cap']) ∧
      (∀ F' : Nat → Prop, (∀ k, F' k → k < w.heap.size) → RowP w' F' av' cap' q) ∧ Upd Non w w' := by
  subst hq
  have := cachewiseref06_ask.calls (p.length + 1) most churn av cap (resL p) key most churn (resL (remM p key ++ [⟨key, timesM m key + 1, two, c⟩])) w (ref_C h.arr hl) (by rw [resL_len]; exact h.cap)
    (by rw [ask_f _ (by rw [resL_len]; exact hl) _ _ _ _ (by rw [resL_len]; omega) (by rw [times_res hN hp]; exact h0) (by rw [times_res hN hp]; exact h1), times_res hN hp, resL_ask])
  rw [resL_len] at this
  refine this.mono fun e w' ⟨v2, he, hR, hB⟩ => ?_
  obtain ⟨av', cap', rfl, hc, hA⟩ := ref_R hR
  rw [resL_len] at he hc
  exact ⟨av', cap', he, fun F' hF => ⟨by rw [← resC_of]; exact hA F' hF, hc⟩, below_upd hB⟩

theorem victim_ref (h : RowP w F av cap p) (hl : p.length ≤ 1000000) (hB : ByCame m p) (hS : SortedS m) (ht : ∀ y ∈ m, y.two = if churn then -y.came else y.came) (s : ByteArray) (b : Bool) (hv : popV m = .tuple #[.string s, .bool b]) :
    Calls Try.prog 46 #[.agg #[.int .i64 most, .bool churn, .slice av p.length cap]] w fun e w' => e = .returned (.tuple #[.string s, .bool b]) ∧ Upd Non w w' := by
  have hf : cachewiseref06_Victim.f (p.length + 1) most churn (resL p) = some (s, b) := by
    rcases victim_f (resL p) (by rw [resL_len]; exact hl) most churn (p.length + 1) (by rw [resL_len]; omega) with ⟨h0, hf⟩ | ⟨b', x, hBest, hx, hf⟩
    · have hp0 : p = [] := by have := congrArg List.length h0; rw [resL_len] at this; exact List.length_eq_zero_iff.1 this
      subst hp0
      obtain rfl := List.nil_perm.1 hB.perm
      simp [popV] at hv
      rw [hf, ← hv.1, ← hv.2]
    · obtain ⟨y, r, rfl, hk⟩ := best_head hB hS ht hBest hx
      simp [popV] at hv
      rw [hf, hk, ← hv.1, ← hv.2]
  have := cachewiseref06_Victim.calls (p.length + 1) most churn av cap (resL p) s b w (ref_C h.arr hl) (by rw [resL_len]; exact h.cap) hf
  rw [resL_len] at this
  exact this.mono fun e w' h => ⟨h.1, below_upd h.2⟩

end Go.Proofs.Ytalnjkeajlbbpaa

/- Walks: cachewiseref06.Drop, Request, Adopt: over a row that is read and stays. -/
namespace Go.Proofs.Ytalnjkeajlbbpaa
open Go.RowKit
set_option linter.unusedSimpArgs false
set_option linter.unusedVariables false

variable {w w' : World} {F : Nat → Prop} {av : Option Addr} {cap : Nat} {m p : List (Itm ByteArray)} {most now : Int} {churn : Bool}

/-- A cache in three cells. -/
abbrev cV (most : Int) (churn : Bool) (av : Option Addr) (n cap : Nat) : Array Value := #[.int .i64 most, .bool churn, .slice av n cap]
abbrev cZ : Array Value := #[.int .i64 0, .bool false, .slice none 0 0]

set_option maxRecDepth 100000 in
set_option maxHeartbeats 1600000 in
theorem drop_none (h : RowP w Non av cap []) :
    Calls Try.prog 42 #[.agg #[.int .i64 most, .bool churn, .slice av 0 cap]] w fun e w' => e = .returned (.tuple #[.agg #[.int .i64 most, .bool churn, .slice av 0 cap], .string ⟨#[]⟩, .bool false]) ∧ Upd Non w w' := by
  have hV := fun W (u : Upd Non w W) => victim_ref (m := []) (most := most) (churn := churn) (h.non u) (by simp) ⟨List.Perm.refl _, List.Pairwise.nil⟩ List.Pairwise.nil (by simp) ⟨#[]⟩ false rfl
  simp only [List.length_nil] at hV
  go_enter Try.func42, Try.ntmps42
  go_wp2_with fail
  refine (hV _ (((Upd.refl Non w).alloc _).alloc _)).mono ?_
  rintro e w1 ⟨rfl, u1⟩
  have B1 : Blk w1 w.heap.size (cV most churn av 0 cap) 68 := ((Blk.new w (cV most churn av 0 cap) 68).alloc _).upd u1 id
  have B2 : Blk w1 (w.heap.size + 1) cZ 68 := (Blk.new' (w.heap.size + 1) cZ 68 (by simp)).upd u1 id
  obtain ⟨c0, c1, c2, f0, f1, f2⟩ := blk3 B1
  obtain ⟨d0, d1, d2, g0, g1, g2⟩ := blk3 B2
  have R6 : Blk (((w1.setCell ⟨w.heap.size + 1, 0, none⟩ (.int .i64 most)).setCell ⟨w.heap.size + 1, 1, none⟩ (.bool churn)).setCell ⟨w.heap.size + 1, 2, none⟩ (.slice av 0 cap)) (w.heap.size + 1) (cV most churn av 0 cap) 68 := ((B2.set 0 _).set 1 _).set 2 _
  obtain ⟨r0, r1, r2, -, -, -⟩ := blk3 R6
  have u6 : Upd (fun k => k = w.heap.size + 1) w1 (((w1.setCell ⟨w.heap.size + 1, 0, none⟩ (.int .i64 most)).setCell ⟨w.heap.size + 1, 1, none⟩ (.bool churn)).setCell ⟨w.heap.size + 1, 2, none⟩ (.slice av 0 cap)) := ((((Upd.refl _ w1).set1 0 _)).set1 1 _).set1 2 _
  go_wp2_with fail
  refine bodyPost_ret (v := .tuple #[.agg #[.int .i64 most, .bool churn, .slice av 0 cap], .string ⟨#[]⟩, .bool false]) (by simp [results, Try.results42, go_sem, r0, r1, r2]) rfl ⟨rfl, ?_⟩
  exact ((((Upd.refl Non w).alloc _).alloc _).trans u1 (fun _ h => h.elim)).trans u6 (fun k hk => .inr (by omega))

set_option maxRecDepth 100000 in
set_option maxHeartbeats 1600000 in
theorem drop_some {y : Itm ByteArray} {r : List (Itm ByteArray)} (h : RowP w Non av cap p) (hl : p.length ≤ 1000000) (hB : ByCame (y :: r) p) (hS : SortedS (y :: r)) (ht : ∀ z ∈ y :: r, z.two = if churn then -z.came else z.came) :
    Calls Try.prog 42 #[.agg #[.int .i64 most, .bool churn, .slice av p.length cap]] w fun e w' => ∃ av' cap', e = .returned (.tuple #[.agg #[.int .i64 most, .bool churn, .slice av' (remM p y.key).length cap'], .string y.key, .bool true]) ∧
      (∀ F' : Nat → Prop, (∀ k, F' k → k < w.heap.size) → RowP w' F' av' cap' (remM p y.key)) ∧ Upd Non w w' := by
  have hV := fun W (u : Upd Non w W) => victim_ref (most := most) (h.non u) hl hB hS ht y.key true rfl
  have hR := fun W (u : Upd Non w W) => remove_ref (most := most) (churn := churn) (h.non u) hl y.key
  generalize p.length = n at hV hR ⊢
  generalize remM p y.key = q at hR ⊢
  generalize y.key = key at hV hR ⊢
  clear ht hS hB h hl
  go_enter Try.func42, Try.ntmps42
  go_wp2_with fail
  refine (hV _ (((Upd.refl Non w).alloc _).alloc _)).mono ?_
  rintro e w1 ⟨rfl, u1⟩
  have B1 : Blk w1 w.heap.size (cV most churn av n cap) 68 := ((Blk.new w (cV most churn av n cap) 68).alloc _).upd u1 id
  have B2 : Blk w1 (w.heap.size + 1) cZ 68 := (Blk.new' (w.heap.size + 1) cZ 68 (by simp)).upd u1 id
  have U1 : Upd Non w w1 := (((Upd.refl Non w).alloc _).alloc _).trans u1 (fun _ h => h.elim)
  obtain ⟨c0, c1, c2, f0, f1, f2⟩ := blk3 B1
  clear u1 hV
  go_wp2_with fail
  refine (hR _ U1).mono ?_
  rintro e w2 ⟨av', cap', rfl, hrow, u2⟩
  have B3 := B2.upd u2 id
  obtain ⟨d0, d1, d2, g0, g1, g2⟩ := blk3 B3
  have R6 : Blk (((w2.setCell ⟨w.heap.size + 1, 0, none⟩ (.int .i64 most)).setCell ⟨w.heap.size + 1, 1, none⟩ (.bool churn)).setCell ⟨w.heap.size + 1, 2, none⟩ (.slice av' q.length cap')) (w.heap.size + 1) (cV most churn av' q.length cap') 68 := ((B3.set 0 _).set 1 _).set 2 _
  obtain ⟨r0, r1, r2, -, -, -⟩ := blk3 R6
  have u6 : Upd (fun k => k = w.heap.size + 1) w2 (((w2.setCell ⟨w.heap.size + 1, 0, none⟩ (.int .i64 most)).setCell ⟨w.heap.size + 1, 1, none⟩ (.bool churn)).setCell ⟨w.heap.size + 1, 2, none⟩ (.slice av' q.length cap')) := ((((Upd.refl _ w2).set1 0 _)).set1 1 _).set1 2 _
  have hb1 := B2.lt
  clear hR
  go_wp2_with fail
  refine bodyPost_ret (v := .tuple #[.agg #[.int .i64 most, .bool churn, .slice av' q.length cap'], .string key, .bool true]) (by simp [results, Try.results42, go_sem, r0, r1, r2]) rfl ⟨av', cap', rfl, fun F' hF => ?_, ?_⟩
  · exact ((hrow (fun k => F' k ∨ k = w.heap.size + 1) (fun k hk => hk.elim (fun hk => Nat.lt_of_lt_of_le (hF k hk) U1.size) (fun e => by omega))).step (u6.mono (fun k hk => .inl (.inr hk))) (fun k hk => .inl (.inl hk)))
  · exact (U1.trans u2 (fun _ h => h.elim)).trans u6 (fun k hk => .inr (by omega))

end Go.Proofs.Ytalnjkeajlbbpaa

/- Walks: cachewiseref06.Request: over a row that is read and stays. -/
namespace Go.Proofs.Ytalnjkeajlbbpaa
open Go.RowKit
set_option linter.unusedSimpArgs false
set_option linter.unusedVariables false

variable {w w' : World} {F : Nat → Prop} {av : Option Addr} {cap : Nat} {m p : List (Itm ByteArray)} {most now : Int} {churn : Bool}

abbrev sZ : Array Value := #[.bool false, .string ⟨#[]⟩, .bool false]

/-- The four variables of Request. -/
structure RV (w0 w : World) (vs us : Array Value) : Prop where
  b2 : Blk w w0.heap.size vs 68
  b4 : Blk w (w0.heap.size + 1) cZ 68
  b5 : Blk w (w0.heap.size + 1 + 1) sZ 57
  b6 : Blk w (w0.heap.size + 1 + 1 + 1) us 57
  upd : Upd Non w0 w

theorem RV.non {w0 : World} {vs us : Array Value} (h : RV w0 w vs us) (u : Upd Non w w') : RV w0 w' vs us := ⟨h.b2.upd u id, h.b4.upd u id, h.b5.upd u id, h.b6.upd u id, h.upd.trans u (fun _ h => h.elim)⟩
theorem RV.set6 {w0 : World} {vs us : Array Value} (h : RV w0 w vs us) (i : Nat) (v : Value) : RV w0 (w.setCell ⟨w0.heap.size + 1 + 1 + 1, i, none⟩ v) vs (us.setIfInBounds i v) := by
  have u : Upd (fun k => k = w0.heap.size + 1 + 1 + 1) w (w.setCell ⟨w0.heap.size + 1 + 1 + 1, i, none⟩ v) := (Upd.refl _ w).set1 i v
  exact ⟨h.b2.upd u (by omega), h.b4.upd u (by omega), h.b5.upd u (by omega), h.b6.set i v, h.upd.trans u (fun k hk => .inr (by omega))⟩
theorem RV.set2 {w0 : World} {vs us : Array Value} (h : RV w0 w vs us) (i : Nat) (v : Value) : RV w0 (w.setCell ⟨w0.heap.size, i, none⟩ v) (vs.setIfInBounds i v) us := by
  have u : Upd (fun k => k = w0.heap.size) w (w.setCell ⟨w0.heap.size, i, none⟩ v) := (Upd.refl _ w).set1 i v
  exact ⟨h.b2.set i v, h.b4.upd u (by omega), h.b5.upd u (by omega), h.b6.upd u (by omega), h.upd.trans u (fun k hk => .inr (by omega))⟩

theorem rv_new (w : World) (vs : Array Value) : RV w ((((w.alloc (.cells vs 68)).alloc (.cells cZ 68)).alloc (.cells sZ 57)).alloc (.cells sZ 57)) vs sZ :=
  ⟨(((Blk.new w _ _).alloc _).alloc _).alloc _, ((Blk.new' _ _ _ (by simp)).alloc _).alloc _, (Blk.new' _ _ _ (by simp)).alloc _, Blk.new' _ _ _ (by simp), (((((Upd.refl Non w).alloc _).alloc _).alloc _).alloc _)⟩

/-- The results, stored. -/
theorem rv_out {w0 : World} {vs us : Array Value} (h : RV w0 w vs us) (v0 v1 v2 s0 s1 s2 : Value) :
    Blk ((((((w.setCell ⟨w0.heap.size + 1, 0, none⟩ v0).setCell ⟨w0.heap.size + 1, 1, none⟩ v1).setCell ⟨w0.heap.size + 1, 2, none⟩ v2).setCell ⟨w0.heap.size + 1 + 1, 0, none⟩ s0).setCell ⟨w0.heap.size + 1 + 1, 1, none⟩ s1).setCell ⟨w0.heap.size + 1 + 1, 2, none⟩ s2) (w0.heap.size + 1) #[v0, v1, v2] 68 ∧
    Blk ((((((w.setCell ⟨w0.heap.size + 1, 0, none⟩ v0).setCell ⟨w0.heap.size + 1, 1, none⟩ v1).setCell ⟨w0.heap.size + 1, 2, none⟩ v2).setCell ⟨w0.heap.size + 1 + 1, 0, none⟩ s0).setCell ⟨w0.heap.size + 1 + 1, 1, none⟩ s1).setCell ⟨w0.heap.size + 1 + 1, 2, none⟩ s2) (w0.heap.size + 1 + 1) #[s0, s1, s2] 57 ∧
    Upd (fun k => k = w0.heap.size + 1 ∨ k = w0.heap.size + 1 + 1) w ((((((w.setCell ⟨w0.heap.size + 1, 0, none⟩ v0).setCell ⟨w0.heap.size + 1, 1, none⟩ v1).setCell ⟨w0.heap.size + 1, 2, none⟩ v2).setCell ⟨w0.heap.size + 1 + 1, 0, none⟩ s0).setCell ⟨w0.heap.size + 1 + 1, 1, none⟩ s1).setCell ⟨w0.heap.size + 1 + 1, 2, none⟩ s2) := by
  have u4 : Upd (fun k => k = w0.heap.size + 1) w (((w.setCell ⟨w0.heap.size + 1, 0, none⟩ v0).setCell ⟨w0.heap.size + 1, 1, none⟩ v1).setCell ⟨w0.heap.size + 1, 2, none⟩ v2) := ((((Upd.refl _ w).set1 0 _)).set1 1 _).set1 2 _
  have B4 : Blk (((w.setCell ⟨w0.heap.size + 1, 0, none⟩ v0).setCell ⟨w0.heap.size + 1, 1, none⟩ v1).setCell ⟨w0.heap.size + 1, 2, none⟩ v2) (w0.heap.size + 1) #[v0, v1, v2] 68 := ((h.b4.set 0 _).set 1 _).set 2 _
  have B5 := h.b5.upd u4 (by omega)
  generalize ((w.setCell ⟨w0.heap.size + 1, 0, none⟩ v0).setCell ⟨w0.heap.size + 1, 1, none⟩ v1).setCell ⟨w0.heap.size + 1, 2, none⟩ v2 = wa at u4 B4 B5 ⊢
  have u5 : Upd (fun k => k = w0.heap.size + 1 + 1) wa (((wa.setCell ⟨w0.heap.size + 1 + 1, 0, none⟩ s0).setCell ⟨w0.heap.size + 1 + 1, 1, none⟩ s1).setCell ⟨w0.heap.size + 1 + 1, 2, none⟩ s2) := ((((Upd.refl _ wa).set1 0 _)).set1 1 _).set1 2 _
  exact ⟨B4.upd u5 (by omega), ((B5.set 0 _).set 1 _).set 2 _, (u4.mono (fun k hk => .inl (.inl hk))).trans u5 (fun k hk => .inl (.inr hk))⟩

set_option maxRecDepth 100000 in
set_option maxHeartbeats 3200000 in
theorem request_ref0 (h : RowP w Non av cap p) (hl : p.length ≤ 1000000) (hN : NoTwice m) (hp : p.Perm m) {key : ByteArray} (hit : Bool) (hh : decide (0 < timesM m key) = hit) :
    Calls Try.prog 37 #[.agg #[.int .i64 0, .bool churn, .slice av p.length cap], .string key] w fun e w' => e = .returned (.tuple #[.agg #[.int .i64 0, .bool churn, .slice av p.length cap], .agg #[.bool hit, .string ⟨#[]⟩, .bool false]]) ∧ Upd Non w w' := by
  have hT := fun W (u : Upd Non w W) => times_ref (most := 0) (churn := churn) (h.non u) hl hN hp key _ rfl
  generalize timesM m key = t at hh hT
  generalize p.length = n at hT ⊢
  clear h hl hN hp
  go_enter Try.func37, Try.ntmps37
  go_wp2_with fail
  have rv0 := rv_new w (cV 0 churn av n cap)
  refine (hT _ rv0.upd).mono ?_
  rintro e w1 ⟨rfl, u1⟩
  have rv := rv0.non u1
  clear rv0 u1 hT
  obtain ⟨c0, c1, c2, -, -, -⟩ := blk3 rv.b2
  obtain ⟨e0, e1, e2, f0, f1, f2⟩ := blk3 rv.b6
  obtain ⟨d0, d1, d2, g0, g1, g2⟩ := blk3 rv.b4
  obtain ⟨i0, i1, i2, k0, k1, k2⟩ := blk3 rv.b5
  have rv1 := rv.set6 0 (.bool hit)
  go_upto_region 4 with (fail)
  generalize hW : World.setCell _ _ _ = wS
  have rvS : RV w wS (cV 0 churn av n cap) #[.bool hit, .string ⟨#[]⟩, .bool false] := by rw [← hW]; exact rv1
  clear hW rv1 rv c0 c1 c2 e0 e1 e2 f0 f1 f2 d0 d1 d2 g0 g1 g2 i0 i1 i2 k0 k1 k2
  have rvD := rvS
  obtain ⟨c0, c1, c2, -, -, -⟩ := blk3 rvD.b2
  obtain ⟨e0, e1, e2, -, -, -⟩ := blk3 rvD.b6
  obtain ⟨d0, d1, d2, g0, g1, g2⟩ := blk3 rvD.b4
  obtain ⟨i0, i1, i2, k0, k1, k2⟩ := blk3 rvD.b5
  have HRV := hid rvD
  clear rvS rvD
  first | (go_region_with (fail)) | fail
  all_goals
    go_wp2_with fail
    obtain ⟨R4, R5, uR⟩ := rv_out HRV.out (.int .i64 0) (.bool churn) (.slice av n cap) (.bool hit) (.string ⟨#[]⟩) (.bool false)
    obtain ⟨r0, r1, r2, -, -, -⟩ := blk3 R4
    obtain ⟨s0, s1, s2, -, -, -⟩ := blk3 R5
    have uF : Upd Non w _ := (HRV.out.upd.trans uR (fun k hk => .inr (by omega))).drew
    clear R4 R5 uR
    refine bodyPost_ret (v := .tuple #[.agg #[.int .i64 0, .bool churn, .slice av n cap], .agg #[.bool hit, .string ⟨#[]⟩, .bool false]]) (by simp [results, Try.results37, go_sem, r0, r1, r2, s0, s1, s2]) rfl ⟨rfl, uF⟩

set_option maxRecDepth 100000 in
set_option maxHeartbeats 3200000 in
theorem request_refin (h : RowP w Non av cap p) (hl : p.length ≤ 1000000) (hN : NoTwice m) (hp : p.Perm m) (hm : most ≠ 0) {key : ByteArray} (hit : Bool) (hh : decide (0 < timesM m key) = hit) (hr : hit = true ∨ (p.length : Int) < most)
    (h0 : 0 ≤ timesM m key) (h1 : timesM m key ≤ 1000000) (two c : Int) (q : List (Itm ByteArray)) (hq : remM p key ++ [⟨key, timesM m key + 1, two, c⟩] = q) :
    Calls Try.prog 37 #[.agg #[.int .i64 most, .bool churn, .slice av p.length cap], .string key] w fun e w' => ∃ av' cap', e = .returned (.tuple #[.agg #[.int .i64 most, .bool churn, .slice av' q.length cap'], .agg #[.bool hit, .string ⟨#[]⟩, .bool false]]) ∧
      (∀ F' : Nat → Prop, (∀ k, F' k → k < w.heap.size) → RowP w' F' av' cap' q) ∧ Upd Non w w' := by
  have hT := fun W (u : Upd Non w W) => times_ref (most := most) (churn := churn) (h.non u) hl hN hp key _ rfl
  have hA := fun W (u : Upd Non w W) => ask_ref (most := most) (churn := churn) (h.non u) hl hN hp key h0 h1 two c q hq
  clear hq h0 h1
  generalize timesM m key = t at hh hT
  generalize p.length = n at hT hA hr ⊢
  clear h hl hN hp
  have hm0 : (most == 0) = false := by simpa using hm
  have hm1 : decide (most = 0) = false := by simpa using hm
  clear hm
  have hb : (!hit && decide (most ≤ (n : Int))) = false := by
    rcases hr with rfl | hr
    · rfl
    · rw [decide_eq_false (by omega)]; simp
  clear hr
  go_enter Try.func37, Try.ntmps37
  go_wp2_with fail
  have rv0 := rv_new w (cV most churn av n cap)
  refine (hT _ rv0.upd).mono ?_
  rintro e w1 ⟨rfl, u1⟩
  have rv := rv0.non u1
  clear rv0 u1 hT
  obtain ⟨c0, c1, c2, -, -, -⟩ := blk3 rv.b2
  obtain ⟨e0, e1, e2, f0, f1, f2⟩ := blk3 rv.b6
  have rv1 := rv.set6 0 (.bool hit)
  go_upto_region 5 with (fail)
  generalize hW : World.setCell _ _ _ = wS
  have rvS : RV w wS (cV most churn av n cap) #[.bool hit, .string ⟨#[]⟩, .bool false] := by rw [← hW]; exact rv1
  clear hW rv1 rv c0 c1 c2 e0 e1 e2 f0 f1 f2
  obtain ⟨c0, c1, c2, -, -, -⟩ := blk3 rvS.b2
  obtain ⟨e0, e1, e2, -, -, -⟩ := blk3 rvS.b6
  obtain ⟨d0, d1, d2, g0, g1, g2⟩ := blk3 rvS.b4
  obtain ⟨i0, i1, i2, k0, k1, k2⟩ := blk3 rvS.b5
  have HRV := hid rvS
  clear rvS
  cases hit with
  | true =>
    clear hb
    go_upto_region 7 with (fail)
    first | (go_region_with ((first | (go_at_call 63; refine (hA _ (by first | exact HRV.out.upd | exact HRV.out.upd.drew)).mono ?_; rintro e w2 ⟨av', cap', rfl, hrow, u2⟩; have rv2 := RV.non HRV.out (by first | exact u2 | exact u2.drew0); obtain ⟨e0', e1', e2', -, -, -⟩ := blk3 rv2.b6; obtain ⟨d0', d1', d2', g0', g1', g2'⟩ := blk3 rv2.b4; obtain ⟨i0', i1', i2', k0', k1', k2'⟩ := blk3 rv2.b5; have HRV2 := hid rv2; clear rv2)))) | fail
    all_goals
      go_wp2_with fail
      obtain ⟨R4, R5, uR⟩ := rv_out HRV2.out (.int .i64 most) (.bool churn) (.slice av' q.length cap') (.bool true) (.string ⟨#[]⟩) (.bool false)
      obtain ⟨r0, r1, r2, -, -, -⟩ := blk3 R4
      obtain ⟨s0, s1, s2, -, -, -⟩ := blk3 R5
      have uF : Upd Non w _ := HRV2.out.upd.trans uR (fun k hk => .inr (by omega))
      have b4 := HRV.out.b4.lt
      have b5 := HRV.out.b5.lt
      have us := HRV.out.upd.size
      refine bodyPost_ret (v := .tuple #[.agg #[.int .i64 most, .bool churn, .slice av' q.length cap'], .agg #[.bool true, .string ⟨#[]⟩, .bool false]]) (by simp [results, Try.results37, go_sem, r0, r1, r2, s0, s1, s2]) rfl ⟨av', cap', rfl, fun F' hF => ?_, uF⟩
      exact (hrow (fun k => F' k ∨ k = w.heap.size + 1 ∨ k = w.heap.size + 1 + 1) (fun k hk => by rcases hk with hk | hk | hk; (have := hF k hk; (try simp only [World.drew]); omega); (subst hk; exact b4); (subst hk; exact b5))).step (uR.mono (fun k hk => .inl (.inr hk))) (fun k hk => .inl (.inl hk))
  | false =>
    have hd : decide (most ≤ (n : Int)) = false := by simpa using hb
    clear hb
    go_upto_region 7 with (fail)
    first | (go_region_with ((first | (go_at_call 63; refine (hA _ (by first | exact HRV.out.upd | exact HRV.out.upd.drew)).mono ?_; rintro e w2 ⟨av', cap', rfl, hrow, u2⟩; have rv2 := RV.non HRV.out (by first | exact u2 | exact u2.drew0); obtain ⟨e0', e1', e2', -, -, -⟩ := blk3 rv2.b6; obtain ⟨d0', d1', d2', g0', g1', g2'⟩ := blk3 rv2.b4; obtain ⟨i0', i1', i2', k0', k1', k2'⟩ := blk3 rv2.b5; have HRV2 := hid rv2; clear rv2)))) | fail
    all_goals
      go_wp2_with fail
      obtain ⟨R4, R5, uR⟩ := rv_out HRV2.out (.int .i64 most) (.bool churn) (.slice av' q.length cap') (.bool false) (.string ⟨#[]⟩) (.bool false)
      obtain ⟨r0, r1, r2, -, -, -⟩ := blk3 R4
      obtain ⟨s0, s1, s2, -, -, -⟩ := blk3 R5
      have uF : Upd Non w _ := HRV2.out.upd.trans uR (fun k hk => .inr (by omega))
      have b4 := HRV.out.b4.lt
      have b5 := HRV.out.b5.lt
      have us := HRV.out.upd.size
      refine bodyPost_ret (v := .tuple #[.agg #[.int .i64 most, .bool churn, .slice av' q.length cap'], .agg #[.bool false, .string ⟨#[]⟩, .bool false]]) (by simp [results, Try.results37, go_sem, r0, r1, r2, s0, s1, s2]) rfl ⟨av', cap', rfl, fun F' hF => ?_, uF⟩
      exact (hrow (fun k => F' k ∨ k = w.heap.size + 1 ∨ k = w.heap.size + 1 + 1) (fun k hk => by rcases hk with hk | hk | hk; (have := hF k hk; (try simp only [World.drew]); omega); (subst hk; exact b4); (subst hk; exact b5))).step (uR.mono (fun k hk => .inl (.inr hk))) (fun k hk => .inl (.inl hk))

end Go.Proofs.Ytalnjkeajlbbpaa

/- Walks: cachewiseref06.Request that lets one go; Adopt. -/
namespace Go.Proofs.Ytalnjkeajlbbpaa
open Go.RowKit
set_option linter.unusedSimpArgs false
set_option linter.unusedVariables false

variable {w w' : World} {F : Nat → Prop} {av : Option Addr} {cap : Nat} {m p : List (Itm ByteArray)} {most now : Int} {churn : Bool}

set_option maxRecDepth 100000 in
set_option maxHeartbeats 3200000 in
theorem request_refout {y : Itm ByteArray} {r : List (Itm ByteArray)} (h : RowP w Non av cap p) (hl : p.length ≤ 1000000) (hN : NoTwice (y :: r)) (hB : ByCame (y :: r) p) (hS : SortedS (y :: r)) (ht : ∀ z ∈ y :: r, z.two = if churn then -z.came else z.came) (hm : most ≠ 0) {key : ByteArray} (hh : timesM (y :: r) key = 0) (hr : most ≤ (p.length : Int))
    (h0 : 0 ≤ timesM r key) (h1 : timesM r key ≤ 1000000) (two c : Int) (q : List (Itm ByteArray)) (hq : remM (remM p y.key) key ++ [⟨key, timesM r key + 1, two, c⟩] = q) :
    Calls Try.prog 37 #[.agg #[.int .i64 most, .bool churn, .slice av p.length cap], .string key] w fun e w' => ∃ av' cap', e = .returned (.tuple #[.agg #[.int .i64 most, .bool churn, .slice av' q.length cap'], .agg #[.bool false, .string y.key, .bool true]]) ∧
      (∀ F' : Nat → Prop, (∀ k, F' k → k < w.heap.size) → RowP w' F' av' cap' q) ∧ Upd Non w w' := by
  have hT := fun W (u : Upd Non w W) => times_ref (most := most) (churn := churn) (h.non u) hl hN hB.perm key 0 hh
  have hD := fun W (u : Upd Non w W) => drop_some (most := most) (h.non u) hl hB hS ht
  have hB' := hB.tail hN
  have hl' : (remM p y.key).length ≤ 1000000 := Nat.le_trans (remM_len p y.key) hl
  have hN' : NoTwice r := (List.pairwise_cons.1 hN).2
  have hA := fun W av1 cap1 (t : RowP W Non av1 cap1 (remM p y.key)) => ask_ref (most := most) (churn := churn) t hl' hN' hB'.perm key h0 h1 two c q hq
  clear hq h0 h1 ht hB hS hN hh hN' hl'
  generalize remM p y.key = p1 at hD hA hB'
  clear hB'
  generalize p.length = n at hT hD hr ⊢
  generalize y.key = vic at hD ⊢
  clear h hl
  have hm0 : (most == 0) = false := by simpa using hm
  have hm1 : decide (most = 0) = false := by simpa using hm
  clear hm
  have hd : decide (most ≤ (n : Int)) = true := by simpa using hr
  clear hr
  go_enter Try.func37, Try.ntmps37
  go_wp2_with fail
  have rv0 := rv_new w (cV most churn av n cap)
  refine (hT _ rv0.upd).mono ?_
  rintro e w1 ⟨rfl, u1⟩
  have rv := rv0.non u1
  clear rv0 u1 hT
  obtain ⟨c0, c1, c2, -, -, -⟩ := blk3 rv.b2
  obtain ⟨e0, e1, e2, f0, f1, f2⟩ := blk3 rv.b6
  have rv1 := rv.set6 0 (.bool false)
  go_upto_region 5 with (fail)
  generalize hW : World.setCell _ _ _ = wS
  have rvS : RV w wS (cV most churn av n cap) #[.bool false, .string ⟨#[]⟩, .bool false] := by rw [← hW]; exact rv1
  clear hW rv1 rv c0 c1 c2 e0 e1 e2 f0 f1 f2
  obtain ⟨c0, c1, c2, -, -, -⟩ := blk3 rvS.b2
  obtain ⟨e0, e1, e2, -, -, -⟩ := blk3 rvS.b6
  have US := rvS.upd
  have HRS := hid rvS
  clear rvS
  go_wp2_with fail
  refine (hD _ US).mono ?_
  rintro e w3 ⟨av1, cap1, rfl, hrow1, u3⟩
  have rv3 := HRS.out.non u3
  clear c0 c1 c2 e0 e1 e2
  obtain ⟨c0, c1, c2, f0, f1, f2⟩ := blk3 rv3.b2
  obtain ⟨e0, e1, e2, g0, g1, g2⟩ := blk3 rv3.b6
  have rv4 := ((((rv3.set2 0 (.int .i64 most)).set2 1 (.bool churn)).set2 2 (.slice av1 p1.length cap1)).set6 1 (.string vic)).set6 2 (.bool true)
  have H4 := hid rv4
  have H3 := hid rv3
  have us3 := US.size
  clear rv3 rv4 hD
  go_upto_region 7 with (fail)
  generalize hW : World.setCell _ _ _ = wT
  have rvT : RV w wT (cV most churn av1 p1.length cap1) #[.bool false, .string vic, .bool true] := by rw [← hW]; exact H4.out
  have row4 : RowP wT Non av1 cap1 p1 := by
    rw [← hW]
    have b2 := HRS.out.b2.lt
    have b6 := HRS.out.b6.lt
    have r3 := hrow1 (fun k => k = w.heap.size ∨ k = w.heap.size + 1 + 1 + 1) (fun k hk => by rcases hk with hk | hk; (subst hk; exact b2); (subst hk; exact b6))
    have u5 : Upd (fun k => k = w.heap.size ∨ k = w.heap.size + 1 + 1 + 1) w3 (((((w3.setCell ⟨w.heap.size, 0, none⟩ (.int .i64 most)).setCell ⟨w.heap.size, 1, none⟩ (.bool churn)).setCell ⟨w.heap.size, 2, none⟩ (.slice av1 p1.length cap1)).setCell ⟨w.heap.size + 1 + 1 + 1, 1, none⟩ (.string vic)).setCell ⟨w.heap.size + 1 + 1 + 1, 2, none⟩ (.bool true)) :=
      (((((Upd.refl _ w3).setCell (.inl (.inl rfl)) _).setCell (.inl (.inl rfl)) _).setCell (.inl (.inl rfl)) _).setCell (.inl (.inr rfl)) _).setCell (.inl (.inr rfl)) _
    exact r3.step u5 (fun k hk => hk.elim)
  clear hW H4 H3 hrow1 c0 c1 c2 f0 f1 f2 e0 e1 e2 g0 g1 g2 US u3 HRS us3
  have hA := fun W (u : Upd Non wT W) => hA W av1 cap1 (row4.non u)
  obtain ⟨c0, c1, c2, -, -, -⟩ := blk3 rvT.b2
  obtain ⟨e0, e1, e2, -, -, -⟩ := blk3 rvT.b6
  obtain ⟨d0, d1, d2, g0, g1, g2⟩ := blk3 rvT.b4
  obtain ⟨i0, i1, i2, k0, k1, k2⟩ := blk3 rvT.b5
  have HRV := hid rvT
  have UD := Upd.refl Non wT
  clear rvT row4
  first | (go_region_with ((first | (go_at_call 63; refine (hA _ (by first | exact UD | exact UD.drew)).mono ?_; rintro e w2 ⟨av', cap', rfl, hrow, u2⟩; have rv2 := RV.non HRV.out (by first | exact u2 | exact u2.drew0); obtain ⟨e0', e1', e2', -, -, -⟩ := blk3 rv2.b6; obtain ⟨d0', d1', d2', g0', g1', g2'⟩ := blk3 rv2.b4; obtain ⟨i0', i1', i2', k0', k1', k2'⟩ := blk3 rv2.b5; have HRV2 := hid rv2; clear rv2)))) | fail
  all_goals
    go_wp2_with fail
    obtain ⟨R4, R5, uR⟩ := rv_out HRV2.out (.int .i64 most) (.bool churn) (.slice av' q.length cap') (.bool false) (.string vic) (.bool true)
    obtain ⟨r0, r1, r2, -, -, -⟩ := blk3 R4
    obtain ⟨s0, s1, s2, -, -, -⟩ := blk3 R5
    have uF : Upd Non w _ := HRV2.out.upd.trans uR (fun k hk => .inr (by omega))
    have b4 := HRV.out.b4.lt
    have b5 := HRV.out.b5.lt
    have us := HRV.out.upd.size
    refine bodyPost_ret (v := .tuple #[.agg #[.int .i64 most, .bool churn, .slice av' q.length cap'], .agg #[.bool false, .string vic, .bool true]]) (by simp [results, Try.results37, go_sem, r0, r1, r2, s0, s1, s2]) rfl ⟨av', cap', rfl, fun F' hF => ?_, uF⟩
    exact (hrow (fun k => F' k ∨ k = w.heap.size + 1 ∨ k = w.heap.size + 1 + 1) (fun k hk => by rcases hk with hk | hk | hk; (have := hF k hk; (try simp only [World.drew]); omega); (subst hk; exact b4); (subst hk; exact b5))).step (uR.mono (fun k hk => .inl (.inr hk))) (fun k hk => .inl (.inl hk))

end Go.Proofs.Ytalnjkeajlbbpaa

/- Walks: cachewiseref06.Adopt, New; cachewiselaw05.Few. -/
namespace Go.Proofs.Ytalnjkeajlbbpaa
open Go.RowKit
set_option linter.unusedSimpArgs false
set_option linter.unusedVariables false

variable {w w' : World} {F : Nat → Prop} {av : Option Addr} {cap : Nat} {m p : List (Itm ByteArray)} {most now : Int} {churn : Bool}

set_option maxRecDepth 100000 in
set_option maxHeartbeats 3200000 in
theorem adopt_no (h : RowP w Non av cap p) (hl : p.length ≤ 1000000) (hN : NoTwice m) (hp : p.Perm m) {key : ByteArray} (hb : (decide (0 < timesM m key) || decide (most ≤ (p.length : Int))) = true) :
    Calls Try.prog 40 #[.agg #[.int .i64 most, .bool churn, .slice av p.length cap], .string key] w fun e w' => e = .returned (.tuple #[.agg #[.int .i64 most, .bool churn, .slice av p.length cap], .bool false]) ∧ Upd Non w w' := by
  have hT := fun W (u : Upd Non w W) => times_ref (most := most) (churn := churn) (h.non u) hl hN hp key _ rfl
  generalize timesM m key = t at hb hT
  generalize p.length = n at hT hb ⊢
  clear h hl hN hp
  generalize hg : decide (0 < t) = hit at hb
  generalize hg2 : decide (most ≤ (n : Int)) = full at hb
  go_enter Try.func40, Try.ntmps40
  go_wp2_with fail
  have B1 := ((Blk.new w (cV most churn av n cap) 68).alloc (.cells cZ 68))
  have B2 : Blk ((w.alloc (.cells (cV most churn av n cap) 68)).alloc (.cells cZ 68)) (w.heap.size + 1) cZ 68 := Blk.new' _ _ _ (by simp)
  refine (hT _ (((Upd.refl Non w).alloc _).alloc _)).mono ?_
  rintro e w1 ⟨rfl, u1⟩
  replace B1 := B1.upd u1 id
  replace B2 := B2.upd u1 id
  have U1 : Upd Non w w1 := (((Upd.refl Non w).alloc _).alloc _).trans u1 (fun _ h => h.elim)
  obtain ⟨c0, c1, c2, -, -, -⟩ := blk3 B1
  obtain ⟨d0, d1, d2, g0, g1, g2⟩ := blk3 B2
  have HB2 := hid B2
  clear u1 hT B1 B2
  cases hit with
  | true =>
    clear hb
    go_wp2_with fail
    have R6 : Blk (((w1.setCell ⟨w.heap.size + 1, 0, none⟩ (.int .i64 most)).setCell ⟨w.heap.size + 1, 1, none⟩ (.bool churn)).setCell ⟨w.heap.size + 1, 2, none⟩ (.slice av n cap)) (w.heap.size + 1) (cV most churn av n cap) 68 := ((HB2.out.set 0 _).set 1 _).set 2 _
    obtain ⟨r0, r1, r2, -, -, -⟩ := blk3 R6
    have u6 : Upd (fun k => k = w.heap.size + 1) w1 (((w1.setCell ⟨w.heap.size + 1, 0, none⟩ (.int .i64 most)).setCell ⟨w.heap.size + 1, 1, none⟩ (.bool churn)).setCell ⟨w.heap.size + 1, 2, none⟩ (.slice av n cap)) := ((((Upd.refl _ w1).set1 0 _)).set1 1 _).set1 2 _
    refine bodyPost_ret (v := .tuple #[.agg #[.int .i64 most, .bool churn, .slice av n cap], .bool false]) (by simp [results, Try.results40, go_sem, r0, r1, r2]) rfl ⟨rfl, ?_⟩
    exact U1.trans u6 (fun k hk => .inr (by omega))
  | false =>
    obtain rfl : full = true := by simpa using hb
    clear hb
    go_wp2_with fail
    have R6 : Blk (((w1.setCell ⟨w.heap.size + 1, 0, none⟩ (.int .i64 most)).setCell ⟨w.heap.size + 1, 1, none⟩ (.bool churn)).setCell ⟨w.heap.size + 1, 2, none⟩ (.slice av n cap)) (w.heap.size + 1) (cV most churn av n cap) 68 := ((HB2.out.set 0 _).set 1 _).set 2 _
    obtain ⟨r0, r1, r2, -, -, -⟩ := blk3 R6
    have u6 : Upd (fun k => k = w.heap.size + 1) w1 (((w1.setCell ⟨w.heap.size + 1, 0, none⟩ (.int .i64 most)).setCell ⟨w.heap.size + 1, 1, none⟩ (.bool churn)).setCell ⟨w.heap.size + 1, 2, none⟩ (.slice av n cap)) := ((((Upd.refl _ w1).set1 0 _)).set1 1 _).set1 2 _
    refine bodyPost_ret (v := .tuple #[.agg #[.int .i64 most, .bool churn, .slice av n cap], .bool false]) (by simp [results, Try.results40, go_sem, r0, r1, r2]) rfl ⟨rfl, ?_⟩
    exact U1.trans u6 (fun k hk => .inr (by omega))

set_option maxRecDepth 100000 in
set_option maxHeartbeats 3200000 in
theorem adopt_yes (h : RowP w Non av cap p) (hl : p.length ≤ 1000000) (hN : NoTwice m) (hp : p.Perm m) {key : ByteArray} (hh : timesM m key = 0) (hr : (p.length : Int) < most) (two c : Int) (q : List (Itm ByteArray)) (hq : remM p key ++ [⟨key, timesM m key + 1, two, c⟩] = q) :
    Calls Try.prog 40 #[.agg #[.int .i64 most, .bool churn, .slice av p.length cap], .string key] w fun e w' => ∃ av' cap', e = .returned (.tuple #[.agg #[.int .i64 most, .bool churn, .slice av' q.length cap'], .bool true]) ∧
      (∀ F' : Nat → Prop, (∀ k, F' k → k < w.heap.size) → RowP w' F' av' cap' q) ∧ Upd Non w w' := by
  have hT := fun W (u : Upd Non w W) => times_ref (most := most) (churn := churn) (h.non u) hl hN hp key 0 hh
  have hA := fun W (u : Upd Non w W) => ask_ref (most := most) (churn := churn) (h.non u) hl hN hp key (by omega) (by omega) two c q hq
  clear hq hh
  generalize p.length = n at hT hA hr ⊢
  clear h hl hN hp
  have hd : decide (most ≤ (n : Int)) = false := by simp; omega
  clear hr
  go_enter Try.func40, Try.ntmps40
  go_wp2_with fail
  have B1 := ((Blk.new w (cV most churn av n cap) 68).alloc (.cells cZ 68))
  have B2 : Blk ((w.alloc (.cells (cV most churn av n cap) 68)).alloc (.cells cZ 68)) (w.heap.size + 1) cZ 68 := Blk.new' _ _ _ (by simp)
  refine (hT _ (((Upd.refl Non w).alloc _).alloc _)).mono ?_
  rintro e w1 ⟨rfl, u1⟩
  replace B1 := B1.upd u1 id
  replace B2 := B2.upd u1 id
  have U1 : Upd Non w w1 := (((Upd.refl Non w).alloc _).alloc _).trans u1 (fun _ h => h.elim)
  obtain ⟨c0, c1, c2, -, -, -⟩ := blk3 B1
  have HB2 := hid B2
  clear u1 hT B1 B2
  go_wp2_with fail
  refine (hA _ U1).mono ?_
  rintro e w2 ⟨av', cap', rfl, hrow, u2⟩
  have B3 := HB2.out.upd u2 id
  obtain ⟨d0, d1, d2, g0, g1, g2⟩ := blk3 B3
  have HB3 := hid B3
  clear hA c0 c1 c2 B3
  go_wp2_with fail
  have R6 : Blk (((w2.setCell ⟨w.heap.size + 1, 0, none⟩ (.int .i64 most)).setCell ⟨w.heap.size + 1, 1, none⟩ (.bool churn)).setCell ⟨w.heap.size + 1, 2, none⟩ (.slice av' q.length cap')) (w.heap.size + 1) (cV most churn av' q.length cap') 68 := ((HB3.out.set 0 _).set 1 _).set 2 _
  obtain ⟨r0, r1, r2, -, -, -⟩ := blk3 R6
  have u6 : Upd (fun k => k = w.heap.size + 1) w2 (((w2.setCell ⟨w.heap.size + 1, 0, none⟩ (.int .i64 most)).setCell ⟨w.heap.size + 1, 1, none⟩ (.bool churn)).setCell ⟨w.heap.size + 1, 2, none⟩ (.slice av' q.length cap')) := ((((Upd.refl _ w2).set1 0 _)).set1 1 _).set1 2 _
  have hb1 := HB2.out.lt
  refine bodyPost_ret (v := .tuple #[.agg #[.int .i64 most, .bool churn, .slice av' q.length cap'], .bool true]) (by simp [results, Try.results40, go_sem, r0, r1, r2]) rfl ⟨av', cap', rfl, fun F' hF => ?_, ?_⟩
  · exact ((hrow (fun k => F' k ∨ k = w.heap.size + 1) (fun k hk => hk.elim (fun hk => Nat.lt_of_lt_of_le (hF k hk) U1.size) (fun e => by omega))).step (u6.mono (fun k hk => .inl (.inr hk))) (fun k hk => .inl (.inl hk)))
  · exact (U1.trans u2 (fun _ h => h.elim)).trans u6 (fun k hk => .inr (by omega))

set_option maxRecDepth 100000 in
set_option maxHeartbeats 1600000 in
theorem new_ref (w : World) (most k : Int) (churn : Bool) (hk : max most 0 = k) :
    Calls Try.prog 36 #[.int .i64 most, .bool churn] w fun e w' => e = .returned (.agg #[.int .i64 k, .bool churn, .slice none 0 0]) ∧ Upd Non w w' := by
  by_cases h : most < 0
  · obtain rfl : 0 = k := by omega
    have hd : decide (most < 0) = true := by simpa using h
    clear hk
    go_enter Try.func36, Try.ntmps36
    go_wp2_with fail
    have R6 : Blk (w.alloc (.cells #[.int .i64 0, .bool churn, .slice none 0 0] 68)) w.heap.size #[.int .i64 0, .bool churn, .slice none 0 0] 68 := Blk.new w _ _
    obtain ⟨r0, r1, r2, -, -, -⟩ := blk3 R6
    refine bodyPost_ret (v := .agg #[.int .i64 0, .bool churn, .slice none 0 0]) (by simp [results, Try.results36, go_sem, r0, r1, r2]) rfl ⟨rfl, (Upd.refl Non w).alloc _⟩
  · obtain rfl : most = k := by omega
    have hd : decide (most < 0) = false := by simpa using h
    clear hk
    go_enter Try.func36, Try.ntmps36
    go_wp2_with fail
    have R6 : Blk (w.alloc (.cells #[.int .i64 most, .bool churn, .slice none 0 0] 68)) w.heap.size #[.int .i64 most, .bool churn, .slice none 0 0] 68 := Blk.new w _ _
    obtain ⟨r0, r1, r2, -, -, -⟩ := blk3 R6
    refine bodyPost_ret (v := .agg #[.int .i64 most, .bool churn, .slice none 0 0]) (by simp [results, Try.results36, go_sem, r0, r1, r2]) rfl ⟨rfl, (Upd.refl Non w).alloc _⟩

end Go.Proofs.Ytalnjkeajlbbpaa

/- Walks: cachewiseref06.Resize, Keys. -/
namespace Go.Proofs.Ytalnjkeajlbbpaa
open Go.RowKit
set_option linter.unusedSimpArgs false
set_option linter.unusedVariables false

variable {w w' : World} {F : Nat → Prop} {av : Option Addr} {cap : Nat} {m p : List (Itm ByteArray)} {most now : Int} {churn : Bool}

theorem RowP.weak (h : RowP w F av cap p) : RowP w Non av cap p := ⟨h.arr.turn (fun _ _ _ => id), h.cap⟩
theorem RowP.turn {F' : Nat → Prop} (h : RowP w F av cap p) (hF : ∀ k, F' k → F k) : RowP w F' av cap p := ⟨h.arr.turn (fun g _ hn h => hn (hF g h)), h.cap⟩

structure RS (w0 w : World) (F : Nat → Prop) (k : Int) (churn : Bool) (av : Option Addr) (cap : Nat) (p : List (Itm ByteArray)) (v : Value) (ks : List ByteArray) : Prop where
  b2 : Blk w w0.heap.size (cV k churn av p.length cap) 68
  b4 : Blk w (w0.heap.size + 1) cZ 68
  upd : Upd Non w0 w
  row : RowP w (fun x => F x ∨ x = w0.heap.size ∨ x = w0.heap.size + 1 ∨ v.ownBlock = some x) av cap p
  out : w.ownsRow w0.heap.size 9 1 v ks.length (ks.map Value.string)
  outF : ∀ x, v.ownBlock = some x → w0.heap.size + 1 < x

variable {w0 : World} {k : Int} {v : Value} {ks : List ByteArray}

theorem RS.non (s : RS w0 w F k churn av cap p v ks) (u : Upd Non w w') : RS w0 w' F k churn av cap p v ks :=
  ⟨s.b2.upd u id, s.b4.upd u id, s.upd.trans u (fun _ h => h.elim), s.row.non u, ownsRow_upd s.out u (fun _ _ => id), s.outF⟩

theorem rs_app (s : RS w0 w F k churn av cap p v ks) {g c : Nat} {x : ByteArray} (h : w'.ownsRow w0.heap.size 9 1 (.slice (some ⟨g, 0, none⟩) (ks.length + 1) c) (ks.length + 1) (ks.map Value.string ++ [.string x]))
    (hg : w.grownBy w' v.ownBlock) (ha : v.ownBlock = some g ∨ w.heap.size ≤ g) : RS w0 w' F k churn av cap p (.slice (some ⟨g, 0, none⟩) (ks.length + 1) c) (ks ++ [x]) := by
  have u : Upd (fun x => v.ownBlock = some x) w w' := (Upd.refl _ w).grown hg (fun k hk => .inl hk)
  have hb4 := s.b4.lt
  have hgg : w0.heap.size + 1 < g := by
    rcases ha with ha | ha
    · exact s.outF g ha
    · omega
  refine ⟨s.b2.upd u (fun hk => by have := s.outF _ hk; omega), s.b4.upd u (fun hk => by have := s.outF _ hk; omega), s.upd.trans u (fun k hk => .inr (by have := s.outF k hk; omega)), s.row.step (u.mono (fun x hx => .inl (.inr (.inr (.inr hx))))) (fun x hx => ?_), by simpa using h, fun x hx => ?_⟩
  · rcases hx with hx | hx | hx | hx
    · exact .inl (.inl hx)
    · exact .inl (.inr (.inl hx))
    · exact .inl (.inr (.inr (.inl hx)))
    · simp only [Value.ownBlock, Option.some.injEq] at hx
      subst hx
      rcases ha with ha | ha
      · exact .inl (.inr (.inr (.inr ha)))
      · exact .inr ha
  · simp only [Value.ownBlock, Option.some.injEq] at hx
    omega

/-- Behind Drop, the new cache stored. -/
theorem rs_next (s : RS w0 w F k churn av cap p v ks) (hF : ∀ x, F x → x < w0.heap.size) {av1 : Option Addr} {cap1 : Nat} {p1 : List (Itm ByteArray)} (hrow : ∀ F' : Nat → Prop, (∀ x, F' x → x < w.heap.size) → RowP w' F' av1 cap1 p1) (u : Upd Non w w') :
    RS w0 (((w'.setCell ⟨w0.heap.size, 0, none⟩ (.int .i64 k)).setCell ⟨w0.heap.size, 1, none⟩ (.bool churn)).setCell ⟨w0.heap.size, 2, none⟩ (.slice av1 p1.length cap1)) F k churn av1 cap1 p1 v ks := by
  have t := s.non u
  have u2 : Upd (fun x => x = w0.heap.size) w' (((w'.setCell ⟨w0.heap.size, 0, none⟩ (.int .i64 k)).setCell ⟨w0.heap.size, 1, none⟩ (.bool churn)).setCell ⟨w0.heap.size, 2, none⟩ (.slice av1 p1.length cap1)) := ((((Upd.refl _ w').set1 0 _)).set1 1 _).set1 2 _
  have hb2 := s.b2.lt
  have hb4 := s.b4.lt
  have hws := s.upd.size
  refine ⟨((t.b2.set 0 _).set 1 _).set 2 _, t.b4.upd u2 (by omega), t.upd.trans u2 (fun x hx => .inr (by omega)), ?_, ownsRow_upd t.out u2 (fun x hx e => by have := s.outF x hx; omega), s.outF⟩
  have r1 := hrow (fun x => F x ∨ x = w0.heap.size ∨ x = w0.heap.size + 1 ∨ v.ownBlock = some x) (fun x hx => by
    rcases hx with hx | hx | hx | hx
    · have := hF x hx; omega
    · omega
    · omega
    · exact (s.out.lt x hx).2)
  exact r1.step (u2.mono (fun x hx => .inl (.inr (.inl hx)))) (fun x hx => .inl hx)

set_option maxRecDepth 100000 in
set_option maxHeartbeats 3200000 in
theorem resize_ref (h : RowP w F av cap p) (hF : ∀ x, F x → x < w.heap.size) (hl : p.length ≤ 900000) (hB : ByCame m p) (hN : NoTwice m) (hS : SortedS m) (ht : ∀ z ∈ m, z.two = if churn then -z.came else z.came) (less k : Int) (n : Nat) (hk : max less 0 = k) (hn : (n : Int) = max 0 ((m.length : Int) - k)) :
    Calls Try.prog 43 #[.agg #[.int .i64 most, .bool churn, .slice av p.length cap], .int .i64 less] w fun e w' => ∃ av' cap' p' ov oc, e = .returned (.tuple #[.agg #[.int .i64 k, .bool churn, .slice av' p'.length cap'], .slice ov n oc]) ∧
      ByCame (m.drop n) p' ∧ RowP w' F av' cap' p' ∧ Arr w' F ov 1 (strC ((keysM m).take n)) ∧ Upd Non w w' := by
  obtain ⟨i0, hi, hz0, hz1, hz2⟩ := info_parts infoS
  have hW := fun W => new_ref W less k false hk
  have hk0 : 0 ≤ k := by omega
  have HN := hid hn
  have HML := hid hB.perm.length_eq.symm
  clear hn hk
  go_enter Try.func43, Try.ntmps43
  go_wp2_with fail
  have B1 := ((Blk.new w (cV most churn av p.length cap) 68).alloc (.cells cZ 68))
  have B2 : Blk ((w.alloc (.cells (cV most churn av p.length cap) 68)).alloc (.cells cZ 68)) (w.heap.size + 1) cZ 68 := Blk.new' _ _ _ (by simp)
  refine (hW _).mono ?_
  rintro e w1 ⟨rfl, u1⟩
  replace B1 := B1.upd u1 id
  replace B2 := B2.upd u1 id
  have U1 : Upd Non w w1 := (((Upd.refl Non w).alloc _).alloc _).trans u1 (fun _ h => h.elim)
  have hs0 : RS w (w1.setCell ⟨w.heap.size, 0, none⟩ (.int .i64 k)) F k churn av cap p (.slice none 0 0) ((keysM m).take 0) := by
    have u2 : Upd (fun x => x = w.heap.size) w1 (w1.setCell ⟨w.heap.size, 0, none⟩ (.int .i64 k)) := (Upd.refl _ w1).set1 0 _
    have hb2 := B2.lt
    refine ⟨B1.set 0 _, B2.upd u2 (by omega), U1.trans u2 (fun x hx => .inr (by omega)), ?_, ⟨rfl, .inl ⟨rfl, rfl⟩⟩, by simp [Value.ownBlock]⟩
    have r1 : RowP w1 (fun x => F x ∨ x = w.heap.size ∨ x = w.heap.size + 1 ∨ (Value.slice none 0 0).ownBlock = some x) av cap p := by
      refine h.step (F := F) (U1.mono (fun _ h => h.elim)) (fun x hx => ?_)
      rcases hx with hx | hx | hx | hx
      · exact .inl hx
      · exact .inr (by omega)
      · exact .inr (by omega)
      · simp [Value.ownBlock] at hx
    exact r1.step (u2.mono (fun x hx => .inl (.inr (.inl hx)))) (fun x hx => .inl hx)
  obtain ⟨c0, c1, c2, f0, f1, f2⟩ := blk3 B1
  clear u1 hW B1 B2 U1
  have hfd : ∀ W, (Instr.field 68 (.agg #[.int .i64 k, .bool false, .slice none 0 0]) 0).run Try.prog W = .ok (.int .i64 k) W := fun W => by first | kernel_rfl | rfl
  go_wp2_with fail
  generalize hWS : World.setCell _ _ _ = wS at hs0 ⊢
  clear hWS c0 c1 c2 f0 f1 f2
  go_loopg [6] n (fun kk s6 wr => ∃ (i : Nat) (av : Option Addr) (cap : Nat) (p : List (Itm ByteArray)) (v : Value), i ≤ n ∧ n - i ≤ kk ∧ s6 = v ∧ RS w wr F k churn av cap p v ((keysM m).take i) ∧ Hid (ByCame (m.drop i) p))
  case atStart => exact ⟨0, av, cap, p, _, Nat.zero_le _, Nat.sub_le _ _, rfl, hs0, hid hB⟩
  case round =>
    clear hs0
    obtain ⟨i, av, cap, p, v, hi2, hik, rfl, s, HB⟩ := hrel
    have hpl : (p.length : Int) = (m.length : Int) - i := by
      have h1 := HB.out.perm.length_eq
      have h2 := HN.out
      rw [List.length_drop] at h1
      omega
    obtain ⟨c0, c1, c2, f0, f1, f2⟩ := blk3 s.b2
    by_cases hlt : i < n
    · have him : i < m.length := by have := HN.out; omega
      obtain ⟨y, hy⟩ : ∃ y, m[i]? = some y := ⟨m[i], List.getElem?_eq_getElem him⟩
      have hdc := drop_cons hy
      have hky : (keysM m)[i]? = some y.key := by simp [keysM, hy]
      have hlen : ((keysM m).take i).length = i := by
        have h1 : (keysM m).length = m.length := by simp [keysM]
        rw [List.length_take, h1]; omega
      have hd : decide (k < (p.length : Int)) = true := by have := HN.out; simp; omega
      have hB1 := HB.out
      rw [hdc] at hB1
      have hN1 : NoTwice (y :: m.drop (i + 1)) := by rw [← hdc]; exact List.Pairwise.sublist (List.drop_sublist _ _) hN
      have hS1 : SortedS (y :: m.drop (i + 1)) := by rw [← hdc]; exact List.Pairwise.sublist (List.drop_sublist _ _) hS
      have ht1 : ∀ z ∈ y :: m.drop (i + 1), z.two = if churn then -z.came else z.came := by rw [← hdc]; exact fun z hz => ht z (List.mem_of_mem_drop hz)
      have hD := drop_some (most := k) s.row.weak (by have := HML.out; omega) hB1 hS1 ht1
      have HB' := hid (hB1.tail hN1)
      have HT := hid (take_snoc hky)
      have HL := hid hlen
      generalize remM p y.key = p1 at hD HB'
      generalize y.key = key at hD HT
      clear hB1 hN1 hS1 ht1 hdc hy hky hlen
      have hnb : p.length ≤ 900000 := by have := HML.out; omega
      clear hpl
      generalize hnp : p.length = np at hD hd c2 hnb
      have HNP := hid hnp
      clear hnp
      have HS := hid s
      clear s
      go_wp2_with fail
      refine hD.mono ?_
      rintro e w2 ⟨av1, cap1, rfl, hrow, u2⟩
      have HS1 := hid (rs_next HS.out hF hrow u2)
      have B2 := HS.out.b2.upd u2 id
      have hb2 := B2.lt
      have hne : w2.heap.size ≠ w.heap.size := by omega
      obtain ⟨d0, d1, d2, g0, g1, g2⟩ := blk3 B2
      rw [HNP.out] at d2
      clear hD c0 c1 c2 f0 f1 f2 hrow u2 HS B2
      go_upto_region 6 with (fail)
      generalize hW : World.alloc _ _ = wT
      have s3 : RS w wT F k churn av1 cap1 p1 u6 ((keysM m).take i) := by rw [← hW]; exact HS1.out.non ((Upd.refl Non _).alloc _)
      clear hW HS1 d0 d1 d2 g0 g1 g2
      have hnk : n ≤ 900000 := by have := HN.out; have := HML.out; omega
      have hOut := s3.out
      have hLt := fun x hx => (s3.out.lt x hx).2
      rw [HL.out] at hOut
      have hus := s3.upd.size
      have HA := fun (g : Nat) (c : Nat) (w5 : World) hown hgrow hat => rs_app (s3.non ((Upd.refl Non wT).alloc (.cells #[.string key] 9))) (w' := w5) (g := g) (c := c) (x := key) hown hgrow hat
      rw [HL.out] at HA
      go_wp2_with (at_builtin; refine wpList_append_some rfl (.tmp 27) (.tmp 29) 33 rfl w.heap.size 9 i0 (.string ByteArray.empty) 1 16 Try.underlying33 hi hz0 hz1 hz2 rfl (by decide) _ i (((keysM m).take i).map Value.string) rfl (hOut.alloc _) ⟨wT.heap.size, 0, none⟩ 1 1 [.string key] rfl rfl (news_blk (vs := #[.string key]) (Blk.new wT _ 9)) (by simp [Value.oneCell']) (by unfold maxLen; omega) (by omega) (by simp; omega) (by decide) ?_; intro gg cap' w5 hown hgrow hat; have s5 := HA gg cap' w5 hown hgrow (hat.imp id (fun e => Nat.le_of_eq (by rw [e]))); clear hown hgrow hat)
      rw [← HT.out] at s5
      go_roundg (n - (i + 1))
      case measure => omega
      case rel => exact ⟨i + 1, av1, cap1, p1, _, by omega, Nat.le_refl _, rfl, s5, HB'⟩
    · obtain rfl : i = n := by omega
      have hlen : ((keysM m).take i).length = i := by
        have h1 : (keysM m).length = m.length := by simp [keysM]
        have := HN.out
        rw [List.length_take, h1]; omega
      obtain ⟨ov, oc, hov, ha⟩ := owned_arrF (F := fun x => F x ∨ x = w.heap.size + 1) s.out (fun x hx h => by
        have h1 := s.outF x hx
        rcases h with h | h
        · have := hF x h; omega
        · omega)
      rw [hlen] at hov
      subst hov
      have hd : decide (k < (p.length : Int)) = false := by have := HN.out; simp; omega
      have HS := hid s
      have HA := hid ha
      obtain ⟨d0, d1, d2, g0, g1, g2⟩ := blk3 s.b4
      generalize hnp : p.length = np at hd c2 ⊢
      have HNP := hid hnp
      clear hpl s ha hlen hnp
      go_wp2_with fail
      have R6 : Blk (((wr.setCell ⟨w.heap.size + 1, 0, none⟩ (.int .i64 k)).setCell ⟨w.heap.size + 1, 1, none⟩ (.bool churn)).setCell ⟨w.heap.size + 1, 2, none⟩ (.slice av np cap)) (w.heap.size + 1) (cV k churn av np cap) 68 := ((HS.out.b4.set 0 _).set 1 _).set 2 _
      obtain ⟨r0, r1, r2, -, -, -⟩ := blk3 R6
      have u6 : Upd (fun x => x = w.heap.size + 1) wr (((wr.setCell ⟨w.heap.size + 1, 0, none⟩ (.int .i64 k)).setCell ⟨w.heap.size + 1, 1, none⟩ (.bool churn)).setCell ⟨w.heap.size + 1, 2, none⟩ (.slice av np cap)) := ((((Upd.refl _ wr).set1 0 _)).set1 1 _).set1 2 _
      refine bodyPost_ret (v := .tuple #[.agg #[.int .i64 k, .bool churn, .slice av np cap], .slice ov i oc]) (by simp [results, Try.results43, go_sem, r0, r1, r2]) rfl ⟨av, cap, p, ov, oc, by rw [HNP.out], HB.out, ?_, ?_, ?_⟩
      · exact (HS.out.row.step (u6.mono (fun x hx => .inl (.inr (.inr (.inl hx))))) (fun x hx => .inl hx)).turn (fun x hx => .inl hx)
      · exact (HA.out.step (u6.mono (fun x hx => .inl (.inr hx))) (fun x hx => .inl hx)).turn (fun g _ hn h => hn (.inl h))
      · exact HS.out.upd.trans u6 (fun x hx => .inr (by omega))

set_option maxRecDepth 100000 in
set_option maxHeartbeats 3200000 in
theorem keys_ref (h : RowP w F av cap p) (hF : ∀ x, F x → x < w.heap.size) (hl : p.length ≤ 900000) (hB : ByCame m p) (hN : NoTwice m) (hS : SortedS m) (ht : ∀ z ∈ m, z.two = if churn then -z.came else z.came) :
    Calls Try.prog 47 #[.agg #[.int .i64 most, .bool churn, .slice av p.length cap]] w fun e w' => ∃ ov oc, e = .returned (.slice ov m.length oc) ∧ Arr w' F ov 1 (strC (keysM m)) ∧ Upd Non w w' := by
  have hR := fun W (u : Upd Non w W) => resize_ref (most := most) (h.non u) (fun x hx => Nat.lt_of_lt_of_le (hF x hx) u.size) hl hB hN hS ht 0 0 m.length (by omega) (by omega)
  have hkl : (keysM m).take m.length = keysM m := by rw [show m.length = (keysM m).length by simp [keysM], List.take_length]
  rw [hkl] at hR
  clear hkl hB hN hS ht hl h
  generalize p.length = np at hR ⊢
  go_enter Try.func47, Try.ntmps47
  go_wp2_with fail
  refine (hR _ ((Upd.refl Non w).alloc _)).mono ?_
  rintro e w1 ⟨av', cap', p', ov, oc, rfl, _, _, ha, u1⟩
  have U := ((Upd.refl Non w).alloc (.cells (cV most churn av np cap) 68)).trans u1 (fun _ h => h.elim)
  go_wp2_with fail
  go_ret
  exact ⟨ov, oc, rfl, ha.non ((Upd.refl Non w1).alloc _), U.alloc _⟩

end Go.Proofs.Ytalnjkeajlbbpaa

/- LfuPlays: each call of the document's cache and of the program's one, in one contract. -/
namespace Go.Proofs.Ytalnjkeajlbbpaa
open Go.RowKit
set_option linter.unusedSimpArgs false
set_option linter.unusedVariables false

variable {w w' : World} {F : Nat → Prop} {av : Option Addr} {cap : Nat} {m p : List (Itm ByteArray)} {most now : Int} {churn : Bool}

def out0 (m : List (Itm ByteArray)) (most : Int) (key : ByteArray) : Bool := if most = 0 then false else outB m most key
def vic0 (m : List (Itm ByteArray)) (most : Int) (key : ByteArray) : ByteArray := if most = 0 then ⟨#[]⟩ else vicS m most key
def reqM0 (m : List (Itm ByteArray)) (most now : Int) (churn : Bool) (key : ByteArray) : List (Itm ByteArray) := if most = 0 then m else reqM m most now churn key
def now0 (most now : Int) : Int := if most = 0 then now else now + 1

/-- What is known of a cache's items. -/
structure Good (m : List (Itm ByteArray)) (now : Int) (churn : Bool) : Prop where
  nt : NoTwice m
  so : SortedS m
  ones : ∀ y ∈ m, 1 ≤ y.one ∧ y.one ≤ now
  twos : ∀ y ∈ m, y.two = if churn then -y.came else y.came
  came : ∀ y ∈ m, y.came ≤ now
  len : (m.length : Int) ≤ now
  nn : 0 ≤ now

theorem LR.good {bc : Nat} {G : Nat → Prop} (h : LR w bc G m most now churn) : Good m now churn := ⟨h.nt, h.sorted, h.ones, h.twos, h.came, h.nn.2.2, h.nn.1⟩

theorem Good.times (g : Good m now churn) (key : ByteArray) : 0 ≤ timesM m key ∧ timesM m key ≤ now ∧ decide (0 < timesM m key) = hitB m key := times_range g.ones g.nn key

theorem request_all_lr {bc : Nat} {G : Nat → Prop} (h : LR w bc G m most now churn) (hl : now ≤ 900000) {key : ByteArray} (hk : key.size ≤ maxLen) (hit : Bool) (hh : hitB m key = hit) (s : ByteArray) (hs : vic0 m most key = s) (out : Bool) (ho : out0 m most key = out) :
    Calls Try.prog 28 #[.pointer (some ⟨bc, 0, none⟩), .string key] w fun e w' => e = .returned (.agg #[.bool hit, .string s, .bool out]) ∧ ∃ G', LR w' bc G' (reqM0 m most now churn key) most (now0 most now) churn ∧ Upd G w w' ∧ Within w G G' := by
  have h0 := h.nn.2.1
  by_cases hm : most = 0
  · subst hm
    simp only [vic0, out0, if_true] at hs ho
    subst hs ho
    simp only [reqM0, now0, if_true]
    exact (request_zero h hl hk hit hh).mono fun e w' ⟨he, u⟩ => ⟨he, G, h.non u, u.mono (fun _ h => h.elim), Within.refl _ _⟩
  · simp only [vic0, out0, if_neg hm] at hs ho
    simp only [reqM0, now0, if_neg hm]
    exact request_lr h hl (by omega) hk hit hh s hs out ho

theorem request_all_ref (h : RowP w F av cap p) (hF : ∀ x, F x → x < w.heap.size) (hB : ByCame m p) (g : Good m now churn) (hm : 0 ≤ most) (hl : now ≤ 900000) {key : ByteArray} (hit : Bool) (hh : hitB m key = hit) (s : ByteArray) (hs : vic0 m most key = s) (out : Bool) (ho : out0 m most key = out) :
    Calls Try.prog 37 #[.agg #[.int .i64 most, .bool churn, .slice av p.length cap], .string key] w fun e w' => ∃ av' cap' p', e = .returned (.tuple #[.agg #[.int .i64 most, .bool churn, .slice av' p'.length cap'], .agg #[.bool hit, .string s, .bool out]]) ∧
      ByCame (reqM0 m most now churn key) p' ∧ RowP w' F av' cap' p' ∧ Upd Non w w' := by
  obtain ⟨t0, t1, t2⟩ := g.times key
  have hpl := hB.perm.length_eq
  have hlen := g.len
  by_cases hz : most = 0
  · subst hz
    simp only [vic0, out0, if_true] at hs ho
    subst hs ho
    simp only [reqM0, if_true]
    exact (request_ref0 h.weak (by omega) g.nt hB.perm hit (t2.trans hh)).mono fun e w' ⟨he, u⟩ => ⟨av, cap, p, he, hB, h.non u, u⟩
  · simp only [vic0, out0, if_neg hz] at hs ho
    simp only [reqM0, if_neg hz]
    cases out with
    | false =>
      have hr : hit = true ∨ (p.length : Int) < most := by
        simp only [outB, hh] at ho
        cases hit with
        | true => exact .inl rfl
        | false => simp at ho; exact .inr (by omega)
      have hs2 : s = ⟨#[]⟩ := by rw [← hs]; unfold vicS; rw [ho]; rfl
      subst hs2
      have hq : reqM m most now churn key = askM m now churn key := by unfold reqM; rw [ho]; rfl
      rw [hq]
      exact (request_refin h.weak (by omega) g.nt hB.perm hz hit (t2.trans hh) hr t0 (by omega) _ _ _ rfl).mono fun e w' ⟨av', cap', he, hr, u⟩ => ⟨av', cap', _, he, hB.ask g.came key, hr F hF, u⟩
    | true =>
      have h1 : hitB m key = false ∧ most ≤ (m.length : Int) := by simpa [outB] using ho
      cases m with
      | nil => have := h1.2; simp at this; omega
      | cons y r =>
        have hs2 : s = y.key := by rw [← hs]; unfold vicS; rw [ho]; rfl
        obtain rfl : hit = false := hh.symm.trans h1.1
        subst hs2
        have hq : reqM (y :: r) most now churn key = askM r now churn key := by unfold reqM; rw [ho]; rfl
        rw [hq]
        have g2 : Good r now churn := ⟨(List.pairwise_cons.1 g.nt).2, (List.pairwise_cons.1 g.so).2, fun z hz => g.ones z (by simp [hz]), fun z hz => g.twos z (by simp [hz]), fun z hz => g.came z (by simp [hz]), by have := g.len; simp at this; omega, g.nn⟩
        obtain ⟨t3, t4, -⟩ := g2.times key
        exact (request_refout h.weak (by omega) g.nt hB g.so g.twos hz (times_zero h1.1) (by rw [hpl]; exact h1.2) t3 (by omega) _ _ _ rfl).mono fun e w' ⟨av', cap', he, hr, u⟩ => ⟨av', cap', _, he, (hB.tail g.nt).ask g2.came key, hr F hF, u⟩

theorem adopt_all_ref (h : RowP w F av cap p) (hF : ∀ x, F x → x < w.heap.size) (hB : ByCame m p) (g : Good m now churn) (hl : now ≤ 900000) {key : ByteArray} (b : Bool) (hb : (hitB m key || decide (most ≤ (m.length : Int))) = b) :
    Calls Try.prog 40 #[.agg #[.int .i64 most, .bool churn, .slice av p.length cap], .string key] w fun e w' => ∃ av' cap' p', e = .returned (.tuple #[.agg #[.int .i64 most, .bool churn, .slice av' p'.length cap'], .bool (!b)]) ∧
      ByCame (if b then m else askM m now churn key) p' ∧ RowP w' F av' cap' p' ∧ Upd Non w w' := by
  obtain ⟨t0, t1, t2⟩ := g.times key
  have hpl := hB.perm.length_eq
  have hlen := g.len
  cases b with
  | true => exact (adopt_no h.weak (by omega) g.nt hB.perm (by rw [t2, hpl]; exact hb)).mono fun e w' ⟨he, u⟩ => ⟨av, cap, p, he, hB, h.non u, u⟩
  | false =>
    simp only [Bool.or_eq_false_iff, decide_eq_false_iff_not] at hb
    exact (adopt_yes h.weak (by omega) g.nt hB.perm (times_zero hb.1) (by rw [hpl]; omega) _ _ _ rfl).mono fun e w' ⟨av', cap', he, hr, u⟩ => ⟨av', cap', _, he, hB.ask g.came key, hr F hF, u⟩

theorem drop_all_ref (h : RowP w F av cap p) (hF : ∀ x, F x → x < w.heap.size) (hB : ByCame m p) (g : Good m now churn) (hl : now ≤ 900000) (s : ByteArray) (b : Bool) (hv : popV m = .tuple #[.string s, .bool b]) :
    Calls Try.prog 42 #[.agg #[.int .i64 most, .bool churn, .slice av p.length cap]] w fun e w' => ∃ av' cap' p', e = .returned (.tuple #[.agg #[.int .i64 most, .bool churn, .slice av' p'.length cap'], .string s, .bool b]) ∧
      ByCame m.tail p' ∧ RowP w' F av' cap' p' ∧ Upd Non w w' := by
  have hpl := hB.perm.length_eq
  have hlen := g.len
  cases m with
  | nil =>
    obtain rfl := List.perm_nil.1 hB.perm
    simp [popV] at hv
    obtain ⟨rfl, rfl⟩ := hv
    exact (drop_none h.weak).mono fun e w' ⟨he, u⟩ => ⟨av, cap, [], he, hB, h.non u, u⟩
  | cons y r =>
    simp [popV] at hv
    obtain ⟨rfl, rfl⟩ := hv
    exact (drop_some h.weak (by omega) hB g.so g.twos).mono fun e w' ⟨av', cap', he, hr, u⟩ => ⟨av', cap', _, he, hB.tail g.nt, hr F hF, u⟩

/-- The cache, the document's one in a variable. -/
structure PS (w1 w : World) (bc : Nat) (G : Nat → Prop) (mc : List (Itm ByteArray)) (mostc now : Int) (churn : Bool) (b8 : Nat) (mostr : Int) (av : Option Addr) (cap : Nat) (p mr : List (Itm ByteArray)) : Prop where
  a : LR w bc G mc mostc now churn
  bk : Blk w b8 (cV mostr churn av p.length cap) 68
  no : ¬ G b8
  f8 : w1.heap.size ≤ b8
  row : RowP w (fun k => G k ∨ k = b8) av cap p
  by_ : ByCame mr p
  upd : Upd Non w1 w
  fa : ∀ k, G k → w1.heap.size ≤ k

variable {w1 : World} {bc b8 : Nat} {G : Nat → Prop} {mc mr : List (Itm ByteArray)} {mostc mostr : Int}

theorem PS.non (s : PS w1 w bc G mc mostc now churn b8 mostr av cap p mr) (u : Upd Non w w') : PS w1 w' bc G mc mostc now churn b8 mostr av cap p mr :=
  ⟨s.a.non u, s.bk.upd u id, s.no, s.f8, s.row.non u, s.by_, s.upd.trans u (fun _ h => h.elim), s.fa⟩
theorem PS.cache (s : PS w1 w bc G mc mostc now churn b8 mostr av cap p mr) {G' : Nat → Prop} {m' : List (Itm ByteArray)} {x y : Int} (h : LR w' bc G' m' x y churn) (u : Upd G w w') (q : Within w G G') : PS w1 w' bc G' m' x y churn b8 mostr av cap p mr :=
  ⟨h, s.bk.upd u s.no, q.no s.no s.bk.lt, s.f8, s.row.step (u.mono (fun k hk => .inl (.inl hk))) (fun k hk => hk.elim (fun h => (q k h).imp .inl id) (fun e => .inl (.inr e))), s.by_, s.upd.trans u (fun k hk => .inr (s.fa k hk)), fun k hk => (q k hk).elim (s.fa k) (fun e => Nat.le_trans s.upd.size e)⟩
theorem PS.lt (s : PS w1 w bc G mc mostc now churn b8 mostr av cap p mr) : ∀ x, (G x ∨ x = b8) → x < w.heap.size := fun x hx => hx.elim (s.a.lt x) (fun e => e ▸ s.bk.lt)
/-- A new cache of the document's is stored. -/
theorem PS.store (s : PS w1 w bc G mc mostc now churn b8 mostr av cap p mr) {av' : Option Addr} {cap' : Nat} {p' mr' : List (Itm ByteArray)} (x : Int) (hr : RowP w (fun k => G k ∨ k = b8) av' cap' p') (hb : ByCame mr' p') :
    PS w1 (((w.setCell ⟨b8, 0, none⟩ (.int .i64 x)).setCell ⟨b8, 1, none⟩ (.bool churn)).setCell ⟨b8, 2, none⟩ (.slice av' p'.length cap')) bc G mc mostc now churn b8 x av' cap' p' mr' := by
  have u2 : Upd (fun k => k = b8) w (((w.setCell ⟨b8, 0, none⟩ (.int .i64 x)).setCell ⟨b8, 1, none⟩ (.bool churn)).setCell ⟨b8, 2, none⟩ (.slice av' p'.length cap')) := ((((Upd.refl _ w).set1 0 _)).set1 1 _).set1 2 _
  exact ⟨s.a.upd u2 (fun k hk e => s.no (e ▸ hk)), ((s.bk.set 0 _).set 1 _).set 2 _, s.no, s.f8, hr.step (u2.mono (fun k hk => .inl (.inr hk))) (fun k hk => .inl hk), hb, s.upd.trans u2 (fun k hk => .inr (hk ▸ s.f8)), s.fa⟩

/-- Another block, that stays. -/
structure Bx (w : World) (G : Nat → Prop) (b8 b : Nat) (vs : Array Value) (T : TypeId) : Prop where
  blk : Blk w b vs T
  nG : ¬ G b
  n8 : b ≠ b8

variable {b : Nat} {vs : Array Value} {T : TypeId}

theorem Bx.non (z : Bx w G b8 b vs T) (u : Upd Non w w') : Bx w' G b8 b vs T := ⟨z.blk.upd u id, z.nG, z.n8⟩
theorem Bx.cache (z : Bx w G b8 b vs T) {G' : Nat → Prop} (u : Upd G w w') (q : Within w G G') : Bx w' G' b8 b vs T := ⟨z.blk.upd u z.nG, q.no z.nG z.blk.lt, z.n8⟩
theorem Bx.store (z : Bx w G b8 b vs T) (v0 v1 v2 : Value) : Bx (((w.setCell ⟨b8, 0, none⟩ v0).setCell ⟨b8, 1, none⟩ v1).setCell ⟨b8, 2, none⟩ v2) G b8 b vs T :=
  ⟨z.blk.upd ((((Upd.refl (fun k => k = b8) w).set1 0 v0).set1 1 v1).set1 2 v2) z.n8, z.nG, z.n8⟩
theorem PS.bx (s : PS w1 w bc G mc mostc now churn b8 mostr av cap p mr) (vs : Array Value) (T : TypeId) : Bx (w.alloc (.cells vs T)) G b8 w.heap.size vs T :=
  ⟨Blk.new w vs T, fun h => by have := s.a.lt _ h; omega, fun e => by have := s.bk.lt; omega⟩

end Go.Proofs.Ytalnjkeajlbbpaa
