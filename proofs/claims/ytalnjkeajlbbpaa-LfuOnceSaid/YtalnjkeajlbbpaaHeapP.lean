/- Plain laws: a binary heap in a list, with an index; no program in sight. -/
import Derived.Test.YtalnjkeajlbbpaaHeapA
namespace Go.Proofs.Ytalnjkeajlbbpaa

def ltR (a1 a2 b1 b2 : Int) : Bool := decide (a1 < b1) || (decide (a1 = b1) && decide (a2 < b2))
/-- Is item x ahead of y? -/
def ltI {α : Type} (x y : Itm α) : Bool := ltR x.one x.two y.one y.two || ((decide (x.one = y.one) && decide (x.two = y.two)) && decide (x.came < y.came))

variable {α : Type}

theorem ltI_iff (x y : Itm α) : ltI x y = true ↔ x.one < y.one ∨ (x.one = y.one ∧ (x.two < y.two ∨ (x.two = y.two ∧ x.came < y.came))) := by
  unfold ltI ltR
  simp only [Bool.or_eq_true, Bool.and_eq_true, decide_eq_true_eq]
  omega
theorem ltI_no (x y : Itm α) : ltI x y = false ↔ ¬ (x.one < y.one ∨ (x.one = y.one ∧ (x.two < y.two ∨ (x.two = y.two ∧ x.came < y.came)))) := by
  rw [← ltI_iff]; simp
theorem ltI_irrefl (x : Itm α) : ltI x x = false := by rw [ltI_no]; omega
theorem ltI_asymm {x y : Itm α} (h : ltI x y = true) : ltI y x = false := by rw [ltI_iff] at h; rw [ltI_no]; omega
theorem ltI_trans {x y z : Itm α} (h : ltI x y = true) (k : ltI y z = true) : ltI x z = true := by rw [ltI_iff] at *; omega
theorem ltI_ntrans {x y z : Itm α} (h : ltI x y = false) (k : ltI y z = false) : ltI x z = false := by rw [ltI_no] at *; omega
theorem ltI_eq {x y : Itm α} (h : ltI x y = false) (k : ltI y x = false) : x.one = y.one ∧ x.two = y.two ∧ x.came = y.came := by rw [ltI_no] at *; omega

def par (i : Nat) : Nat := (i - 1) / 2

/-- The heap's order everywhere. -/
def Heapd (L : List (Itm α)) : Prop := ∀ (j : Nat) (y z : Itm α), 0 < j → L[j]? = some y → L[par j]? = some z → ltI y z = false

/-- .. but at i; and what stands below i comes behind what stands above i. -/
def WH (L : List (Itm α)) (i : Nat) : Prop :=
  (∀ (j : Nat) (y z : Itm α), 0 < j → j ≠ i → par j ≠ i → L[j]? = some y → L[par j]? = some z → ltI y z = false) ∧
  (∀ (j : Nat) (y z : Itm α), 0 < j → par j = i → 0 < i → L[j]? = some y → L[par i]? = some z → ltI y z = false)

theorem par_lt {i : Nat} (h : 0 < i) : par i < i := by unfold par; omega

theorem get_swap {l : List (Itm α)} {i p : Nat} {x z : Itm α} (hi : i < l.length) (hp : p < l.length) (hne : i ≠ p) (j : Nat) : ((l.set i z).set p x)[j]? = if j = p then some x else if j = i then some z else l[j]? := by
  rw [List.getElem?_set, List.getElem?_set]
  by_cases h1 : j = p
  · subst h1; simp [hp]
  · rw [if_neg (fun e => h1 e.symm), if_neg h1]
    by_cases h2 : j = i
    · subst h2; simp [hi]
    · rw [if_neg (fun e => h2 e.symm), if_neg h2]

theorem get_one {l : List (Itm α)} {i : Nat} {x : Itm α} (hi : i < l.length) (j : Nat) : (l.set i x)[j]? = if j = i then some x else l[j]? := by
  rw [List.getElem?_set]
  by_cases h2 : j = i
  · subst h2; simp [hi]
  · rw [if_neg (fun e => h2 e.symm), if_neg h2]

theorem swap_perm {l : List (Itm α)} {i p : Nat} {x z : Itm α} (hi : i < l.length) (hp : p < l.length) (hne : i ≠ p) (hz : l[p]? = some z) : ((l.set i z).set p x).Perm (l.set i x) := by
  have h := List.set_set_perm (as := l.set i x) (i := i) (j := p) (by simpa using hi) (by simpa using hp)
  have e1 : (l.set i x)[p]'(by simpa using hp) = z := by
    have := List.getElem?_eq_getElem (l := l.set i x) (i := p) (by simpa using hp)
    rw [List.getElem?_set, if_neg hne, hz] at this
    simpa using this.symm
  have e2 : (l.set i x)[i]'(by simpa using hi) = x := by simp
  rw [e1, e2] at h
  simpa [List.set_set] using h

/-- One step up: x goes ahead of its parent z. -/
theorem up_step {l : List (Itm α)} {i : Nat} {x z : Itm α} (hi : i < l.length) (h0 : 0 < i) (hz : l[par i]? = some z) (hW : WH (l.set i x) i) : WH ((l.set i z).set (par i) x) (par i) := by
  have hp := par_lt h0
  have hpl : par i < l.length := by omega
  obtain ⟨h1, h2⟩ := hW
  have g := get_swap (x := x) (z := z) hi hpl (by omega : i ≠ par i)
  have k := get_one (x := x) hi
  have e1 : (l.set i x)[par i]? = some z := by rw [k, if_neg (by omega), hz]
  refine ⟨fun j y y' hj hjp hpp hy hy' => ?_, fun j y y' hj hpj hp0 hy hy' => ?_⟩
  · rw [g, if_neg hjp] at hy
    rw [g, if_neg hpp] at hy'
    by_cases hji : j = i
    · subst hji; exact absurd rfl hpp
    · rw [if_neg hji] at hy
      by_cases hpi : par j = i
      · rw [if_pos hpi] at hy'
        cases hy'
        exact h2 j y z hj hpi h0 (by rw [k, if_neg hji]; exact hy) e1
      · rw [if_neg hpi] at hy'
        exact h1 j y y' hj hji hpi (by rw [k, if_neg hji]; exact hy) (by rw [k, if_neg hpi]; exact hy')
  · have hpl := par_lt hp0
    rw [g, if_neg (by omega), if_neg (by omega)] at hy'
    have hzz : ltI z y' = false := h1 (par i) z y' hp0 (by omega) (by omega) e1 (by rw [k, if_neg (by omega)]; exact hy')
    have hjp : j ≠ par i := by intro e; rw [e] at hpj; omega
    rw [g, if_neg hjp] at hy
    by_cases hji : j = i
    · rw [if_pos hji] at hy
      cases hy
      exact hzz
    · rw [if_neg hji] at hy
      have : ltI y z = false := h1 j y z hj hji (by omega) (by rw [k, if_neg hji]; exact hy) (by rw [hpj]; exact e1)
      exact ltI_ntrans this hzz

/-- x stands right with its parent. -/
def UpOK (L : List (Itm α)) (i : Nat) (x : Itm α) : Prop := 0 < i → ∀ z, L[par i]? = some z → ltI x z = false

theorem up_stop {l : List (Itm α)} {i : Nat} {x z : Itm α} (hi : i < l.length) (h0 : 0 < i) (hz : l[par i]? = some z) (hlt : ltI x z = false) : UpOK (l.set i x) i x := by
  intro _ z' hz'
  have := par_lt h0
  rw [get_one hi, if_neg (by omega), hz] at hz'
  cases hz'
  exact hlt

theorem up_zero_ok (L : List (Itm α)) (x : Itm α) : UpOK L 0 x := fun h => absurd h (by omega)

/-- One step down: the lesser child z goes ahead of x. -/
theorem down_step {l : List (Itm α)} {i c : Nat} {x z : Itm α} (hi : i < l.length) (hc0 : 0 < c) (hpc : par c = i) (hz : l[c]? = some z) (hW : WH (l.set i x) i) (hlt : ltI z x = true)
    (hmin : ∀ (j : Nat) (y : Itm α), 0 < j → par j = i → l[j]? = some y → ltI y z = false) : WH ((l.set i z).set c x) c ∧ UpOK ((l.set i z).set c x) c x := by
  have hci := par_lt hc0
  have hcl : c < l.length := (List.getElem?_eq_some_iff.1 hz).1
  obtain ⟨h1, h2⟩ := hW
  have g := get_swap (x := x) (z := z) hi hcl (by omega : i ≠ c)
  have k := get_one (x := x) hi
  have e1 : (l.set i x)[c]? = some z := by rw [k, if_neg (by omega), hz]
  refine ⟨⟨fun j y y' hj hjc hpjc hy hy' => ?_, fun j y y' hj hpj _ hy hy' => ?_⟩, fun _ z' hz' => ?_⟩
  · rw [g, if_neg hjc] at hy
    rw [g, if_neg hpjc] at hy'
    by_cases hji : j = i
    · rw [if_pos hji] at hy
      cases hy
      have hp := par_lt hj
      rw [if_neg (by omega)] at hy'
      rw [hji] at hy' hj hp
      exact h2 c z y' hc0 hpc hj e1 (by rw [k, if_neg (by omega)]; exact hy')
    · rw [if_neg hji] at hy
      by_cases hpi : par j = i
      · rw [if_pos hpi] at hy'
        cases hy'
        exact hmin j y hj hpi hy
      · rw [if_neg hpi] at hy'
        exact h1 j y y' hj hji hpi (by rw [k, if_neg hji]; exact hy) (by rw [k, if_neg hpi]; exact hy')
  · have hpjj := par_lt hj
    rw [hpc, g, if_neg (by omega), if_pos rfl] at hy'
    cases hy'
    rw [g, if_neg (by omega), if_neg (by omega)] at hy
    exact h1 j y z hj (by omega) (by omega) (by rw [k, if_neg (by omega)]; exact hy) (by rw [hpj]; exact e1)
  · rw [hpc, g, if_neg (by omega), if_pos rfl] at hz'
    cases hz'
    exact ltI_asymm hlt

theorem down_stop {l : List (Itm α)} {i : Nat} {x : Itm α} (hi : i < l.length) (hW : WH (l.set i x) i) (hU : UpOK (l.set i x) i x) (hmin : ∀ (j : Nat) (y : Itm α), 0 < j → par j = i → l[j]? = some y → ltI y x = false) : Heapd (l.set i x) := by
  obtain ⟨h1, h2⟩ := hW
  intro j y z hj hy hz
  have k := get_one (x := x) hi
  by_cases hji : j = i
  · rw [hji] at hy hz hj
    rw [k, if_pos rfl] at hy
    cases hy
    exact hU hj z hz
  · by_cases hpi : par j = i
    · rw [k, if_neg hji] at hy
      rw [hpi, k, if_pos rfl] at hz
      cases hz
      exact hmin j y hj hpi hy
    · exact h1 j y z hj hji hpi hy hz

/-- The first one is ahead of all. -/
theorem heap_first {L : List (Itm α)} (h : Heapd L) {z : Itm α} (hz : L[0]? = some z) : ∀ (j : Nat) (y : Itm α), L[j]? = some y → ltI y z = false := by
  intro j
  induction j using Nat.strongRecOn with
  | _ j ih =>
    intro y hy
    by_cases h0 : j = 0
    · subst h0; rw [hz] at hy; cases hy; exact ltI_irrefl _
    · have hp := par_lt (by omega : 0 < j)
      obtain ⟨u, hu⟩ : ∃ u, L[par j]? = some u := ⟨L[par j]'(by have := (List.getElem?_eq_some_iff.1 hy).1; omega), List.getElem?_eq_getElem _⟩
      exact ltI_ntrans (h j y u (by omega) hy hu) (ih _ hp u hu)

/-- f tells where each key stands, but for the one at i. -/
def IdxBut (L : List (Itm α)) (f : α → Option Value) (i : Nat) : Prop := (∀ (j : Nat) (y : Itm α), j ≠ i → L[j]? = some y → f y.key = some (.int .i64 j)) ∧ (∀ k, (f k).isSome = true ↔ ∃ (j : Nat) (y : Itm α), L[j]? = some y ∧ y.key = k)
def Idx (L : List (Itm α)) (f : α → Option Value) : Prop := (∀ (j : Nat) (y : Itm α), L[j]? = some y → f y.key = some (.int .i64 j)) ∧ (∀ k, (f k).isSome = true ↔ ∃ (j : Nat) (y : Itm α), L[j]? = some y ∧ y.key = k)

/-- No key stands twice. -/
def NoTwice (L : List (Itm α)) : Prop := L.Pairwise (fun x y => x.key ≠ y.key)
theorem NoTwice.at {L : List (Itm α)} (h : NoTwice L) {i j : Nat} {x y : Itm α} (hx : L[i]? = some x) (hy : L[j]? = some y) (hk : x.key = y.key) : i = j := by
  have hi := (List.getElem?_eq_some_iff.1 hx)
  have hj := (List.getElem?_eq_some_iff.1 hy)
  obtain ⟨hi, ei⟩ := hi
  obtain ⟨hj, ej⟩ := hj
  rw [NoTwice, List.pairwise_iff_getElem] at h
  rcases Nat.lt_trichotomy i j with c | c | c
  · exact absurd (by rw [ei, ej]; exact hk) (h i j hi hj c)
  · exact c
  · exact absurd (by rw [ei, ej]; exact hk.symm) (h j i hj hi c)
theorem NoTwice.perm {L L' : List (Itm α)} (h : NoTwice L) (hp : L'.Perm L) : NoTwice L' := (hp.pairwise_iff (fun {_ _} h => Ne.symm h)).2 h

variable [DecidableEq α]

/-- The item z of place p goes to the hole at i; the hole is at p then. -/
theorem idx_step {l : List (Itm α)} {f : α → Option Value} {i p : Nat} {x z : Itm α} (hi : i < l.length) (hne : i ≠ p) (hz : l[p]? = some z) (hN : NoTwice (l.set i x)) (hI : IdxBut (l.set i x) f i) :
    IdxBut ((l.set i z).set p x) (put f z.key (.int .i64 i)) p := by
  have hpl : p < l.length := (List.getElem?_eq_some_iff.1 hz).1
  have g := get_swap (x := x) (z := z) hi hpl hne
  have k := get_one (x := x) hi
  have e1 : (l.set i x)[p]? = some z := by rw [k, if_neg (by omega), hz]
  obtain ⟨h1, h2⟩ := hI
  refine ⟨fun j y hjp hy => ?_, fun kk => ?_⟩
  · rw [g, if_neg hjp] at hy
    by_cases hji : j = i
    · rw [if_pos hji] at hy
      cases hy
      simp [put, hji]
    · rw [if_neg hji] at hy
      have hy' : (l.set i x)[j]? = some y := by rw [k, if_neg hji]; exact hy
      have : y.key ≠ z.key := fun e => hjp (hN.at hy' e1 e)
      simp only [put, if_neg this]
      exact h1 j y hji hy'
  · have hperm : ∀ (y : Itm α), (∃ j : Nat, ((l.set i z).set p x)[j]? = some y) ↔ ∃ j : Nat, (l.set i x)[j]? = some y := by
      intro y
      have := (swap_perm (x := x) hi hpl hne hz).mem_iff (a := y)
      rw [List.mem_iff_getElem?, List.mem_iff_getElem?] at this
      exact this
    have hz' : (f z.key).isSome = true := (h2 _).2 ⟨p, z, e1, rfl⟩
    have e : (put f z.key (.int .i64 i) kk).isSome = (f kk).isSome := by
      unfold put
      split
      · next h => subst h; rw [hz']; rfl
      · rfl
    rw [e, h2]
    constructor
    · rintro ⟨j, y, hy, hk⟩
      obtain ⟨j', hj'⟩ := (hperm y).2 ⟨j, hy⟩
      exact ⟨j', y, hj', hk⟩
    · rintro ⟨j, y, hy, hk⟩
      obtain ⟨j', hj'⟩ := (hperm y).1 ⟨j, hy⟩
      exact ⟨j', y, hj', hk⟩

theorem idx_end {l : List (Itm α)} {f : α → Option Value} {i : Nat} {x : Itm α} (hi : i < l.length) (hN : NoTwice (l.set i x)) (hI : IdxBut (l.set i x) f i) : Idx (l.set i x) (put f x.key (.int .i64 i)) := by
  obtain ⟨h1, h2⟩ := hI
  have k := get_one (x := x) hi
  have ex : (l.set i x)[i]? = some x := by rw [k, if_pos rfl]
  refine ⟨fun j y hy => ?_, fun kk => ?_⟩
  · by_cases hji : j = i
    · rw [hji] at hy ⊢
      rw [ex] at hy
      cases hy
      simp [put]
    · have : y.key ≠ x.key := fun e => hji (hN.at hy ex e)
      simp only [put, if_neg this]
      exact h1 j y hji hy
  · have hx' : (f x.key).isSome = true := (h2 _).2 ⟨i, x, ex, rfl⟩
    have e : (put f x.key (.int .i64 i) kk).isSome = (f kk).isSome := by
      unfold put
      split
      · next h => subst h; rw [hx']; rfl
      · rfl
    rw [e, h2]

end Go.Proofs.Ytalnjkeajlbbpaa
