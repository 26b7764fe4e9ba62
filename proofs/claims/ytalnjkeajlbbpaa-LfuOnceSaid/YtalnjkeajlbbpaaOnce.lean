/- LfuOnce, the plain law: keys that are asked for once each. -/
import Derived.Test.YtalnjkeajlbbpaaLfuG
namespace Go.Proofs.Ytalnjkeajlbbpaa
open Go.RowKit

/-- The plain cache: the last ones of the row, in order. -/
def OnceA (r : List ByteArray) (m : List (Itm ByteArray)) (most now : Int) : Prop :=
  keysM m = r.drop (r.length - most.toNat) ∧ ∀ y ∈ m, y.one = 1 ∧ y.two ≤ now

/-- The other one: as many; the newest one first. -/
def OnceB (r : List ByteArray) (m : List (Itm ByteArray)) (most now : Int) : Prop :=
  m.length = min r.length most.toNat ∧ (∀ y ∈ m, y.one = 1 ∧ -now ≤ y.two ∧ y.key ∈ r) ∧ ∀ y : Itm ByteArray, m[0]? = some y → r[r.length - 1]? = some y.key

variable {r : List ByteArray} {m : List (Itm ByteArray)} {most now : Int} {x : ByteArray}

theorem onceA_len (h : OnceA r m most now) : m.length = min r.length most.toNat := by
  have := congrArg List.length h.1
  simp [keysM] at this
  omega

theorem onceA_hit (h : OnceA r m most now) (hx : x ∉ r) : hitB m x = false := by
  refine hitB_no.2 (fun y hy hk => hx ?_)
  have : y.key ∈ keysM m := by simp [keysM]; exact ⟨y, hy, rfl⟩
  rw [h.1, hk] at this
  exact List.mem_of_mem_drop this

theorem onceB_hit (h : OnceB r m most now) (hx : x ∉ r) : hitB m x = false :=
  hitB_no.2 (fun y hy hk => hx (hk ▸ (h.2.1 y hy).2.2))

theorem once_out {n : Nat} (hm : m.length = min n most.toNat) (hh : hitB m x = false) (h1 : 1 ≤ most) : outB m most x = decide (most ≤ (n : Int)) := by
  unfold outB
  rw [hh, hm, Bool.not_false, Bool.true_and]
  by_cases h : most ≤ (n : Int)
  · rw [decide_eq_true h, decide_eq_true (by omega)]
  · rw [decide_eq_false h, decide_eq_false (by omega)]

theorem insI_first {y : Itm ByteArray} : ∀ {m : List (Itm ByteArray)}, (∀ z, m[0]? = some z → ltI y z = true) → insI y m = y :: m
  | [], _ => rfl
  | z :: r, h => by
    unfold insI
    rw [h z rfl, if_pos rfl]

theorem onceA_step (h : OnceA r m most now) (hx : x ∉ r) (h1 : 1 ≤ most) (hn : 0 ≤ now) : OnceA (r ++ [x]) (reqM m most now false x) most (now + 1) := by
  have hh := onceA_hit h hx
  have hlen := onceA_len h
  have hout := once_out (most := most) hlen hh h1
  obtain ⟨m', hm'⟩ : ∃ m', (if outB m most x then m.tail else m) = m' := ⟨_, rfl⟩
  have hsub : ∀ y ∈ m', y ∈ m := by
    intro y hy
    rw [← hm'] at hy
    split at hy
    · exact List.mem_of_mem_tail hy
    · exact hy
  have hno : ∀ y ∈ m', y.key ≠ x := fun y hy => hitB_no.1 hh y (hsub y hy)
  have ht : timesM m' x = 0 := times_zero (hitB_no.2 hno)
  have he : reqM m most now false x = m' ++ [⟨x, 1, now + 1, now + 1⟩] := by
    unfold reqM
    rw [hm']
    unfold askM setM
    rw [ht, remM_none hno]
    simp only [Bool.false_eq_true, if_false, Int.zero_add]
    refine insI_last _ _ (fun y hy => ?_)
    obtain ⟨a, b⟩ := h.2 y (hsub y hy)
    rw [ltI_no]
    simp only
    omega
  refine ⟨?_, fun y hy => ?_⟩
  · have hk' : keysM m' = r.drop ((r.length + 1) - most.toNat) := by
      rw [← hm', hout]
      by_cases hc : most ≤ (r.length : Int)
      · rw [decide_eq_true hc, if_pos rfl]
        have : keysM m.tail = (keysM m).tail := by simp [keysM]
        rw [this, h.1, List.tail_drop]
        congr 1
        omega
      · rw [decide_eq_false hc, if_neg (by simp), h.1]
        congr 1
        omega
    rw [he]
    have : keysM (m' ++ [(⟨x, 1, now + 1, now + 1⟩ : Itm ByteArray)]) = keysM m' ++ [x] := by simp [keysM]
    rw [this, hk', List.length_append, List.length_singleton, List.drop_append_of_le_length (by omega)]
  · rw [he] at hy
    rcases List.mem_append.1 hy with hy | hy
    · have := h.2 y (hsub y hy); omega
    · simp at hy; subst hy; exact ⟨rfl, Int.le_refl _⟩

theorem onceB_step (h : OnceB r m most now) (hx : x ∉ r) (h1 : 1 ≤ most) (hn : 0 ≤ now) : OnceB (r ++ [x]) (reqM m most now true x) most (now + 1) := by
  have hh := onceB_hit h hx
  have hlen := h.1
  have hout := once_out (most := most) hlen hh h1
  obtain ⟨m', hm'⟩ : ∃ m', (if outB m most x then m.tail else m) = m' := ⟨_, rfl⟩
  have hsub : ∀ y ∈ m', y ∈ m := by
    intro y hy
    rw [← hm'] at hy
    split at hy
    · exact List.mem_of_mem_tail hy
    · exact hy
  have hno : ∀ y ∈ m', y.key ≠ x := fun y hy => hitB_no.1 hh y (hsub y hy)
  have ht : timesM m' x = 0 := times_zero (hitB_no.2 hno)
  have he : reqM m most now true x = ⟨x, 1, -(now + 1), now + 1⟩ :: m' := by
    unfold reqM
    rw [hm']
    unfold askM setM
    rw [ht, remM_none hno]
    simp only [if_true, Int.zero_add]
    refine insI_first (fun y hy => ?_)
    obtain ⟨a, b, c⟩ := h.2.1 y (hsub y (List.mem_iff_getElem?.2 ⟨0, hy⟩))
    rw [ltI_iff]
    simp only
    omega
  refine ⟨?_, fun y hy => ?_, fun y hy => ?_⟩
  · rw [he, List.length_cons, List.length_append, List.length_singleton, ← hm', hout]
    by_cases hc : most ≤ (r.length : Int)
    · rw [decide_eq_true hc, if_pos rfl, List.length_tail]
      omega
    · rw [decide_eq_false hc, if_neg (by simp)]
      omega
  · rw [he] at hy
    rcases List.mem_cons.1 hy with rfl | hy
    · exact ⟨rfl, Int.le_refl _, by simp⟩
    · obtain ⟨a, b, c⟩ := h.2.1 y (hsub y hy)
      exact ⟨a, by omega, List.mem_append.2 (.inl c)⟩
  · rw [he] at hy
    simp at hy
    subst hy
    simp

/-- Who goes. -/
theorem onceA_vic (h : OnceA r m most now) (hx : x ∉ r) (h1 : 1 ≤ most) (ho : most ≤ (r.length : Int)) : r[r.length - most.toNat]? = some (vicS m most x) := by
  have hh := onceA_hit h hx
  have hlen := onceA_len h
  have hout := once_out (most := most) hlen hh h1
  unfold vicS
  rw [hout, decide_eq_true ho, if_pos rfl]
  cases m with
  | nil => simp at hlen; omega
  | cons y t =>
    have := congrArg (fun l => l[0]?) h.1
    simpa [keysM] using this.symm
theorem onceB_vic (h : OnceB r m most now) (hx : x ∉ r) (h1 : 1 ≤ most) (ho : most ≤ (r.length : Int)) : r[r.length - 1]? = some (vicS m most x) := by
  have hh := onceB_hit h hx
  have hlen := h.1
  have hout := once_out (most := most) hlen hh h1
  unfold vicS
  rw [hout, decide_eq_true ho, if_pos rfl]
  cases m with
  | nil => simp at hlen; omega
  | cons y t => exact h.2.2 y rfl

end Go.Proofs.Ytalnjkeajlbbpaa
