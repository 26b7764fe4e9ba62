/- lfu.Cache: Request in one contract; what it does to the items. -/
import Derived.Test.YtalnjkeajlbbpaaLfuE
namespace Go.Proofs.Ytalnjkeajlbbpaa
open Go.RowKit

variable {w w' : World} {bc : Nat} {G S : Nat → Prop} {m : List (Itm ByteArray)} {most now : Int} {churn : Bool}

def hitB (m : List (Itm ByteArray)) (key : ByteArray) : Bool := (findM m key).isSome
def outB (m : List (Itm ByteArray)) (most : Int) (key : ByteArray) : Bool := !hitB m key && decide (most ≤ (m.length : Int))
def vicS (m : List (Itm ByteArray)) (most : Int) (key : ByteArray) : ByteArray := if outB m most key then (match m with | y :: _ => y.key | [] => ⟨#[]⟩) else ⟨#[]⟩
def reqM (m : List (Itm ByteArray)) (most now : Int) (churn : Bool) (key : ByteArray) : List (Itm ByteArray) := askM (if outB m most key then m.tail else m) now churn key

theorem request_lr (h : LR w bc G m most now churn) (hl : now ≤ 900000) (h0 : 0 < most) {key : ByteArray} (hk : key.size ≤ maxLen) (hit : Bool) (hh : hitB m key = hit) (s : ByteArray) (hs : vicS m most key = s) (out : Bool) (ho : outB m most key = out) :
    Calls Try.prog 28 #[.pointer (some ⟨bc, 0, none⟩), .string key] w fun e w' => e = .returned (.agg #[.bool hit, .string s, .bool out]) ∧ ∃ G', LR w' bc G' (reqM m most now churn key) most (now + 1) churn ∧ Upd G w w' ∧ Within w G G' := by
  subst hh hs
  cases out with
  | true =>
    have h1 : hitB m key = false ∧ most ≤ (m.length : Int) := by simpa [outB] using ho
    cases m with
    | nil => have h2 := h1.2; simp only [List.length_nil, Int.natCast_zero] at h2; omega
    | cons y r =>
      rw [h1.1]
      unfold reqM vicS
      rw [ho]
      exact request_out h hl h0 hk h1.1 h1.2
  | false =>
    unfold reqM vicS
    rw [ho]
    refine request_in h hl h0 hk _ rfl ?_
    cases hb : hitB m key with
    | true => exact .inl rfl
    | false =>
      refine .inr ?_
      have := ho
      simp only [outB, hb, Bool.not_false, Bool.true_and, decide_eq_false_iff_not] at this
      omega

theorem nt_find {y : Itm ByteArray} (h : NoTwice m) (hy : y ∈ m) : findM m y.key = some y := findM_some h hy rfl

theorem ask_mem (key : ByteArray) : (⟨key, timesM m key + 1, if churn then -(now + 1) else now + 1, now + 1⟩ : Itm ByteArray) ∈ askM m now churn key := by
  unfold askM setM
  exact (insI_perm _ _).mem_iff.2 (by simp)
theorem ask_times {key : ByteArray} (h : NoTwice (askM m now churn key)) : timesM (askM m now churn key) key = timesM m key + 1 := by
  have := nt_find h (ask_mem key)
  unfold timesM at this ⊢
  rw [this]

theorem remM_times (k : ByteArray) : timesM (remM m k) k = 0 := by
  unfold timesM
  rw [(remM_again m k).1]

theorem hitB_iff {key : ByteArray} : hitB m key = true ↔ ∃ y ∈ m, y.key = key := by
  unfold hitB
  rw [Option.isSome_iff_exists]
  constructor
  · rintro ⟨y, hy⟩; exact ⟨y, findM_mem hy⟩
  · rintro ⟨y, hy, hk⟩
    cases hf : findM m key with
    | some z => exact ⟨z, rfl⟩
    | none => exact absurd hk (findM_no hf y hy)
theorem hitB_no {key : ByteArray} : hitB m key = false ↔ ∀ y ∈ m, y.key ≠ key := by
  cases hb : hitB m key with
  | true => obtain ⟨y, hy, hk⟩ := hitB_iff.1 hb; simp; exact ⟨y, hy, hk⟩
  | false => simp only [true_iff]; exact fun y hy hk => by have := hitB_iff.2 ⟨y, hy, hk⟩; rw [hb] at this; cases this
theorem times_zero {key : ByteArray} (h : hitB m key = false) : timesM m key = 0 := by
  unfold timesM
  rw [findM_none (hitB_no.1 h)]
theorem hit_len {key : ByteArray} (hN : NoTwice m) (h : hitB m key = true) : (remM m key).length + 1 = m.length := by
  obtain ⟨y, hy, hk⟩ := hitB_iff.1 h
  have := (filter_one m y hN hy).length_eq
  rw [hk] at this
  simpa using this.symm
theorem ask_len (key : ByteArray) : (askM m now churn key).length = (remM m key).length + 1 := by
  unfold askM setM
  rw [(insI_perm _ _).length_eq]; rfl

theorem req_len {key : ByteArray} (hN : NoTwice m) (h0 : 0 < most) (hm : (m.length : Int) ≤ most) : ((reqM m most now churn key).length : Int) ≤ most := by
  unfold reqM
  rw [ask_len]
  cases hb : outB m most key with
  | true =>
    rw [if_pos rfl]
    have := remM_len m.tail key
    simp only [List.length_tail] at this
    omega
  | false =>
    rw [if_neg (by simp)]
    cases hh : hitB m key with
    | true => have := hit_len hN hh; omega
    | false =>
      simp only [outB, hh, Bool.not_false, Bool.true_and, decide_eq_false_iff_not] at hb
      have := remM_len m key
      omega

theorem req_times {key : ByteArray} (hN : NoTwice (reqM m most now churn key)) : timesM (reqM m most now churn key) key = timesM m key + 1 := by
  unfold reqM at hN ⊢
  rw [ask_times hN]
  cases ho : outB m most key with
  | false => rw [if_neg (by simp)]
  | true =>
    rw [if_pos rfl]
    have hh : hitB m key = false := by
      cases hb : hitB m key with
      | false => rfl
      | true => rw [outB, hb] at ho; simp at ho
    have ht : hitB m.tail key = false := hitB_no.2 (fun y hy => hitB_no.1 hh y (List.mem_of_mem_tail hy))
    rw [times_zero hh, times_zero ht]

end Go.Proofs.Ytalnjkeajlbbpaa
