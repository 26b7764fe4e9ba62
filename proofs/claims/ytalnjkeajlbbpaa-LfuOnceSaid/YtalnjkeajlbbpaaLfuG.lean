/- One cache of the call's own; a row of its keys; a map of their times. -/
import Derived.Test.YtalnjkeajlbbpaaLfuF
namespace Go.Proofs.Ytalnjkeajlbbpaa
open Go.RowKit

variable {w0 w w' : World} {bc : Nat} {G S : Nat → Prop} {m : List (Itm ByteArray)} {most now : Int} {churn : Bool}

structure L1 (w0 w : World) (bc : Nat) (G : Nat → Prop) (m : List (Itm ByteArray)) (most now : Int) (churn : Bool) : Prop where
  a : LR w bc G m most now churn
  upd : Upd Non w0 w
  fa : ∀ k, G k → w0.heap.size ≤ k

theorem L1.non (l : L1 w0 w bc G m most now churn) (u : Upd Non w w') : L1 w0 w' bc G m most now churn := ⟨l.a.non u, l.upd.trans u (fun _ h => h.elim), l.fa⟩
theorem L1.step (l : L1 w0 w bc G m most now churn) {G' : Nat → Prop} {n : List (Itm ByteArray)} {x y : Int} (h : LR w' bc G' n x y churn) (u : Upd G w w') (q : Within w G G') : L1 w0 w' bc G' n x y churn :=
  ⟨h, l.upd.trans u (fun k hk => .inr (l.fa k hk)), fun k hk => (q k hk).elim (l.fa k) (fun e => Nat.le_trans l.upd.size e)⟩
theorem L1.other (l : L1 w0 w bc G m most now churn) (u : Upd S w w') (hs : ∀ k, G k → ¬ S k) (hf : ∀ k, S k → w0.heap.size ≤ k) : L1 w0 w' bc G m most now churn :=
  ⟨l.a.upd u hs, l.upd.trans u (fun k hk => .inr (hf k hk)), l.fa⟩

set_option maxHeartbeats 800000 in
theorem keys_lrF {F' : Nat → Prop} (h : LR w bc G m most now churn) (hl : now ≤ 1000000) (hF : ∀ k, F' k → k < w.heap.size) :
    Calls Try.prog 26 #[.pointer (some ⟨bc, 0, none⟩)] w fun e w' => ∃ av cap, e = .returned (.slice av m.length cap) ∧ Arr w' F' av 1 (strC (keysM m)) ∧ Upd Non w w' := by
  obtain ⟨bh, F, c, hG⟩ := h
  obtain ⟨c0, c1, c2, c3⟩ := c.cells
  have hO : Calls Try.prog 17 #[.pointer (some ⟨bh, 0, none⟩)] w fun e w' => ∃ av cap, e = .returned (.slice av m.length cap) ∧ Arr w' F' av 1 (strC (keysM m)) ∧ Upd Non w w' := by
    refine (order_hr c.hr (by have := c.len; omega)).mono fun e w' ⟨vo, he, hr, hu⟩ => ?_
    have e1 : keysV m = (keysM m).map Value.string := by simp [keysV, keysM]
    have e2 : m.length = (keysM m).length := by simp [keysM]
    rw [e1, e2] at hr
    obtain ⟨av, cap, rfl, ha⟩ := owned_arr hr (F := F') hF
    exact ⟨av, cap, by rw [he, e2], ha, hu⟩
  go_enter Try.func26, Try.ntmps26
  go_wp2_with fail
  refine hO.mono ?_
  rintro e w1 ⟨av, cap, rfl, ha, u⟩
  go_wp2_with fail
  go_ret
  exact ⟨av, cap, rfl, ha, u⟩

/-- The map of the times of the first keys. -/
def timesF (m : List (Itm ByteArray)) (sn : List ByteArray) : ByteArray → Option Value := fun k => if isIn k sn then some (.int .i64 (timesM m k)) else none

theorem times_put (m : List (Itm ByteArray)) (sn : List ByteArray) (x : ByteArray) : put (timesF m sn) x (.int .i64 (timesM m x)) = timesF m (sn ++ [x]) := by
  funext k
  unfold put timesF
  rw [isIn_snoc]
  by_cases hk : k = x
  · subst hk; simp
  · simp [hk, show ¬ x = k from fun e => hk e.symm]

theorem mem_keys {k : ByteArray} : k ∈ keysM m ↔ hitB m k = true := by
  rw [hitB_iff]
  simp [keysM]

/-- 'ahead[key]', of whatever key. -/
theorem times_look {bs n : Nat} (h : MapA SK w bs (timesF m (keysM m)) n) {x : ByteArray} (hx : x.size ≤ maxLen) (t : Int) (ht : timesM m x = t) :
    (Instr.lookup 54 (.map (some bs)) (.string x) false).run Try.prog w = .ok (.int .i64 t) w := by
  have := h.look1 Try.underlying54 (zero3 w) (a := x) hx
  rw [show (SK.val x) = Value.string x from rfl] at this
  rw [this, ← ht]
  unfold timesF
  cases hb : isIn x (keysM m) with
  | true => rfl
  | false =>
    have : hitB m x = false := by
      cases hh : hitB m x with
      | false => rfl
      | true => rw [isIn_iff.2 (mem_keys.2 hh)] at hb; cases hb
    rw [times_zero this]; rfl

theorem times_mem {y : Itm ByteArray} (hN : NoTwice m) (hy : y ∈ m) : timesM m y.key = y.one := by
  unfold timesM
  rw [nt_find hN hy]

theorem fresh_key2 (hN : NoTwice m) {i : Nat} {s : ByteArray} (h : (keysM m)[i]? = some s) : isIn s ((keysM m).take i) = false := by
  have h' := h
  simp only [keysM, List.getElem?_map] at h
  cases hz : m[i]? with
  | none => rw [hz] at h; cases h
  | some y =>
    rw [hz] at h
    simp only [Option.map_some, Option.some.injEq] at h
    rw [← h]
    exact fresh_key hN hz

theorem times_store {bs : Nat} {i : Nat} {s : ByteArray} (h : MapA SK w bs (timesF m ((keysM m).take i)) i) (hi : i ≤ 1000000) (hN : NoTwice m) (hs : (keysM m)[i]? = some s) (hx : s.size ≤ maxLen) (t : Int) (ht : timesM m s = t) :
    ∃ w', (Instr.mapUpdate 54 (.map (some bs)) (.string s) (.int .i64 t)).run Try.prog w = .ok () w' ∧ MapA SK w' bs (timesF m ((keysM m).take (i + 1))) (i + 1) ∧ Upd (fun k => k = bs) w w' := by
  obtain ⟨w', hr, hm, hu⟩ := h.store Try.underlying54 (by unfold maxLen; omega) (a := s) hx (.int .i64 t)
  refine ⟨w', hr, ?_, turned_upd hu⟩
  rw [← ht, times_put, ← take_snoc hs, show (timesF m ((keysM m).take i) s).isSome = false by simp [timesF, fresh_key2 hN hs]] at hm
  simpa using hm

/-- The first one's times are the fewest. -/
theorem head_least {y z : Itm ByteArray} {r : List (Itm ByteArray)} (h : SortedS (y :: r)) (hz : z ∈ y :: r) : y.one ≤ z.one := by
  rcases List.mem_cons.1 hz with rfl | hz
  · exact Int.le_refl _
  · have := (List.pairwise_cons.1 h).1 z hz
    rw [ltI_iff] at this
    omega

end Go.Proofs.Ytalnjkeajlbbpaa
