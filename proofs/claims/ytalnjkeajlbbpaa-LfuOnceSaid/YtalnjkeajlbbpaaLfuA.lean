/- lfu.Cache over its heap: what it is in memory; the methods that only pass on. -/
import Derived.Test.YtalnjkeajlbbpaaPop
import Derived.Laws.Small
namespace Go.Proofs.Ytalnjkeajlbbpaa
open Go.RowKit

def timesM (m : List (Itm ByteArray)) (k : ByteArray) : Int := match findM m k with
  | some y => y.one
  | none => 0

structure LC (w : World) (bc bh : Nat) (F : Nat → Prop) (m : List (Itm ByteArray)) (most now : Int) (churn : Bool) : Prop where
  box : Blk w bc #[.int .i64 most, .int .i64 now, .bool churn, .pointer (some ⟨bh, 0, none⟩)] 113
  hr : HR w bh F m now
  no : ¬ F bc
  nn : 0 ≤ now
  m0 : 0 ≤ most
  len : (m.length : Int) ≤ now
  ones : ∀ y ∈ m, 1 ≤ y.one ∧ y.one ≤ now
  twos : ∀ y ∈ m, y.two = if churn then -y.came else y.came

/-- The cache at bc; G: its blocks. -/
def LR (w : World) (bc : Nat) (G : Nat → Prop) (m : List (Itm ByteArray)) (most now : Int) (churn : Bool) : Prop :=
  ∃ bh F, LC w bc bh F m most now churn ∧ ∀ k, (F k ∨ k = bc) ↔ G k

variable {w w' : World} {bc : Nat} {G S : Nat → Prop} {m : List (Itm ByteArray)} {most now : Int} {churn : Bool}

theorem LC.upd {bh : Nat} {F : Nat → Prop} (h : LC w bc bh F m most now churn) (u : Upd S w w') (h1 : ∀ k, F k → ¬ S k) (h2 : ¬ S bc) : LC w' bc bh F m most now churn :=
  ⟨h.box.upd u h2, h.hr.upd u h1, h.no, h.nn, h.m0, h.len, h.ones, h.twos⟩
theorem LR.upd (h : LR w bc G m most now churn) (u : Upd S w w') (hs : ∀ k, G k → ¬ S k) : LR w' bc G m most now churn := by
  obtain ⟨bh, F, c, hG⟩ := h
  exact ⟨bh, F, c.upd u (fun k hk => hs k ((hG k).1 (.inl hk))) (hs bc ((hG bc).1 (.inr rfl))), hG⟩
theorem LR.non (h : LR w bc G m most now churn) (u : Upd Non w w') : LR w' bc G m most now churn := h.upd u (fun _ _ => id)
theorem LR.lt (h : LR w bc G m most now churn) : ∀ k, G k → k < w.heap.size := by
  obtain ⟨bh, F, c, hG⟩ := h
  intro k hk
  rcases (hG k).2 hk with hk | rfl
  · exact c.hr.lt k hk
  · exact c.box.lt
theorem LR.nn (h : LR w bc G m most now churn) : 0 ≤ now ∧ 0 ≤ most ∧ (m.length : Int) ≤ now := by obtain ⟨bh, F, c, hG⟩ := h; exact ⟨c.nn, c.m0, c.len⟩
theorem LR.ones (h : LR w bc G m most now churn) : ∀ y ∈ m, 1 ≤ y.one ∧ y.one ≤ now := by obtain ⟨bh, F, c, hG⟩ := h; exact c.ones
theorem LR.twos (h : LR w bc G m most now churn) : ∀ y ∈ m, y.two = if churn then -y.came else y.came := by obtain ⟨bh, F, c, hG⟩ := h; exact c.twos
theorem LR.nt (h : LR w bc G m most now churn) : NoTwice m := by obtain ⟨bh, F, c, hG⟩ := h; exact c.hr.nt
theorem LR.sorted (h : LR w bc G m most now churn) : SortedS m := by obtain ⟨bh, F, c, hG⟩ := h; exact c.hr.sorted
theorem LR.came (h : LR w bc G m most now churn) : ∀ y ∈ m, y.came ≤ now := by obtain ⟨bh, F, c, hG⟩ := h; exact c.hr.came
theorem LR.ok (h : LR w bc G m most now churn) : ∀ y ∈ m, y.key.size ≤ maxLen := by obtain ⟨bh, F, c, hG⟩ := h; exact c.hr.ok

theorem times_range (h : ∀ y ∈ m, 1 ≤ y.one ∧ y.one ≤ now) (hn : 0 ≤ now) (k : ByteArray) : 0 ≤ timesM m k ∧ timesM m k ≤ now ∧ decide (0 < timesM m k) = (findM m k).isSome := by
  unfold timesM
  cases hf : findM m k with
  | none => simp; exact hn
  | some y =>
    have := h y (findM_mem hf).1
    simp only [Option.isSome_some, decide_eq_true_eq]
    omega

/-- The walk of a method reads these. -/
theorem LC.cells {bh : Nat} {F : Nat → Prop} (h : LC w bc bh F m most now churn) : w.cell? ⟨bc, 0, none⟩ = some (.int .i64 most) ∧ w.cell? ⟨bc, 1, none⟩ = some (.int .i64 now) ∧ w.cell? ⟨bc, 2, none⟩ = some (.bool churn) ∧ w.cell? ⟨bc, 3, none⟩ = some (.pointer (some ⟨bh, 0, none⟩)) :=
  ⟨h.box.cell 0 rfl, h.box.cell 1 rfl, h.box.cell 2 rfl, h.box.cell 3 rfl⟩

/-- The heap has turned, the rest not. -/
theorem LC.heap {bh : Nat} {F F' : Nat → Prop} {m' : List (Itm ByteArray)} (h : LC w bc bh F m most now churn) (h' : HR w' bh F' m' now) (u : Upd F w w') (q : Within w F F') (hm : ∀ y ∈ m', y ∈ m) (hl : m'.length ≤ m.length) : LC w' bc bh F' m' most now churn :=
  ⟨h.box.upd u h.no, h', q.no h.no h.box.lt, h.nn, h.m0, by have := h.len; omega, fun y hy => h.ones y (hm y hy), fun y hy => h.twos y (hm y hy)⟩

theorem lr_heap {bh : Nat} {F F' : Nat → Prop} {m' : List (Itm ByteArray)} (h : LC w bc bh F m most now churn) (hG : ∀ k, (F k ∨ k = bc) ↔ G k) (h' : HR w' bh F' m' now) (u : Upd F w w') (q : Within w F F') (hm : ∀ y ∈ m', y ∈ m) (hl : m'.length ≤ m.length) :
    ∃ G', LR w' bc G' m' most now churn ∧ Upd G w w' ∧ Within w G G' :=
  ⟨fun k => F' k ∨ k = bc, ⟨bh, F', h.heap h' u q hm hl, fun _ => Iff.rfl⟩, u.mono (fun k hk => .inl ((hG k).1 (.inl hk))), fun k hk => hk.elim (fun hk => (q k hk).imp (fun h => (hG k).1 (.inl h)) id) (fun e => .inl ((hG k).1 (.inr e)))⟩

theorem max_is (y : Int) (ts : Array TypeId) (t : TypeId) (W : World) : (Builtin.max_ ts t #[.int .i64 y, .int .i64 0]).run Try.prog W = .ok (.int .i64 (max y 0)) W := by
  rw [run_max_int2]
  have : (if (0 : Int) > y then 0 else y) = max y 0 := by split <;> omega
  rw [this]

set_option maxHeartbeats 800000 in
theorem new_lr (w : World) (most : Int) (churn : Bool) :
    Calls Try.prog 25 #[.int .i64 most, .bool churn] w fun e w' => ∃ bc G, e = .returned (.pointer (some ⟨bc, 0, none⟩)) ∧ LR w' bc G [] (max most 0) 0 churn ∧ Upd Non w w' ∧ ∀ k, G k → w.heap.size ≤ k := by
  have hmx := max_is most
  have hm0 : 0 ≤ max most 0 := by omega
  generalize max most 0 = mm at hmx hm0 ⊢
  go_enter Try.func25, Try.ntmps25
  go_wp2_with fail
  refine (new_hr _).mono ?_
  rintro e w1 ⟨bh, F, rfl, h, u, hF⟩
  go_wp2_with fail
  go_ret
  have hno : ¬ F w1.heap.size := fun hk => by have := h.lt _ hk; omega
  refine ⟨w1.heap.size, fun k => F k ∨ k = w1.heap.size, rfl, ⟨bh, F, ⟨Blk.new w1 _ _, h.non ((Upd.refl Non w1).alloc _), hno, by omega, hm0, by simp, by simp, by simp⟩, fun _ => Iff.rfl⟩, u.alloc _, fun k hk => ?_⟩
  rcases hk with hk | rfl
  · exact hF k hk
  · exact u.size

set_option maxHeartbeats 800000 in
theorem len_lr (h : LR w bc G m most now churn) :
    Calls Try.prog 29 #[.pointer (some ⟨bc, 0, none⟩)] w fun e w' => e = .returned (.int .i64 m.length) ∧ w = w' := by
  obtain ⟨bh, F, c, hG⟩ := h
  obtain ⟨c0, c1, c2, c3⟩ := c.cells
  go_enter Try.func29, Try.ntmps29
  go_wp2_with fail
  refine (len_hr c.hr).mono ?_
  rintro e w1 ⟨rfl, rfl⟩
  go_wp2_with fail
  go_ret
  exact ⟨rfl, rfl⟩

set_option maxHeartbeats 800000 in
theorem times_raw {bh : Nat} {F : Nat → Prop} {came : Int} (c3 : w.cell? ⟨bc, 3, none⟩ = some (.pointer (some ⟨bh, 0, none⟩))) (hr : HR w bh F m came) (hl : m.length ≤ 1000000) {key : ByteArray} (hk : key.size ≤ maxLen) (t : Int) (ht : timesM m key = t) :
    Calls Try.prog 27 #[.pointer (some ⟨bc, 0, none⟩), .string key] w fun e w' => e = .returned (.int .i64 t) ∧ Upd Non w w' := by
  have hR : ∃ (r1 r2 : Int) (b : Bool), rankV (findM m key) = .tuple #[.agg #[.int .i64 r1, .int .i64 r2], .bool b] ∧ r1 = t := by
    unfold timesM at ht
    cases hf : findM m key with
    | none => rw [hf] at ht; exact ⟨0, 0, false, rfl, ht⟩
    | some y => rw [hf] at ht; exact ⟨y.one, y.two, true, rfl, ht⟩
  obtain ⟨r1, r2, b, hv, rfl⟩ := hR
  have HC := rank_hr hr hl hk _ hv
  clear hv ht
  go_enter Try.func27, Try.ntmps27
  go_wp2_with fail
  refine HC.mono ?_
  rintro e w1 ⟨rfl, u⟩
  go_wp2_with fail
  go_ret
  exact ⟨rfl, u.alloc _⟩

theorem times_lr (h : LR w bc G m most now churn) (hl : now ≤ 1000000) {key : ByteArray} (hk : key.size ≤ maxLen) (t : Int) (ht : timesM m key = t) :
    Calls Try.prog 27 #[.pointer (some ⟨bc, 0, none⟩), .string key] w fun e w' => e = .returned (.int .i64 t) ∧ Upd Non w w' := by
  obtain ⟨bh, F, c, hG⟩ := h
  exact times_raw c.cells.2.2.2 c.hr (by have := c.len; omega) hk t ht

set_option maxHeartbeats 800000 in
theorem has_lr (h : LR w bc G m most now churn) (hl : now ≤ 1000000) {key : ByteArray} (hk : key.size ≤ maxLen) (b : Bool) (hb : (findM m key).isSome = b) :
    Calls Try.prog 31 #[.pointer (some ⟨bc, 0, none⟩), .string key] w fun e w' => e = .returned (.bool b) ∧ Upd Non w w' := by
  obtain ⟨t1, t2, t3⟩ := times_range h.ones h.nn.1 key
  have HC := times_lr h hl hk _ rfl
  rw [hb] at t3
  generalize timesM m key = t at HC t1 t2 t3
  clear hb
  subst t3
  go_enter Try.func31, Try.ntmps31
  go_wp2_with fail
  refine HC.mono ?_
  rintro e w1 ⟨rfl, u⟩
  go_wp2_with fail
  go_ret
  exact ⟨rfl, u⟩

set_option maxHeartbeats 800000 in
theorem drop_lr (h : LR w bc G m most now churn) (hl : now ≤ 1000000) (s : ByteArray) (b : Bool) (hv : popV m = .tuple #[.string s, .bool b]) :
    Calls Try.prog 41 #[.pointer (some ⟨bc, 0, none⟩)] w fun e w' => e = .returned (.tuple #[.string s, .bool b]) ∧ ∃ G', LR w' bc G' m.tail most now churn ∧ Upd G w w' ∧ Within w G G' := by
  obtain ⟨bh, F, c, hG⟩ := h
  obtain ⟨c0, c1, c2, c3⟩ := c.cells
  have HC := pop_hr c.hr (by have := c.len; omega) _ hv
  clear hv
  go_enter Try.func41, Try.ntmps41
  go_wp2_with fail
  refine HC.mono ?_
  rintro e w1 ⟨rfl, F', h', u, q⟩
  go_wp2_with fail
  go_ret2
  exact ⟨rfl, lr_heap c hG h' u q (fun y hy => List.mem_of_mem_tail hy) (by simp)⟩

set_option maxHeartbeats 800000 in
theorem remove_lr (h : LR w bc G m most now churn) (hl : now ≤ 1000000) {key : ByteArray} (hk : key.size ≤ maxLen) (b : Bool) (hb : (findM m key).isSome = b) :
    Calls Try.prog 32 #[.pointer (some ⟨bc, 0, none⟩), .string key] w fun e w' => e = .returned (.bool b) ∧ ∃ G', LR w' bc G' (remM m key) most now churn ∧ Upd G w w' ∧ Within w G G' := by
  obtain ⟨bh, F, c, hG⟩ := h
  obtain ⟨c0, c1, c2, c3⟩ := c.cells
  have HC := rem_hr c.hr (by have := c.len; omega) hk b hb
  clear hb
  go_enter Try.func32, Try.ntmps32
  go_wp2_with fail
  refine HC.mono ?_
  rintro e w1 ⟨rfl, F', h', u, q⟩
  go_wp2_with fail
  go_ret
  exact ⟨rfl, lr_heap c hG h' u q (fun y hy => (remM_sub m key).mem hy) (remM_len m key)⟩

set_option maxHeartbeats 800000 in
theorem victim_lr (h : LR w bc G m most now churn) (hl : now ≤ 1000000) (s : ByteArray) (b : Bool) (hv : popV m = .tuple #[.string s, .bool b]) :
    Calls Try.prog 45 #[.pointer (some ⟨bc, 0, none⟩)] w fun e w' => e = .returned (.tuple #[.string s, .bool b]) ∧ Upd Non w w' := by
  obtain ⟨bh, F, c, hG⟩ := h
  obtain ⟨c0, c1, c2, c3⟩ := c.cells
  have hR : ∃ (r1 r2 : Int), leastV m = .tuple #[.string s, .agg #[.int .i64 r1, .int .i64 r2], .bool b] := by
    cases m with
    | nil => simp only [popV, Value.tuple.injEq] at hv; exact ⟨0, 0, by simp at hv; simp [leastV, ← hv.1, ← hv.2]⟩
    | cons y r => exact ⟨y.one, y.two, by simp [popV] at hv; simp [leastV, ← hv.1, ← hv.2]⟩
  obtain ⟨r1, r2, hr⟩ := hR
  have HC := least_hr c.hr (by have := c.len; omega) _ hr
  clear hv hr
  go_enter Try.func45, Try.ntmps45
  go_wp2_with fail
  refine HC.mono ?_
  rintro e w1 ⟨rfl, u⟩
  go_wp2_with fail
  go_ret2
  exact ⟨rfl, u.alloc _⟩

set_option maxHeartbeats 800000 in
theorem keys_lr (h : LR w bc G m most now churn) (hl : now ≤ 1000000) :
    Calls Try.prog 26 #[.pointer (some ⟨bc, 0, none⟩)] w fun e w' => ∃ av cap, e = .returned (.slice av m.length cap) ∧ Arr w' G av 1 (strC (keysM m)) ∧ Upd Non w w' := by
  have hlt := h.lt
  obtain ⟨bh, F, c, hG⟩ := h
  obtain ⟨c0, c1, c2, c3⟩ := c.cells
  have hO : Calls Try.prog 17 #[.pointer (some ⟨bh, 0, none⟩)] w fun e w' => ∃ av cap, e = .returned (.slice av m.length cap) ∧ Arr w' G av 1 (strC (keysM m)) ∧ Upd Non w w' := by
    refine (order_hr c.hr (by have := c.len; omega)).mono fun e w' ⟨vo, he, hr, hu⟩ => ?_
    have e1 : keysV m = (keysM m).map Value.string := by simp [keysV, keysM]
    have e2 : m.length = (keysM m).length := by simp [keysM]
    rw [e1, e2] at hr
    obtain ⟨av, cap, rfl, ha⟩ := owned_arr hr (F := G) hlt
    exact ⟨av, cap, by rw [he, e2], ha, hu⟩
  go_enter Try.func26, Try.ntmps26
  go_wp2_with fail
  refine hO.mono ?_
  rintro e w1 ⟨av, cap, rfl, ha, u⟩
  go_wp2_with fail
  go_ret
  exact ⟨av, cap, rfl, ha, u⟩

set_option maxHeartbeats 800000 in
theorem ghosts_lr (w : World) (v : Value) :
    Calls Try.prog 48 #[v] w fun e w' => e = .returned (.slice none 0 0) ∧ w = w' := by
  go_enter Try.func48, Try.ntmps48
  go_wp2_with fail
  go_ret
  exact ⟨rfl, rfl⟩

end Go.Proofs.Ytalnjkeajlbbpaa
