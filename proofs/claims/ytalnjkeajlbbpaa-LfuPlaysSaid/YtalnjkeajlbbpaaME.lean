/- Texts merged by merge.py: LfuA, LfuB, LfuC, LfuD. -/
import Derived.Test.YtalnjkeajlbbpaaMD
import Derived.Laws.Small
import Derived.Deep.RegionHeld3
import Derived.Deep.QuietTactic
import Derived.BigQuiet

/- lfu.Cache over its heap: what it is in memory; the methods that only pass on. -/
namespace Go.Proofs.Ytalnjkeajlbbpaa
open Go.RowKit

def timesM (m : List (Itm ByteArray)) (k : ByteArray) : Int := match findM m k with
  | some y => y.one
  | none => 0

structure LC (w : World) (bc bh : Nat) (F : Nat → Prop) (m : List (Itm ByteArray)) (most now : Int) (churn : Bool) : Prop where
  box : Blk w bc #[.int .i64 most, .int .i64 now, .bool churn, .pointer (some ⟨bh, 0, none⟩)] 113
  hr : HR w bh F m now
  no : ¬ F bc
  nn : 0 ≤ now
  m0 : 0 ≤ most
  len : (m.length : Int) ≤ now
  ones : ∀ y ∈ m, 1 ≤ y.one ∧ y.one ≤ now
  twos : ∀ y ∈ m, y.two = if churn then -y.came else y.came

/-- The cache at bc; G: its blocks. -/
def LR (w : World) (bc : Nat) (G : Nat → Prop) (m : List (Itm ByteArray)) (most now : Int) (churn : Bool) : Prop :=
  ∃ bh F, LC w bc bh F m most now churn ∧ ∀ k, (F k ∨ k = bc) ↔ G k

variable {w w' : World} {bc : Nat} {G S : Nat → Prop} {m : List (Itm ByteArray)} {most now : Int} {churn : Bool}

theorem LC.upd {bh : Nat} {F : Nat → Prop} (h : LC w bc bh F m most now churn) (u : Upd S w w') (h1 : ∀ k, F k → ¬ S k) (h2 : ¬ S bc) : LC w' bc bh F m most now churn :=
  ⟨h.box.upd u h2, h.hr.upd u h1, h.no, h.nn, h.m0, h.len, h.ones, h.twos⟩
theorem LR.upd (h : LR w bc G m most now churn) (u : Upd S w w') (hs : ∀ k, G k → ¬ S k) : LR w' bc G m most now churn := by
  obtain ⟨bh, F, c, hG⟩ := h
  exact ⟨bh, F, c.upd u (fun k hk => hs k ((hG k).1 (.inl hk))) (hs bc ((hG bc).1 (.inr rfl))), hG⟩
theorem LR.non (h : LR w bc G m most now churn) (u : Upd Non w w') : LR w' bc G m most now churn := h.upd u (fun _ _ => id)
theorem LR.lt (h : LR w bc G m most now churn) : ∀ k, G k → k < w.heap.size := by
  obtain ⟨bh, F, c, hG⟩ := h
  intro k hk
  rcases (hG k).2 hk with hk | rfl
  · exact c.hr.lt k hk
  · exact c.box.lt
theorem LR.nn (h : LR w bc G m most now churn) : 0 ≤ now ∧ 0 ≤ most ∧ (m.length : Int) ≤ now := by obtain ⟨bh, F, c, hG⟩ := h; exact ⟨c.nn, c.m0, c.len⟩
theorem LR.ones (h : LR w bc G m most now churn) : ∀ y ∈ m, 1 ≤ y.one ∧ y.one ≤ now := by obtain ⟨bh, F, c, hG⟩ := h; exact c.ones
theorem LR.twos (h : LR w bc G m most now churn) : ∀ y ∈ m, y.two = if churn then -y.came else y.came := by obtain ⟨bh, F, c, hG⟩ := h; exact c.twos
theorem LR.nt (h : LR w bc G m most now churn) : NoTwice m := by obtain ⟨bh, F, c, hG⟩ := h; exact c.hr.nt
theorem LR.sorted (h : LR w bc G m most now churn) : SortedS m := by obtain ⟨bh, F, c, hG⟩ := h; exact c.hr.sorted
theorem LR.came (h : LR w bc G m most now churn) : ∀ y ∈ m, y.came ≤ now := by obtain ⟨bh, F, c, hG⟩ := h; exact c.hr.came
theorem LR.ok (h : LR w bc G m most now churn) : ∀ y ∈ m, y.key.size ≤ maxLen := by obtain ⟨bh, F, c, hG⟩ := h; exact c.hr.ok

theorem times_range (h : ∀ y ∈ m, 1 ≤ y.one ∧ y.one ≤ now) (hn : 0 ≤ now) (k : ByteArray) : 0 ≤ timesM m k ∧ timesM m k ≤ now ∧ decide (0 < timesM m k) = (findM m k).isSome := by
  unfold timesM
  cases hf : findM m k with
  | none => simp; exact hn
  | some y =>
    have := h y (findM_mem hf).1
    simp only [Option.isSome_some, decide_eq_true_eq]
    omega

/-- The walk of a method reads these. -/
theorem LC.cells {bh : Nat} {F : Nat → Prop} (h : LC w bc bh F m most now churn) : w.cell? ⟨bc, 0, none⟩ = some (.int .i64 most) ∧ w.cell? ⟨bc, 1, none⟩ = some (.int .i64 now) ∧ w.cell? ⟨bc, 2, none⟩ = some (.bool churn) ∧ w.cell? ⟨bc, 3, none⟩ = some (.pointer (some ⟨bh, 0, none⟩)) :=
  ⟨h.box.cell 0 rfl, h.box.cell 1 rfl, h.box.cell 2 rfl, h.box.cell 3 rfl⟩

/-- The heap has turned, the rest not. -/
theorem LC.heap {bh : Nat} {F F' : Nat → Prop} {m' : List (Itm ByteArray)} (h : LC w bc bh F m most now churn) (h' : HR w' bh F' m' now) (u : Upd F w w') (q : Within w F F') (hm : ∀ y ∈ m', y ∈ m) (hl : m'.length ≤ m.length) : LC w' bc bh F' m' most now churn :=
  ⟨h.box.upd u h.no, h', q.no h.no h.box.lt, h.nn, h.m0, by have := h.len; omega, fun y hy => h.ones y (hm y hy), fun y hy => h.twos y (hm y hy)⟩

theorem lr_heap {bh : Nat} {F F' : Nat → Prop} {m' : List (Itm ByteArray)} (h : LC w bc bh F m most now churn) (hG : ∀ k, (F k ∨ k = bc) ↔ G k) (h' : HR w' bh F' m' now) (u : Upd F w w') (q : Within w F F') (hm : ∀ y ∈ m', y ∈ m) (hl : m'.length ≤ m.length) :
    ∃ G', LR w' bc G' m' most now churn ∧ Upd G w w' ∧ Within w G G' :=
  ⟨fun k => F' k ∨ k = bc, ⟨bh, F', h.heap h' u q hm hl, fun _ => Iff.rfl⟩, u.mono (fun k hk => .inl ((hG k).1 (.inl hk))), fun k hk => hk.elim (fun hk => (q k hk).imp (fun h => (hG k).1 (.inl h)) id) (fun e => .inl ((hG k).1 (.inr e)))⟩

theorem max_is (y : Int) (ts : Array TypeId) (t : TypeId) (W : World) : (Builtin.max_ ts t #[.int .i64 y, .int .i64 0]).run Try.prog W = .ok (.int .i64 (max y 0)) W := by
  rw [run_max_int2]
  have : (if (0 : Int) > y then 0 else y) = max y 0 := by split <;> omega
  rw [this]

set_option maxHeartbeats 800000 in
theorem new_lr (w : World) (most : Int) (churn : Bool) :
    Calls Try.prog 25 #[.int .i64 most, .bool churn] w fun e w' => ∃ bc G, e = .returned (.pointer (some ⟨bc, 0, none⟩)) ∧ LR w' bc G [] (max most 0) 0 churn ∧ Upd Non w w' ∧ ∀ k, G k → w.heap.size ≤ k := by
  have hmx := max_is most
  have hm0 : 0 ≤ max most 0 := by omega
  generalize max most 0 = mm at hmx hm0 ⊢
  go_enter Try.func25, Try.ntmps25
  go_wp2_with fail
  refine (new_hr _).mono ?_
  rintro e w1 ⟨bh, F, rfl, h, u, hF⟩
  go_wp2_with fail
  go_ret
  have hno : ¬ F w1.heap.size := fun hk => by have := h.lt _ hk; omega
  refine ⟨w1.heap.size, fun k => F k ∨ k = w1.heap.size, rfl, ⟨bh, F, ⟨Blk.new w1 _ _, h.non ((Upd.refl Non w1).alloc _), hno, by omega, hm0, by simp, by simp, by simp⟩, fun _ => Iff.rfl⟩, u.alloc _, fun k hk => ?_⟩
  rcases hk with hk | rfl
  · exact hF k hk
  · exact u.size

set_option maxHeartbeats 800000 in
theorem len_lr (h : LR w bc G m most now churn) :
    Calls Try.prog 29 #[.pointer (some ⟨bc, 0, none⟩)] w fun e w' => e = .returned (.int .i64 m.length) ∧ w = w' := by
  obtain ⟨bh, F, c, hG⟩ := h
  obtain ⟨c0, c1, c2, c3⟩ := c.cells
  go_enter Try.func29, Try.ntmps29
  go_wp2_with fail
  refine (len_hr c.hr).mono ?_
  rintro e w1 ⟨rfl, rfl⟩
  go_wp2_with fail
  go_ret
  exact ⟨rfl, rfl⟩

set_option maxHeartbeats 800000 in
theorem times_raw {bh : Nat} {F : Nat → Prop} {came : Int} (c3 : w.cell? ⟨bc, 3, none⟩ = some (.pointer (some ⟨bh, 0, none⟩))) (hr : HR w bh F m came) (hl : m.length ≤ 1000000) {key : ByteArray} (hk : key.size ≤ maxLen) (t : Int) (ht : timesM m key = t) :
    Calls Try.prog 27 #[.pointer (some ⟨bc, 0, none⟩), .string key] w fun e w' => e = .returned (.int .i64 t) ∧ Upd Non w w' := by
  have hR : ∃ (r1 r2 : Int) (b : Bool), rankV (findM m key) = .tuple #[.agg #[.int .i64 r1, .int .i64 r2], .bool b] ∧ r1 = t := by
    unfold timesM at ht
    cases hf : findM m key with
    | none => rw [hf] at ht; exact ⟨0, 0, false, rfl, ht⟩
    | some y => rw [hf] at ht; exact ⟨y.one, y.two, true, rfl, ht⟩
  obtain ⟨r1, r2, b, hv, rfl⟩ := hR
  have HC := rank_hr hr hl hk _ hv
  clear hv ht
  go_enter Try.func27, Try.ntmps27
  go_wp2_with fail
  refine HC.mono ?_
  rintro e w1 ⟨rfl, u⟩
  go_wp2_with fail
  go_ret
  exact ⟨rfl, u.alloc _⟩

theorem times_lr (h : LR w bc G m most now churn) (hl : now ≤ 1000000) {key : ByteArray} (hk : key.size ≤ maxLen) (t : Int) (ht : timesM m key = t) :
    Calls Try.prog 27 #[.pointer (some ⟨bc, 0, none⟩), .string key] w fun e w' => e = .returned (.int .i64 t) ∧ Upd Non w w' := by
  obtain ⟨bh, F, c, hG⟩ := h
  exact times_raw c.cells.2.2.2 c.hr (by have := c.len; omega) hk t ht

set_option maxHeartbeats 800000 in
theorem has_lr (h : LR w bc G m most now churn) (hl : now ≤ 1000000) {key : ByteArray} (hk : key.size ≤ maxLen) (b : Bool) (hb : (findM m key).isSome = b) :
    Calls Try.prog 31 #[.pointer (some ⟨bc, 0, none⟩), .string key] w fun e w' => e = .returned (.bool b) ∧ Upd Non w w' := by
  obtain ⟨t1, t2, t3⟩ := times_range h.ones h.nn.1 key
  have HC := times_lr h hl hk _ rfl
  rw [hb] at t3
  generalize timesM m key = t at HC t1 t2 t3
  clear hb
  subst t3
  go_enter Try.func31, Try.ntmps31
  go_wp2_with fail
  refine HC.mono ?_
  rintro e w1 ⟨rfl, u⟩
  go_wp2_with fail
  go_ret
  exact ⟨rfl, u⟩

set_option maxHeartbeats 800000 in
theorem drop_lr (h : LR w bc G m most now churn) (hl : now ≤ 1000000) (s : ByteArray) (b : Bool) (hv : popV m = .tuple #[.string s, .bool b]) :
    Calls Try.prog 41 #[.pointer (some ⟨bc, 0, none⟩)] w fun e w' => e = .returned (.tuple #[.string s, .bool b]) ∧ ∃ G', LR w' bc G' m.tail most now churn ∧ Upd G w w' ∧ Within w G G' := by
  obtain ⟨bh, F, c, hG⟩ := h
  obtain ⟨c0, c1, c2, c3⟩ := c.cells
  have HC := pop_hr c.hr (by have := c.len; omega) _ hv
  clear hv
  go_enter Try.func41, Try.ntmps41
  go_wp2_with fail
  refine HC.mono ?_
  rintro e w1 ⟨rfl, F', h', u, q⟩
  go_wp2_with fail
  go_ret2
  exact ⟨rfl, lr_heap c hG h' u q (fun y hy => List.mem_of_mem_tail hy) (by simp)⟩

set_option maxHeartbeats 800000 in
theorem remove_lr (h : LR w bc G m most now churn) (hl : now ≤ 1000000) {key : ByteArray} (hk : key.size ≤ maxLen) (b : Bool) (hb : (findM m key).isSome = b) :
    Calls Try.prog 32 #[.pointer (some ⟨bc, 0, none⟩), .string key] w fun e w' => e = .returned (.bool b) ∧ ∃ G', LR w' bc G' (remM m key) most now churn ∧ Upd G w w' ∧ Within w G G' := by
  obtain ⟨bh, F, c, hG⟩ := h
  obtain ⟨c0, c1, c2, c3⟩ := c.cells
  have HC := rem_hr c.hr (by have := c.len; omega) hk b hb
  clear hb
  go_enter Try.func32, Try.ntmps32
  go_wp2_with fail
  refine HC.mono ?_
  rintro e w1 ⟨rfl, F', h', u, q⟩
  go_wp2_with fail
  go_ret
  exact ⟨rfl, lr_heap c hG h' u q (fun y hy => (remM_sub m key).mem hy) (remM_len m key)⟩

set_option maxHeartbeats 800000 in
theorem victim_lr (h : LR w bc G m most now churn) (hl : now ≤ 1000000) (s : ByteArray) (b : Bool) (hv : popV m = .tuple #[.string s, .bool b]) :
    Calls Try.prog 45 #[.pointer (some ⟨bc, 0, none⟩)] w fun e w' => e = .returned (.tuple #[.string s, .bool b]) ∧ Upd Non w w' := by
  obtain ⟨bh, F, c, hG⟩ := h
  obtain ⟨c0, c1, c2, c3⟩ := c.cells
  have hR : ∃ (r1 r2 : Int), leastV m = .tuple #[.string s, .agg #[.int .i64 r1, .int .i64 r2], .bool b] := by
    cases m with
    | nil => simp only [popV, Value.tuple.injEq] at hv; exact ⟨0, 0, by simp at hv; simp [leastV, ← hv.1, ← hv.2]⟩
    | cons y r => exact ⟨y.one, y.two, by simp [popV] at hv; simp [leastV, ← hv.1, ← hv.2]⟩
  obtain ⟨r1, r2, hr⟩ := hR
  have HC := least_hr c.hr (by have := c.len; omega) _ hr
  clear hv hr
  go_enter Try.func45, Try.ntmps45
  go_wp2_with fail
  refine HC.mono ?_
  rintro e w1 ⟨rfl, u⟩
  go_wp2_with fail
  go_ret2
  exact ⟨rfl, u.alloc _⟩

set_option maxHeartbeats 800000 in
theorem keys_lr (h : LR w bc G m most now churn) (hl : now ≤ 1000000) :
    Calls Try.prog 26 #[.pointer (some ⟨bc, 0, none⟩)] w fun e w' => ∃ av cap, e = .returned (.slice av m.length cap) ∧ Arr w' G av 1 (strC (keysM m)) ∧ Upd Non w w' := by
  have hlt := h.lt
  obtain ⟨bh, F, c, hG⟩ := h
  obtain ⟨c0, c1, c2, c3⟩ := c.cells
  have hO : Calls Try.prog 17 #[.pointer (some ⟨bh, 0, none⟩)] w fun e w' => ∃ av cap, e = .returned (.slice av m.length cap) ∧ Arr w' G av 1 (strC (keysM m)) ∧ Upd Non w w' := by
    refine (order_hr c.hr (by have := c.len; omega)).mono fun e w' ⟨vo, he, hr, hu⟩ => ?_
    have e1 : keysV m = (keysM m).map Value.string := by simp [keysV, keysM]
    have e2 : m.length = (keysM m).length := by simp [keysM]
    rw [e1, e2] at hr
    obtain ⟨av, cap, rfl, ha⟩ := owned_arr hr (F := G) hlt
    exact ⟨av, cap, by rw [he, e2], ha, hu⟩
  go_enter Try.func26, Try.ntmps26
  go_wp2_with fail
  refine hO.mono ?_
  rintro e w1 ⟨av, cap, rfl, ha, u⟩
  go_wp2_with fail
  go_ret
  exact ⟨av, cap, rfl, ha, u⟩

set_option maxHeartbeats 800000 in
theorem ghosts_lr (w : World) (v : Value) :
    Calls Try.prog 48 #[v] w fun e w' => e = .returned (.slice none 0 0) ∧ w = w' := by
  go_enter Try.func48, Try.ntmps48
  go_wp2_with fail
  go_ret
  exact ⟨rfl, rfl⟩

end Go.Proofs.Ytalnjkeajlbbpaa

/- lfu.Cache: ask. -/
namespace Go.Proofs.Ytalnjkeajlbbpaa
open Go.RowKit

def askM (m : List (Itm ByteArray)) (now : Int) (churn : Bool) (key : ByteArray) : List (Itm ByteArray) :=
  setM m key (timesM m key + 1) (if churn then -(now + 1) else now + 1) (now + 1)

variable {w w' : World} {bc : Nat} {G S : Nat → Prop} {m : List (Itm ByteArray)} {most now : Int} {churn : Bool}

theorem askM_mem {key : ByteArray} {y : Itm ByteArray} (hy : y ∈ askM m now churn key) : y = ⟨key, timesM m key + 1, if churn then -(now + 1) else now + 1, now + 1⟩ ∨ (y ∈ m ∧ y.key ≠ key) := by
  rcases List.mem_cons.1 ((insI_perm _ _).mem_iff.1 hy) with h | h
  · exact .inl h
  · have := List.mem_filter.1 h
    exact .inr ⟨this.1, by simpa using this.2⟩
theorem askM_len (m : List (Itm ByteArray)) (now : Int) (churn : Bool) (key : ByteArray) : (askM m now churn key).length ≤ m.length + 1 := setM_len _ _ _ _ _

theorem ask_lc {w2 w3 : World} {bh : Nat} {F F' : Nat → Prop} {key : ByteArray} (c : LC w bc bh F m most now churn) (hb : Blk w2 bc #[.int .i64 most, .int .i64 (now + 1), .bool churn, .pointer (some ⟨bh, 0, none⟩)] 113)
    (h' : HR w3 bh F' (askM m now churn key) (now + 1)) (u : Upd F w2 w3) (q : Within w2 F F') : LC w3 bc bh F' (askM m now churn key) most (now + 1) churn := by
  obtain ⟨t1, t2, _⟩ := times_range c.ones c.nn key
  refine ⟨hb.upd u c.no, h', q.no c.no hb.lt, by have := c.nn; omega, c.m0, by have := c.len; have := askM_len m now churn key; omega, fun y hy => ?_, fun y hy => ?_⟩
  · rcases askM_mem hy with rfl | ⟨h, _⟩
    · dsimp only; omega
    · have := c.ones y h; omega
  · rcases askM_mem hy with rfl | ⟨h, _⟩
    · rfl
    · exact c.twos y h

set_option maxRecDepth 100000 in
set_option maxHeartbeats 1600000 in
theorem ask_lr (h : LR w bc G m most now churn) (hl : now ≤ 900000) {key : ByteArray} (hk : key.size ≤ maxLen) :
    Calls Try.prog 62 #[.pointer (some ⟨bc, 0, none⟩), .string key] w fun e w' => e = .returned (.tuple #[]) ∧ ∃ G', LR w' bc G' (askM m now churn key) most (now + 1) churn ∧ Upd G w w' ∧ Within w G G' := by
  obtain ⟨bh, F, c, hG⟩ := h
  obtain ⟨c0, c1, c2, c3⟩ := c.cells
  have f1 := c.box.frozen 1
  obtain ⟨t1, t2, _⟩ := times_range c.ones c.nn key
  have hn0 := c.nn
  have hml := c.len
  have hw1 : IntKind.i64.wrap (now + 1) = now + 1 := by rw [IntKind.wrap_i64]; omega
  have hw2 : IntKind.i64.wrap (-(now + 1)) = -(now + 1) := by rw [IntKind.wrap_i64]; omega
  go_enter Try.func62, Try.ntmps62
  go_upto_region 2 with (fail)
  generalize hW : World.setCell _ _ _ = w1
  have u1 : Upd (fun k => k = bc) w w1 := by rw [← hW]; exact (Upd.refl _ w).set1 1 _
  have B1 : Blk w1 bc #[.int .i64 most, .int .i64 (now + 1), .bool churn, .pointer (some ⟨bh, 0, none⟩)] 113 := by rw [← hW]; exact c.box.set 1 _
  have H1 := c.hr.upd u1 (fun k hk e => c.no (e ▸ hk))
  have k2 : w1.cell? ⟨bc, 2, none⟩ = some (.bool churn) := B1.cell 2 rfl
  have k3 : w1.cell? ⟨bc, 3, none⟩ = some (.pointer (some ⟨bh, 0, none⟩)) := B1.cell 3 rfl
  obtain ⟨d, hd⟩ : ∃ d : Int, (if churn then -(now + 1) else now + 1) = d := ⟨_, rfl⟩
  have HD := hid hd
  clear hd hW c0 c1 c2 c3 f1
  go_upto_if 19 with (fail)
  go_cut [4] (fun s4 wc => s4 = .int .i64 d ∧ w1 = wc)
  case first =>
    cases churn with
    | true =>
      obtain rfl : -(now + 1) = d := HD.out
      go_wp2_with fail
      go_meet
      exact ⟨rfl, rfl⟩
    | false =>
      obtain rfl : now + 1 = d := HD.out
      go_wp2_with fail
      go_meet
      exact ⟨rfl, rfl⟩
  case rest =>
    obtain ⟨rfl, rfl⟩ := hcut
    clear k2
    obtain ⟨t, ht⟩ : ∃ t, timesM m key = t := ⟨_, rfl⟩
    rw [ht] at t1 t2
    have hT := fun W (u : Upd Non w1 W) => times_raw (u.keep k3) (H1.non u) (by omega) hk t ht
    have hS := fun W (u : Upd Non w1 W) => set_hr (H1.non u) (by omega) (by omega) (by omega) hk (t + 1) d
    have hw3 : IntKind.i64.wrap (t + 1) = t + 1 := by rw [IntKind.wrap_i64]; omega
    have HT := hid ht
    clear ht
    go_wp2_with fail
    have k3' : w1.drew.cell? ⟨bc, 3, none⟩ = some (.pointer (some ⟨bh, 0, none⟩)) := k3
    go_region_with ((first | (go_at_call 27; refine (hT _ ((Upd.refl Non w1).drew)).mono ?_; rintro e w3 ⟨rfl, hU⟩; have k3'' := hU.keep k3') | (go_at_call 15; refine (hS _ ((Upd.refl Non w1).drew.trans hU (fun _ h => h.elim))).mono ?_; rintro e w4 ⟨rfl, F', h', u, q⟩)))
    all_goals go_end0
    all_goals
      have hu := u1.trans (((Upd.refl Non w1).drew.trans hU (fun _ h => h.elim))) (fun _ h => h.elim)
      have hb := B1.upd ((Upd.refl Non w1).drew.trans hU (fun _ h => h.elim)) id
      rw [← HT.out, ← HD.out] at h'
      refine ⟨rfl, fun k => F' k ∨ k = bc, ⟨bh, F', ask_lc c hb h' u q, fun _ => Iff.rfl⟩, ?_, ?_⟩
      · exact (hu.mono (fun k hk => .inl ((hG k).1 (.inr hk)))).trans u (fun k hk => .inl ((hG k).1 (.inl hk)))
      · intro k hk
        rcases hk with hk | rfl
        · rcases q k hk with h | h
          · exact .inl ((hG k).1 (.inl h))
          · exact .inr (Nat.le_trans hu.size h)
        · exact .inl ((hG k).1 (.inr rfl))

end Go.Proofs.Ytalnjkeajlbbpaa

/- lfu.Cache: Request, Adopt. -/
namespace Go.Proofs.Ytalnjkeajlbbpaa
open Go.RowKit

variable {w w' : World} {bc : Nat} {G S : Nat → Prop} {m : List (Itm ByteArray)} {most now : Int} {churn : Bool}

def stepV (hit : Bool) (s : ByteArray) (out : Bool) : Value := .agg #[.bool hit, .string s, .bool out]

theorem Upd.noBlk {b : Nat} (h : ∀ k, G k → k < w.heap.size) (hb : w.heap.size ≤ b) : ¬ G b := fun hk => by have := h b hk; omega

theorem blk3 {W : World} {b : Nat} {x y z : Value} {T : TypeId} (B : Blk W b #[x, y, z] T) : W.cell? ⟨b, 0, none⟩ = some x ∧ W.cell? ⟨b, 1, none⟩ = some y ∧ W.cell? ⟨b, 2, none⟩ = some z ∧ W.frozen? ⟨b, 0, none⟩ = false ∧ W.frozen? ⟨b, 1, none⟩ = false ∧ W.frozen? ⟨b, 2, none⟩ = false :=
  ⟨B.cell 0 rfl, B.cell 1 rfl, B.cell 2 rfl, B.frozen 0, B.frozen 1, B.frozen 2⟩

set_option maxRecDepth 100000 in
set_option maxHeartbeats 1600000 in
/-- Request, with no eviction. -/
theorem request_in (h : LR w bc G m most now churn) (hl : now ≤ 900000) (h0 : 0 < most) {key : ByteArray} (hk : key.size ≤ maxLen) (hit : Bool) (hh : (findM m key).isSome = hit) (hr : hit = true ∨ (m.length : Int) < most) :
    Calls Try.prog 28 #[.pointer (some ⟨bc, 0, none⟩), .string key] w fun e w' => e = .returned (stepV hit ⟨#[]⟩ false) ∧ ∃ G', LR w' bc G' (askM m now churn key) most (now + 1) churn ∧ Upd G w w' ∧ Within w G G' := by
  have hlt := h.lt
  have hH := fun W (u : Upd Non w W) => has_lr (h.non u) (by omega) hk hit hh
  have HH := hid hh
  clear hh
  have hnn := h.nn
  go_enter Try.func28, Try.ntmps28
  go_wp2_with fail
  generalize hA : World.alloc _ _ = a0
  have u0 : Upd Non w a0 := by rw [← hA]; exact (Upd.refl Non w).alloc _
  have R0 : Blk a0 w.heap.size #[.bool false, .string ⟨#[]⟩, .bool false] 57 := by rw [← hA]; exact Blk.new w _ _
  clear hA
  refine (hH _ u0).mono ?_
  rintro e w1 ⟨rfl, u1⟩
  have R1 := R0.upd u1 id
  replace u0 := u0.trans u1 (fun _ h => h.elim)
  have h1 := h.non u0
  have hR1 := R1.lt
  clear u1 R0 hH
  have c0 : w1.cell? ⟨bc, 0, none⟩ = some (.int .i64 most) := by obtain ⟨bh, F, c, hG⟩ := h1; exact c.cells.1
  have hbc : bc < w1.heap.size := by obtain ⟨bh, F, c, hG⟩ := h1; exact c.box.lt
  have hm0 : (most == 0) = false := by simp; omega
  go_upto_region 4 with (fail)
  generalize hA : World.alloc _ _ = a1
  have u2 : Upd Non w1 a1 := by rw [← hA]; exact (Upd.refl Non w1).alloc _
  have S1 : Blk a1 w1.heap.size #[.bool hit, .string ⟨#[]⟩, .bool false] 57 := by rw [← hA]; exact Blk.new w1 _ _
  have R2 := R1.upd u2 id
  have h2 := h1.non u2
  replace u0 := u0.trans u2 (fun _ h => h.elim)
  have hsr : w.heap.size < w1.heap.size := hR1
  have hws := u0.size
  clear hA u2 R1 h1 c0 hbc hR1
  generalize w1.heap.size = bs at S1 hsr ⊢
  generalize hbr : w.heap.size = br at R2 hsr ⊢
  have HBR := hid hbr
  clear hbr
  have c0 : a1.cell? ⟨bc, 0, none⟩ = some (.int .i64 most) := by obtain ⟨bh, F, c, hG⟩ := h2; exact c.cells.1
  obtain ⟨s0, s1, s2, -, -, -⟩ := blk3 S1
  have hL : ∀ n, Calls Try.prog 29 #[.pointer (some ⟨bc, 0, none⟩)] (a1.drewN n) fun e w' => e = .returned (.int .i64 m.length) ∧ w' = a1.drewN n := fun n => (len_lr (h2.non ((Upd.refl Non a1).drewN n))).mono (fun e w' h => ⟨h.1, h.2.symm⟩)
  have hNR : ¬ G br := fun hk => by have := hlt _ hk; have := HBR.out; omega
  have hNS : ¬ G bs := fun hk => by have := hlt _ hk; have := HBR.out; omega
  go_cut [27] (fun s27 wc => s27 = .bool false ∧ ∃ n, wc = a1.drewN n)
  case first =>
    cases hit with
    | true =>
      go_quiet (fail)
      go_wp2_with fail
      go_meet
      exact ⟨rfl, nq, rfl⟩
    | false =>
      have hml : (m.length : Int) < most := by simpa using hr
      have hd : decide (most ≤ (m.length : Int)) = false := by simp; omega
      go_quiet ((go_at_call 29; exact Calls.quiet_of_same (hL _)))
      go_wp2_with fail
      go_meet
      exact ⟨rfl, nq, rfl⟩
  case rest =>
  obtain ⟨rfl, nn, rfl⟩ := hcut
  have u3 := (Upd.refl Non a1).drewN nn
  have h4 := h2.non u3
  have R4 := R2.upd u3 id
  have S4 := S1.upd u3 id
  replace u0 := u0.trans u3 (fun _ h => h.elim)
  clear hL c0 s0 s1 s2 h2 R2 S1 hr hm0
  generalize World.drewN _ _ = a4 at u0 h4 R4 S4 ⊢
  go_wp2_with fail
  refine (ask_lr h4 (by omega) hk).mono ?_
  rintro e w5 ⟨rfl, G', h5, u5, q5⟩
  have R5 := R4.upd u5 hNR
  have S5 := S4.upd u5 hNS
  obtain ⟨s0, s1, s2, -, -, -⟩ := blk3 S5
  obtain ⟨v0, v1, v2, t0, t1, t2⟩ := blk3 R5
  have hn5 : ∀ k, G' k → ¬ k = br := fun k hk e => q5.no hNR R4.lt (e ▸ hk)
  have R6 : Blk (((w5.setCell ⟨br, 0, none⟩ (.bool hit)).setCell ⟨br, 1, none⟩ (.string ⟨#[]⟩)).setCell ⟨br, 2, none⟩ (.bool false)) br #[.bool hit, .string ⟨#[]⟩, .bool false] 57 := ((R5.set 0 _).set 1 _).set 2 _
  obtain ⟨r0, r1, r2, -, -, -⟩ := blk3 R6
  have u6 : Upd (fun k => k = br) w5 (((w5.setCell ⟨br, 0, none⟩ (.bool hit)).setCell ⟨br, 1, none⟩ (.string ⟨#[]⟩)).setCell ⟨br, 2, none⟩ (.bool false)) := ((((Upd.refl _ w5).set1 0 _)).set1 1 _).set1 2 _
  go_wp2_with fail
  refine bodyPost_ret (v := stepV hit ⟨#[]⟩ false) (by simp [results, Try.results28, go_sem, r0, r1, r2, stepV]) rfl ⟨rfl, G', h5.upd u6 hn5, ?_, ?_⟩
  · exact ((u0.mono (fun _ h => h.elim)).trans u5 (fun k hk => .inl hk)).trans u6 (fun k hk => .inr (by rw [hk]; exact Nat.le_of_eq HBR.out))
  · exact fun k hk => (q5 k hk).imp id (fun e => Nat.le_trans u0.size e)

set_option maxRecDepth 100000 in
set_option maxHeartbeats 1600000 in
/-- Request that lets one go. -/
theorem request_out {y : Itm ByteArray} {r : List (Itm ByteArray)} (h : LR w bc G (y :: r) most now churn) (hl : now ≤ 900000) (h0 : 0 < most) {key : ByteArray} (hk : key.size ≤ maxLen) (hh : (findM (y :: r) key).isSome = false) (hr : most ≤ ((y :: r).length : Int)) :
    Calls Try.prog 28 #[.pointer (some ⟨bc, 0, none⟩), .string key] w fun e w' => e = .returned (stepV false y.key true) ∧ ∃ G', LR w' bc G' (askM r now churn key) most (now + 1) churn ∧ Upd G w w' ∧ Within w G G' := by
  have hlt := h.lt
  have hH := fun W (u : Upd Non w W) => has_lr (h.non u) (by omega) hk false hh
  have HH := hid hh
  clear hh
  have hnn := h.nn
  go_enter Try.func28, Try.ntmps28
  go_wp2_with fail
  generalize hA : World.alloc _ _ = a0
  have u0 : Upd Non w a0 := by rw [← hA]; exact (Upd.refl Non w).alloc _
  have R0 : Blk a0 w.heap.size #[.bool false, .string ⟨#[]⟩, .bool false] 57 := by rw [← hA]; exact Blk.new w _ _
  clear hA
  refine (hH _ u0).mono ?_
  rintro e w1 ⟨rfl, u1⟩
  have R1 := R0.upd u1 id
  replace u0 := u0.trans u1 (fun _ h => h.elim)
  have h1 := h.non u0
  have hR1 := R1.lt
  clear u1 R0 hH
  have c0 : w1.cell? ⟨bc, 0, none⟩ = some (.int .i64 most) := by obtain ⟨bh, F, c, hG⟩ := h1; exact c.cells.1
  have hbc : bc < w1.heap.size := by obtain ⟨bh, F, c, hG⟩ := h1; exact c.box.lt
  have hm0 : (most == 0) = false := by simp; omega
  go_upto_region 4 with (fail)
  generalize hA : World.alloc _ _ = a1
  have u2 : Upd Non w1 a1 := by rw [← hA]; exact (Upd.refl Non w1).alloc _
  have S1 : Blk a1 w1.heap.size #[.bool false, .string ⟨#[]⟩, .bool false] 57 := by rw [← hA]; exact Blk.new w1 _ _
  have R2 := R1.upd u2 id
  have h2 := h1.non u2
  replace u0 := u0.trans u2 (fun _ h => h.elim)
  have hsr : w.heap.size < w1.heap.size := hR1
  have hws := u0.size
  clear hA u2 R1 h1 c0 hbc hR1
  have HB1 := hid (Nat.le_trans (Nat.le_refl w.heap.size) (Nat.le_of_lt hsr))
  generalize w1.heap.size = bs at S1 hsr HB1 ⊢
  generalize hbr : w.heap.size = br at R2 hsr ⊢
  have HBR := hid hbr
  clear hbr
  have c0 : a1.cell? ⟨bc, 0, none⟩ = some (.int .i64 most) := by obtain ⟨bh, F, c, hG⟩ := h2; exact c.cells.1
  obtain ⟨s0, s1, s2, -, -, -⟩ := blk3 S1
  have hL : ∀ n, Calls Try.prog 29 #[.pointer (some ⟨bc, 0, none⟩)] (a1.drewN n) fun e w' => e = .returned (.int .i64 (y :: r).length) ∧ w' = a1.drewN n := fun n => (len_lr (h2.non ((Upd.refl Non a1).drewN n))).mono (fun e w' h => ⟨h.1, h.2.symm⟩)
  have hNR : ¬ G br := fun hk => by have := hlt _ hk; have := HBR.out; omega
  have hNS : ¬ G bs := fun hk => by have := hlt _ hk; have := HBR.out; omega
  have hd : decide (most ≤ ((y :: r).length : Int)) = true := by simpa using hr
  generalize (y :: r).length = len at hd hL
  go_cut [27] (fun s27 wc => s27 = .bool true ∧ ∃ n, wc = a1.drewN n)
  case first =>
    go_quiet ((go_at_call 29; exact Calls.quiet_of_same (hL _)))
    go_wp2_with fail
    go_meet
    exact ⟨rfl, nq, rfl⟩
  case rest =>
  obtain ⟨rfl, nn, rfl⟩ := hcut
  have u3 := (Upd.refl Non a1).drewN nn
  have h4 := h2.non u3
  have R4 := R2.upd u3 id
  have S4 := S1.upd u3 id
  replace u0 := u0.trans u3 (fun _ h => h.elim)
  clear hL c0 s0 s1 s2 h2 R2 S1 hm0 hd u3
  generalize World.drewN _ _ = a4 at u0 h4 R4 S4 ⊢
  obtain ⟨bh, F, c, hG⟩ := h4
  have HC := pop_hr c.hr (by have := c.len; omega) (.tuple #[.string y.key, .bool true]) rfl
  obtain ⟨-, -, -, c3⟩ := c.cells
  go_wp2_with fail
  refine HC.mono ?_
  rintro e w4 ⟨rfl, F4, h4, u4, q4⟩
  obtain ⟨G4, l4, u4', q4'⟩ := lr_heap c hG h4 u4 q4 (fun z hz => List.mem_of_mem_tail hz) (by simp)
  have RR := R4.upd u4' hNR
  have SS := S4.upd u4' hNS
  have gR : ¬ G4 br := q4'.no hNR R4.lt
  have gS : ¬ G4 bs := q4'.no hNS S4.lt
  obtain ⟨s0, s1, s2, f0, f1, f2⟩ := blk3 SS
  clear R4 S4 HC c h4 u4 q4 c3
  go_upto_region 6 with (fail)
  generalize hW : World.setCell _ _ _ = w6
  have u6 : Upd (fun k => k = bs) w4 w6 := by rw [← hW]; exact ((Upd.refl _ w4).set1 1 _).set1 2 _
  have S4 : Blk w6 bs #[.bool false, .string y.key, .bool true] 57 := by rw [← hW]; exact (SS.set 1 _).set 2 _
  have R4 : Blk w6 br #[.bool false, .string ⟨#[]⟩, .bool false] 57 := RR.upd u6 (by omega)
  have h4 := l4.upd u6 (fun k hk e => gS (e ▸ hk))
  have u46 : Upd G w w6 := (((u0.mono (fun _ h => h.elim)) : Upd G w a4).trans u4' (fun k hk => .inl hk)).trans u6 (fun k hk => .inr (by rw [hk]; exact HB1.out))
  clear hW s0 s1 s2 f0 f1 f2 u6 SS RR l4 u4' hNR hNS
  go_wp2_with fail
  refine (ask_lr h4 (by omega) hk).mono ?_
  rintro e w5 ⟨rfl, G', h5, u5, q5⟩
  have R5 := R4.upd u5 gR
  have S5 := S4.upd u5 gS
  obtain ⟨s0, s1, s2, -, -, -⟩ := blk3 S5
  obtain ⟨v0, v1, v2, t0, t1, t2⟩ := blk3 R5
  have hn5 : ∀ k, G' k → ¬ k = br := fun k hk e => q5.no gR R4.lt (e ▸ hk)
  have R6 : Blk (((w5.setCell ⟨br, 0, none⟩ (.bool false)).setCell ⟨br, 1, none⟩ (.string y.key)).setCell ⟨br, 2, none⟩ (.bool true)) br #[.bool false, .string y.key, .bool true] 57 := ((R5.set 0 _).set 1 _).set 2 _
  obtain ⟨r0, r1, r2, -, -, -⟩ := blk3 R6
  have u7 : Upd (fun k => k = br) w5 (((w5.setCell ⟨br, 0, none⟩ (.bool false)).setCell ⟨br, 1, none⟩ (.string y.key)).setCell ⟨br, 2, none⟩ (.bool true)) := ((((Upd.refl _ w5).set1 0 _)).set1 1 _).set1 2 _
  go_wp2_with fail
  refine bodyPost_ret (v := stepV false y.key true) (by simp [results, Try.results28, go_sem, r0, r1, r2, stepV]) rfl ⟨rfl, G', h5.upd u7 hn5, ?_, ?_⟩
  · exact (u46.trans u5 (fun k hk => (q4' k hk).imp id (fun e => Nat.le_trans u0.size e))).trans u7 (fun k hk => .inr (by rw [hk]; exact Nat.le_of_eq HBR.out))
  · exact fun k hk => (q5 k hk).elim (fun h => (q4' k h).imp id (fun e => Nat.le_trans u0.size e)) (fun e => .inr (Nat.le_trans u46.size e))

end Go.Proofs.Ytalnjkeajlbbpaa

/- lfu.Cache: Request of a cache of none; Adopt. -/
namespace Go.Proofs.Ytalnjkeajlbbpaa
open Go.RowKit

variable {w w' : World} {bc : Nat} {G S : Nat → Prop} {m : List (Itm ByteArray)} {most now : Int} {churn : Bool}

set_option maxRecDepth 100000 in
set_option maxHeartbeats 1600000 in
theorem request_zero (h : LR w bc G m 0 now churn) (hl : now ≤ 900000) {key : ByteArray} (hk : key.size ≤ maxLen) (hit : Bool) (hh : (findM m key).isSome = hit) :
    Calls Try.prog 28 #[.pointer (some ⟨bc, 0, none⟩), .string key] w fun e w' => e = .returned (stepV hit ⟨#[]⟩ false) ∧ Upd Non w w' := by
  have hH := fun W (u : Upd Non w W) => has_lr (h.non u) (by omega) hk hit hh
  clear hh
  go_enter Try.func28, Try.ntmps28
  go_wp2_with fail
  generalize hA : World.alloc _ _ = a0
  have u0 : Upd Non w a0 := by rw [← hA]; exact (Upd.refl Non w).alloc _
  have R0 : Blk a0 w.heap.size #[.bool false, .string ⟨#[]⟩, .bool false] 57 := by rw [← hA]; exact Blk.new w _ _
  clear hA
  refine (hH _ u0).mono ?_
  rintro e w1 ⟨rfl, u1⟩
  have R1 := R0.upd u1 id
  replace u0 := u0.trans u1 (fun _ h => h.elim)
  have h1 := h.non u0
  have hR1 := R1.lt
  clear u1 R0 hH
  have c0 : w1.cell? ⟨bc, 0, none⟩ = some (.int .i64 0) := by obtain ⟨bh, F, c, hG⟩ := h1; exact c.cells.1
  have hbc : bc < w1.heap.size := by obtain ⟨bh, F, c, hG⟩ := h1; exact c.box.lt
  go_upto_region 3 with (fail)
  generalize hA : World.alloc _ _ = a1
  have u2 : Upd Non w1 a1 := by rw [← hA]; exact (Upd.refl Non w1).alloc _
  have S1 : Blk a1 w1.heap.size #[.bool hit, .string ⟨#[]⟩, .bool false] 57 := by rw [← hA]; exact Blk.new w1 _ _
  have R2 := R1.upd u2 id
  replace u0 := u0.trans u2 (fun _ h => h.elim)
  clear hA u2 R1 h1 c0 hbc
  generalize w1.heap.size = bs at S1 hR1 ⊢
  generalize hbr : w.heap.size = br at R2 hR1 ⊢
  have HBR := hid hbr
  clear hbr
  obtain ⟨s0, s1, s2, -, -, -⟩ := blk3 S1
  obtain ⟨v0, v1, v2, t0, t1, t2⟩ := blk3 R2
  have R6 : Blk (((a1.setCell ⟨br, 0, none⟩ (.bool hit)).setCell ⟨br, 1, none⟩ (.string ⟨#[]⟩)).setCell ⟨br, 2, none⟩ (.bool false)) br #[.bool hit, .string ⟨#[]⟩, .bool false] 57 := ((R2.set 0 _).set 1 _).set 2 _
  obtain ⟨r0, r1, r2, -, -, -⟩ := blk3 R6
  have u6 : Upd (fun k => k = br) a1 (((a1.setCell ⟨br, 0, none⟩ (.bool hit)).setCell ⟨br, 1, none⟩ (.string ⟨#[]⟩)).setCell ⟨br, 2, none⟩ (.bool false)) := ((((Upd.refl _ a1).set1 0 _)).set1 1 _).set1 2 _
  go_wp2_with fail
  refine bodyPost_ret (v := stepV hit ⟨#[]⟩ false) (by simp [results, Try.results28, go_sem, r0, r1, r2, stepV]) rfl ⟨rfl, ?_⟩
  exact u0.trans u6 (fun k hk => .inr (by rw [hk]; exact Nat.le_of_eq HBR.out))

set_option maxRecDepth 100000 in
set_option maxHeartbeats 1600000 in
theorem adopt_lr (h : LR w bc G m most now churn) (hl : now ≤ 900000) {key : ByteArray} (hk : key.size ≤ maxLen) (hit : Bool) (hh : (findM m key).isSome = hit) (b : Bool) (hb : (hit || decide (most ≤ (m.length : Int))) = b) :
    Calls Try.prog 33 #[.pointer (some ⟨bc, 0, none⟩), .string key] w fun e w' => e = .returned (.bool (!b)) ∧ ∃ G', LR w' bc G' (if b then m else askM m now churn key) most (if b then now else now + 1) churn ∧ Upd G w w' ∧ Within w G G' := by
  have hH := fun W (u : Upd Non w W) => has_lr (h.non u) (by omega) hk hit hh
  have hL := fun W (u : Upd Non w W) => len_lr (h.non u)
  have hA := fun W (u : Upd Non w W) => ask_lr (h.non u) hl hk
  have c0 : w.cell? ⟨bc, 0, none⟩ = some (.int .i64 most) := by obtain ⟨bh, F, c, hG⟩ := h; exact c.cells.1
  have HB := hid hb
  clear hh hb
  generalize m.length = len at hL HB
  go_enter Try.func33, Try.ntmps33
  go_upto_region 1 with (fail)
  go_cut [16] (fun s16 wc => s16 = .bool b ∧ Upd Non w wc)
  case first =>
    cases hit with
    | true =>
      obtain rfl : true = b := HB.out
      first | (go_region_with ((first | (go_at_call 31; refine (hH _ ((Upd.refl Non w).drew)).mono ?_; rintro e w3 ⟨rfl, hU⟩)))) | fail
      all_goals go_wp2_with fail
      all_goals go_meet
      all_goals exact ⟨rfl, (Upd.refl Non w).drew.trans hU (fun _ h => h.elim)⟩
    | false =>
      obtain ⟨d, hd⟩ : ∃ d, decide (most ≤ (len : Int)) = d := ⟨_, rfl⟩
      obtain rfl : d = b := by rw [← HB.out, ← hd]; rfl
      clear HB
      go_region_held3 (fun w' => w'.cell? ⟨bc, 0, none⟩ = some (.int .i64 most) ∧ Upd Non w w')
        (first | assumption | exact ⟨by assumption, (Upd.refl Non w).drew⟩ | exact ⟨hU.keep (And.left ‹_ ∧ Upd Non w _›), Upd.trans (And.right ‹_ ∧ Upd Non w _›) hU (fun _ h => h.elim)⟩)
        (first | (go_at_call 31; refine (hH _ (And.right ‹_ ∧ Upd Non w _›)).mono ?_; rintro e w3 ⟨rfl, hU⟩) | (go_at_call 29; refine (hL _ (And.right ‹_ ∧ Upd Non w _›)).mono ?_; rintro e w3 ⟨rfl, rfl⟩))
      all_goals go_wp2_with fail
      all_goals go_meet
      all_goals exact ⟨rfl, And.right ‹_ ∧ Upd Non w _›⟩
  case rest =>
    obtain ⟨rfl, u⟩ := hcut
    clear hH hL HB
    cases b with
    | true =>
      go_wp2_with fail
      go_ret
      exact ⟨rfl, G, h.non u, u.mono (fun _ h => h.elim), Within.refl _ _⟩
    | false =>
      go_wp2_with fail
      refine (hA _ u).mono ?_
      rintro e w3 ⟨rfl, G', h3, u3, q3⟩
      go_wp2_with fail
      go_ret
      exact ⟨rfl, G', h3, (u.mono (fun _ h => h.elim) : Upd G w wc).trans u3 (fun k hk => .inl hk), fun k hk => (q3 k hk).imp id (fun e => Nat.le_trans u.size e)⟩

end Go.Proofs.Ytalnjkeajlbbpaa
