/- lfu.Cache: ask. -/
import Derived.Test.YtalnjkeajlbbpaaLfuA
namespace Go.Proofs.Ytalnjkeajlbbpaa
open Go.RowKit

def askM (m : List (Itm ByteArray)) (now : Int) (churn : Bool) (key : ByteArray) : List (Itm ByteArray) :=
  setM m key (timesM m key + 1) (if churn then -(now + 1) else now + 1) (now + 1)

variable {w w' : World} {bc : Nat} {G S : Nat → Prop} {m : List (Itm ByteArray)} {most now : Int} {churn : Bool}

theorem askM_mem {key : ByteArray} {y : Itm ByteArray} (hy : y ∈ askM m now churn key) : y = ⟨key, timesM m key + 1, if churn then -(now + 1) else now + 1, now + 1⟩ ∨ (y ∈ m ∧ y.key ≠ key) := by
  rcases List.mem_cons.1 ((insI_perm _ _).mem_iff.1 hy) with h | h
  · exact .inl h
  · have := List.mem_filter.1 h
    exact .inr ⟨this.1, by simpa using this.2⟩
theorem askM_len (m : List (Itm ByteArray)) (now : Int) (churn : Bool) (key : ByteArray) : (askM m now churn key).length ≤ m.length + 1 := setM_len _ _ _ _ _

theorem ask_lc {w2 w3 : World} {bh : Nat} {F F' : Nat → Prop} {key : ByteArray} (c : LC w bc bh F m most now churn) (hb : Blk w2 bc #[.int .i64 most, .int .i64 (now + 1), .bool churn, .pointer (some ⟨bh, 0, none⟩)] 113)
    (h' : HR w3 bh F' (askM m now churn key) (now + 1)) (u : Upd F w2 w3) (q : Within w2 F F') : LC w3 bc bh F' (askM m now churn key) most (now + 1) churn := by
  obtain ⟨t1, t2, _⟩ := times_range c.ones c.nn key
  refine ⟨hb.upd u c.no, h', q.no c.no hb.lt, by have := c.nn; omega, c.m0, by have := c.len; have := askM_len m now churn key; omega, fun y hy => ?_, fun y hy => ?_⟩
  · rcases askM_mem hy with rfl | ⟨h, _⟩
    · dsimp only; omega
    · have := c.ones y h; omega
  · rcases askM_mem hy with rfl | ⟨h, _⟩
    · rfl
    · exact c.twos y h

set_option maxRecDepth 100000 in
set_option maxHeartbeats 1600000 in
theorem ask_lr (h : LR w bc G m most now churn) (hl : now ≤ 900000) {key : ByteArray} (hk : key.size ≤ maxLen) :
    Calls Try.prog 62 #[.pointer (some ⟨bc, 0, none⟩), .string key] w fun e w' => e = .returned (.tuple #[]) ∧ ∃ G', LR w' bc G' (askM m now churn key) most (now + 1) churn ∧ Upd G w w' ∧ Within w G G' := by
  obtain ⟨bh, F, c, hG⟩ := h
  obtain ⟨c0, c1, c2, c3⟩ := c.cells
  have f1 := c.box.frozen 1
  obtain ⟨t1, t2, _⟩ := times_range c.ones c.nn key
  have hn0 := c.nn
  have hml := c.len
  have hw1 : IntKind.i64.wrap (now + 1) = now + 1 := by rw [IntKind.wrap_i64]; omega
  have hw2 : IntKind.i64.wrap (-(now + 1)) = -(now + 1) := by rw [IntKind.wrap_i64]; omega
  go_enter Try.func62, Try.ntmps62
  go_upto_region 2 with (fail)
  generalize hW : World.setCell _ _ _ = w1
  have u1 : Upd (fun k => k = bc) w w1 := by rw [← hW]; exact (Upd.refl _ w).set1 1 _
  have B1 : Blk w1 bc #[.int .i64 most, .int .i64 (now + 1), .bool churn, .pointer (some ⟨bh, 0, none⟩)] 113 := by rw [← hW]; exact c.box.set 1 _
  have H1 := c.hr.upd u1 (fun k hk e => c.no (e ▸ hk))
  have k2 : w1.cell? ⟨bc, 2, none⟩ = some (.bool churn) := B1.cell 2 rfl
  have k3 : w1.cell? ⟨bc, 3, none⟩ = some (.pointer (some ⟨bh, 0, none⟩)) := B1.cell 3 rfl
  obtain ⟨d, hd⟩ : ∃ d : Int, (if churn then -(now + 1) else now + 1) = d := ⟨_, rfl⟩
  have HD := hid hd
  clear hd hW c0 c1 c2 c3 f1
  go_upto_if 19 with (fail)
  go_cut [4] (fun s4 wc => s4 = .int .i64 d ∧ w1 = wc)
  case first =>
    cases churn with
    | true =>
      obtain rfl : -(now + 1) = d := HD.out
      go_wp2_with fail
      go_meet
      exact ⟨rfl, rfl⟩
    | false =>
      obtain rfl : now + 1 = d := HD.out
      go_wp2_with fail
      go_meet
      exact ⟨rfl, rfl⟩
  case rest =>
    obtain ⟨rfl, rfl⟩ := hcut
    clear k2
    obtain ⟨t, ht⟩ : ∃ t, timesM m key = t := ⟨_, rfl⟩
    rw [ht] at t1 t2
    have hT := fun W (u : Upd Non w1 W) => times_raw (u.keep k3) (H1.non u) (by omega) hk t ht
    have hS := fun W (u : Upd Non w1 W) => set_hr (H1.non u) (by omega) (by omega) (by omega) hk (t + 1) d
    have hw3 : IntKind.i64.wrap (t + 1) = t + 1 := by rw [IntKind.wrap_i64]; omega
    have HT := hid ht
    clear ht
    go_wp2_with fail
    have k3' : w1.drew.cell? ⟨bc, 3, none⟩ = some (.pointer (some ⟨bh, 0, none⟩)) := k3
    go_region_with ((first | (go_at_call 27; refine (hT _ ((Upd.refl Non w1).drew)).mono ?_; rintro e w3 ⟨rfl, hU⟩; have k3'' := hU.keep k3') | (go_at_call 15; refine (hS _ ((Upd.refl Non w1).drew.trans hU (fun _ h => h.elim))).mono ?_; rintro e w4 ⟨rfl, F', h', u, q⟩)))
    all_goals go_end0
    all_goals
      have hu := u1.trans (((Upd.refl Non w1).drew.trans hU (fun _ h => h.elim))) (fun _ h => h.elim)
      have hb := B1.upd ((Upd.refl Non w1).drew.trans hU (fun _ h => h.elim)) id
      rw [← HT.out, ← HD.out] at h'
      refine ⟨rfl, fun k => F' k ∨ k = bc, ⟨bh, F', ask_lc c hb h' u q, fun _ => Iff.rfl⟩, ?_, ?_⟩
      · exact (hu.mono (fun k hk => .inl ((hG k).1 (.inr hk)))).trans u (fun k hk => .inl ((hG k).1 (.inl hk)))
      · intro k hk
        rcases hk with hk | rfl
        · rcases q k hk with h | h
          · exact .inl ((hG k).1 (.inl h))
          · exact .inr (Nat.le_trans hu.size h)
        · exact .inl ((hG k).1 (.inr rfl))

end Go.Proofs.Ytalnjkeajlbbpaa
