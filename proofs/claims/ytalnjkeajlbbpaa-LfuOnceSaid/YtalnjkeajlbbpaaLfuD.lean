/- lfu.Cache: Request of a cache of none; Adopt. -/
import Derived.Test.YtalnjkeajlbbpaaLfuC
namespace Go.Proofs.Ytalnjkeajlbbpaa
open Go.RowKit

variable {w w' : World} {bc : Nat} {G S : Nat → Prop} {m : List (Itm ByteArray)} {most now : Int} {churn : Bool}

set_option maxRecDepth 100000 in
set_option maxHeartbeats 1600000 in
theorem request_zero (h : LR w bc G m 0 now churn) (hl : now ≤ 900000) {key : ByteArray} (hk : key.size ≤ maxLen) (hit : Bool) (hh : (findM m key).isSome = hit) :
    Calls Try.prog 28 #[.pointer (some ⟨bc, 0, none⟩), .string key] w fun e w' => e = .returned (stepV hit ⟨#[]⟩ false) ∧ Upd Non w w' := by
  have hH := fun W (u : Upd Non w W) => has_lr (h.non u) (by omega) hk hit hh
  clear hh
  go_enter Try.func28, Try.ntmps28
  go_wp2_with fail
  generalize hA : World.alloc _ _ = a0
  have u0 : Upd Non w a0 := by rw [← hA]; exact (Upd.refl Non w).alloc _
  have R0 : Blk a0 w.heap.size #[.bool false, .string ⟨#[]⟩, .bool false] 57 := by rw [← hA]; exact Blk.new w _ _
  clear hA
  refine (hH _ u0).mono ?_
  rintro e w1 ⟨rfl, u1⟩
  have R1 := R0.upd u1 id
  replace u0 := u0.trans u1 (fun _ h => h.elim)
  have h1 := h.non u0
  have hR1 := R1.lt
  clear u1 R0 hH
  have c0 : w1.cell? ⟨bc, 0, none⟩ = some (.int .i64 0) := by obtain ⟨bh, F, c, hG⟩ := h1; exact c.cells.1
  have hbc : bc < w1.heap.size := by obtain ⟨bh, F, c, hG⟩ := h1; exact c.box.lt
  go_upto_region 3 with (fail)
  generalize hA : World.alloc _ _ = a1
  have u2 : Upd Non w1 a1 := by rw [← hA]; exact (Upd.refl Non w1).alloc _
  have S1 : Blk a1 w1.heap.size #[.bool hit, .string ⟨#[]⟩, .bool false] 57 := by rw [← hA]; exact Blk.new w1 _ _
  have R2 := R1.upd u2 id
  replace u0 := u0.trans u2 (fun _ h => h.elim)
  clear hA u2 R1 h1 c0 hbc
  generalize w1.heap.size = bs at S1 hR1 ⊢
  generalize hbr : w.heap.size = br at R2 hR1 ⊢
  have HBR := hid hbr
  clear hbr
  obtain ⟨s0, s1, s2, -, -, -⟩ := blk3 S1
  obtain ⟨v0, v1, v2, t0, t1, t2⟩ := blk3 R2
  have R6 : Blk (((a1.setCell ⟨br, 0, none⟩ (.bool hit)).setCell ⟨br, 1, none⟩ (.string ⟨#[]⟩)).setCell ⟨br, 2, none⟩ (.bool false)) br #[.bool hit, .string ⟨#[]⟩, .bool false] 57 := ((R2.set 0 _).set 1 _).set 2 _
  obtain ⟨r0, r1, r2, -, -, -⟩ := blk3 R6
  have u6 : Upd (fun k => k = br) a1 (((a1.setCell ⟨br, 0, none⟩ (.bool hit)).setCell ⟨br, 1, none⟩ (.string ⟨#[]⟩)).setCell ⟨br, 2, none⟩ (.bool false)) := ((((Upd.refl _ a1).set1 0 _)).set1 1 _).set1 2 _
  go_wp2_with fail
  refine bodyPost_ret (v := stepV hit ⟨#[]⟩ false) (by simp [results, Try.results28, go_sem, r0, r1, r2, stepV]) rfl ⟨rfl, ?_⟩
  exact u0.trans u6 (fun k hk => .inr (by rw [hk]; exact Nat.le_of_eq HBR.out))

set_option maxRecDepth 100000 in
set_option maxHeartbeats 1600000 in
theorem adopt_lr (h : LR w bc G m most now churn) (hl : now ≤ 900000) {key : ByteArray} (hk : key.size ≤ maxLen) (hit : Bool) (hh : (findM m key).isSome = hit) (b : Bool) (hb : (hit || decide (most ≤ (m.length : Int))) = b) :
    Calls Try.prog 33 #[.pointer (some ⟨bc, 0, none⟩), .string key] w fun e w' => e = .returned (.bool (!b)) ∧ ∃ G', LR w' bc G' (if b then m else askM m now churn key) most (if b then now else now + 1) churn ∧ Upd G w w' ∧ Within w G G' := by
  have hH := fun W (u : Upd Non w W) => has_lr (h.non u) (by omega) hk hit hh
  have hL := fun W (u : Upd Non w W) => len_lr (h.non u)
  have hA := fun W (u : Upd Non w W) => ask_lr (h.non u) hl hk
  have c0 : w.cell? ⟨bc, 0, none⟩ = some (.int .i64 most) := by obtain ⟨bh, F, c, hG⟩ := h; exact c.cells.1
  have HB := hid hb
  clear hh hb
  generalize m.length = len at hL HB
  go_enter Try.func33, Try.ntmps33
  go_upto_region 1 with (fail)
  go_cut [16] (fun s16 wc => s16 = .bool b ∧ Upd Non w wc)
  case first =>
    cases hit with
    | true =>
      obtain rfl : true = b := HB.out
      first | (go_region_with ((first | (go_at_call 31; refine (hH _ ((Upd.refl Non w).drew)).mono ?_; rintro e w3 ⟨rfl, hU⟩)))) | fail
      all_goals go_wp2_with fail
      all_goals go_meet
      all_goals exact ⟨rfl, (Upd.refl Non w).drew.trans hU (fun _ h => h.elim)⟩
    | false =>
      obtain ⟨d, hd⟩ : ∃ d, decide (most ≤ (len : Int)) = d := ⟨_, rfl⟩
      obtain rfl : d = b := by rw [← HB.out, ← hd]; rfl
      clear HB
      go_region_held3 (fun w' => w'.cell? ⟨bc, 0, none⟩ = some (.int .i64 most) ∧ Upd Non w w')
        (first | assumption | exact ⟨by assumption, (Upd.refl Non w).drew⟩ | exact ⟨hU.keep (And.left ‹_ ∧ Upd Non w _›), Upd.trans (And.right ‹_ ∧ Upd Non w _›) hU (fun _ h => h.elim)⟩)
        (first | (go_at_call 31; refine (hH _ (And.right ‹_ ∧ Upd Non w _›)).mono ?_; rintro e w3 ⟨rfl, hU⟩) | (go_at_call 29; refine (hL _ (And.right ‹_ ∧ Upd Non w _›)).mono ?_; rintro e w3 ⟨rfl, rfl⟩))
      all_goals go_wp2_with fail
      all_goals go_meet
      all_goals exact ⟨rfl, And.right ‹_ ∧ Upd Non w _›⟩
  case rest =>
    obtain ⟨rfl, u⟩ := hcut
    clear hH hL HB
    cases b with
    | true =>
      go_wp2_with fail
      go_ret
      exact ⟨rfl, G, h.non u, u.mono (fun _ h => h.elim), Within.refl _ _⟩
    | false =>
      go_wp2_with fail
      refine (hA _ u).mono ?_
      rintro e w3 ⟨rfl, G', h3, u3, q3⟩
      go_wp2_with fail
      go_ret
      exact ⟨rfl, G', h3, (u.mono (fun _ h => h.elim) : Upd G w wc).trans u3 (fun k hk => .inl hk), fun k hk => (q3 k hk).imp id (fun e => Nat.le_trans u.size e)⟩

end Go.Proofs.Ytalnjkeajlbbpaa
