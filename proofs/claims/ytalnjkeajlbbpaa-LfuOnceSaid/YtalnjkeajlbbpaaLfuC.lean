/- lfu.Cache: Request, Adopt. -/
import Derived.Test.YtalnjkeajlbbpaaLfuB
import Derived.Deep.RegionHeld3
import Derived.Deep.QuietTactic
import Derived.BigQuiet
namespace Go.Proofs.Ytalnjkeajlbbpaa
open Go.RowKit

variable {w w' : World} {bc : Nat} {G S : Nat → Prop} {m : List (Itm ByteArray)} {most now : Int} {churn : Bool}

def stepV (hit : Bool) (s : ByteArray) (out : Bool) : Value := .agg #[.bool hit, .string s, .bool out]

theorem Upd.noBlk {b : Nat} (h : ∀ k, G k → k < w.heap.size) (hb : w.heap.size ≤ b) : ¬ G b := fun hk => by have := h b hk; omega

theorem blk3 {W : World} {b : Nat} {x y z : Value} {T : TypeId} (B : Blk W b #[x, y, z] T) : W.cell? ⟨b, 0, none⟩ = some x ∧ W.cell? ⟨b, 1, none⟩ = some y ∧ W.cell? ⟨b, 2, none⟩ = some z ∧ W.frozen? ⟨b, 0, none⟩ = false ∧ W.frozen? ⟨b, 1, none⟩ = false ∧ W.frozen? ⟨b, 2, none⟩ = false :=
  ⟨B.cell 0 rfl, B.cell 1 rfl, B.cell 2 rfl, B.frozen 0, B.frozen 1, B.frozen 2⟩

set_option maxRecDepth 100000 in
set_option maxHeartbeats 1600000 in
/-- Request, with no eviction. -/
theorem request_in (h : LR w bc G m most now churn) (hl : now ≤ 900000) (h0 : 0 < most) {key : ByteArray} (hk : key.size ≤ maxLen) (hit : Bool) (hh : (findM m key).isSome = hit) (hr : hit = true ∨ (m.length : Int) < most) :
    Calls Try.prog 28 #[.pointer (some ⟨bc, 0, none⟩), .string key] w fun e w' => e = .returned (stepV hit ⟨#[]⟩ false) ∧ ∃ G', LR w' bc G' (askM m now churn key) most (now + 1) churn ∧ Upd G w w' ∧ Within w G G' := by
  have hlt := h.lt
  have hH := fun W (u : Upd Non w W) => has_lr (h.non u) (by omega) hk hit hh
  have HH := hid hh
  clear hh
  have hnn := h.nn
  go_enter Try.func28, Try.ntmps28
  go_wp2_with fail
  generalize hA : World.alloc _ _ = a0
  have u0 : Upd Non w a0 := by rw [← hA]; exact (Upd.refl Non w).alloc _
  have R0 : Blk a0 w.heap.size #[.bool false, .string ⟨#[]⟩, .bool false] 57 := by rw [← hA]; exact Blk.new w _ _
  clear hA
  refine (hH _ u0).mono ?_
  rintro e w1 ⟨rfl, u1⟩
  have R1 := R0.upd u1 id
  replace u0 := u0.trans u1 (fun _ h => h.elim)
  have h1 := h.non u0
  have hR1 := R1.lt
  clear u1 R0 hH
  have c0 : w1.cell? ⟨bc, 0, none⟩ = some (.int .i64 most) := by obtain ⟨bh, F, c, hG⟩ := h1; exact c.cells.1
  have hbc : bc < w1.heap.size := by obtain ⟨bh, F, c, hG⟩ := h1; exact c.box.lt
  have hm0 : (most == 0) = false := by simp; omega
  go_upto_region 4 with (fail)
  generalize hA : World.alloc _ _ = a1
  have u2 : Upd Non w1 a1 := by rw [← hA]; exact (Upd.refl Non w1).alloc _
  have S1 : Blk a1 w1.heap.size #[.bool hit, .string ⟨#[]⟩, .bool false] 57 := by rw [← hA]; exact Blk.new w1 _ _
  have R2 := R1.upd u2 id
  have h2 := h1.non u2
  replace u0 := u0.trans u2 (fun _ h => h.elim)
  have hsr : w.heap.size < w1.heap.size := hR1
  have hws := u0.size
  clear hA u2 R1 h1 c0 hbc hR1
  generalize w1.heap.size = bs at S1 hsr ⊢
  generalize hbr : w.heap.size = br at R2 hsr ⊢
  have HBR := hid hbr
  clear hbr
  have c0 : a1.cell? ⟨bc, 0, none⟩ = some (.int .i64 most) := by obtain ⟨bh, F, c, hG⟩ := h2; exact c.cells.1
  obtain ⟨s0, s1, s2, -, -, -⟩ := blk3 S1
  have hL : ∀ n, Calls Try.prog 29 #[.pointer (some ⟨bc, 0, none⟩)] (a1.drewN n) fun e w' => e = .returned (.int .i64 m.length) ∧ w' = a1.drewN n := fun n => (len_lr (h2.non ((Upd.refl Non a1).drewN n))).mono (fun e w' h => ⟨h.1, h.2.symm⟩)
  have hNR : ¬ G br := fun hk => by have := hlt _ hk; have := HBR.out; omega
  have hNS : ¬ G bs := fun hk => by have := hlt _ hk; have := HBR.out; omega
  go_cut [27] (fun s27 wc => s27 = .bool false ∧ ∃ n, wc = a1.drewN n)
  case first =>
    cases hit with
    | true =>
      go_quiet (fail)
      go_wp2_with fail
      go_meet
      exact ⟨rfl, nq, rfl⟩
    | false =>
      have hml : (m.length : Int) < most := by simpa using hr
      have hd : decide (most ≤ (m.length : Int)) = false := by simp; omega
      go_quiet ((go_at_call 29; exact Calls.quiet_of_same (hL _)))
      go_wp2_with fail
      go_meet
      exact ⟨rfl, nq, rfl⟩
  case rest =>
  obtain ⟨rfl, nn, rfl⟩ := hcut
  have u3 := (Upd.refl Non a1).drewN nn
  have h4 := h2.non u3
  have R4 := R2.upd u3 id
  have S4 := S1.upd u3 id
  replace u0 := u0.trans u3 (fun _ h => h.elim)
  clear hL c0 s0 s1 s2 h2 R2 S1 hr hm0
  generalize World.drewN _ _ = a4 at u0 h4 R4 S4 ⊢
  go_wp2_with fail
  refine (ask_lr h4 (by omega) hk).mono ?_
  rintro e w5 ⟨rfl, G', h5, u5, q5⟩
  have R5 := R4.upd u5 hNR
  have S5 := S4.upd u5 hNS
  obtain ⟨s0, s1, s2, -, -, -⟩ := blk3 S5
  obtain ⟨v0, v1, v2, t0, t1, t2⟩ := blk3 R5
  have hn5 : ∀ k, G' k → ¬ k = br := fun k hk e => q5.no hNR R4.lt (e ▸ hk)
  have R6 : Blk (((w5.setCell ⟨br, 0, none⟩ (.bool hit)).setCell ⟨br, 1, none⟩ (.string ⟨#[]⟩)).setCell ⟨br, 2, none⟩ (.bool false)) br #[.bool hit, .string ⟨#[]⟩, .bool false] 57 := ((R5.set 0 _).set 1 _).set 2 _
  obtain ⟨r0, r1, r2, -, -, -⟩ := blk3 R6
  have u6 : Upd (fun k => k = br) w5 (((w5.setCell ⟨br, 0, none⟩ (.bool hit)).setCell ⟨br, 1, none⟩ (.string ⟨#[]⟩)).setCell ⟨br, 2, none⟩ (.bool false)) := ((((Upd.refl _ w5).set1 0 _)).set1 1 _).set1 2 _
  go_wp2_with fail
  refine bodyPost_ret (v := stepV hit ⟨#[]⟩ false) (by simp [results, Try.results28, go_sem, r0, r1, r2, stepV]) rfl ⟨rfl, G', h5.upd u6 hn5, ?_, ?_⟩
  · exact ((u0.mono (fun _ h => h.elim)).trans u5 (fun k hk => .inl hk)).trans u6 (fun k hk => .inr (by rw [hk]; exact Nat.le_of_eq HBR.out))
  · exact fun k hk => (q5 k hk).imp id (fun e => Nat.le_trans u0.size e)

set_option maxRecDepth 100000 in
set_option maxHeartbeats 1600000 in
/-- Request that lets one go. -/
theorem request_out {y : Itm ByteArray} {r : List (Itm ByteArray)} (h : LR w bc G (y :: r) most now churn) (hl : now ≤ 900000) (h0 : 0 < most) {key : ByteArray} (hk : key.size ≤ maxLen) (hh : (findM (y :: r) key).isSome = false) (hr : most ≤ ((y :: r).length : Int)) :
    Calls Try.prog 28 #[.pointer (some ⟨bc, 0, none⟩), .string key] w fun e w' => e = .returned (stepV false y.key true) ∧ ∃ G', LR w' bc G' (askM r now churn key) most (now + 1) churn ∧ Upd G w w' ∧ Within w G G' := by
  have hlt := h.lt
  have hH := fun W (u : Upd Non w W) => has_lr (h.non u) (by omega) hk false hh
  have HH := hid hh
  clear hh
  have hnn := h.nn
  go_enter Try.func28, Try.ntmps28
  go_wp2_with fail
  generalize hA : World.alloc _ _ = a0
  have u0 : Upd Non w a0 := by rw [← hA]; exact (Upd.refl Non w).alloc _
  have R0 : Blk a0 w.heap.size #[.bool false, .string ⟨#[]⟩, .bool false] 57 := by rw [← hA]; exact Blk.new w _ _
  clear hA
  refine (hH _ u0).mono ?_
  rintro e w1 ⟨rfl, u1⟩
  have R1 := R0.upd u1 id
  replace u0 := u0.trans u1 (fun _ h => h.elim)
  have h1 := h.non u0
  have hR1 := R1.lt
  clear u1 R0 hH
  have c0 : w1.cell? ⟨bc, 0, none⟩ = some (.int .i64 most) := by obtain ⟨bh, F, c, hG⟩ := h1; exact c.cells.1
  have hbc : bc < w1.heap.size := by obtain ⟨bh, F, c, hG⟩ := h1; exact c.box.lt
  have hm0 : (most == 0) = false := by simp; omega
  go_upto_region 4 with (fail)
  generalize hA : World.alloc _ _ = a1
  have u2 : Upd Non w1 a1 := by rw [← hA]; exact (Upd.refl Non w1).alloc _
  have S1 : Blk a1 w1.heap.size #[.bool false, .string ⟨#[]⟩, .bool false] 57 := by rw [← hA]; exact Blk.new w1 _ _
  have R2 := R1.upd u2 id
  have h2 := h1.non u2
  replace u0 := u0.trans u2 (fun _ h => h.elim)
  have hsr : w.heap.size < w1.heap.size := hR1
  have hws := u0.size
  clear hA u2 R1 h1 c0 hbc hR1
  have HB1 := hid (Nat.le_trans (Nat.le_refl w.heap.size) (Nat.le_of_lt hsr))
  generalize w1.heap.size = bs at S1 hsr HB1 ⊢
  generalize hbr : w.heap.size = br at R2 hsr ⊢
  have HBR := hid hbr
  clear hbr
  have c0 : a1.cell? ⟨bc, 0, none⟩ = some (.int .i64 most) := by obtain ⟨bh, F, c, hG⟩ := h2; exact c.cells.1
  obtain ⟨s0, s1, s2, -, -, -⟩ := blk3 S1
  have hL : ∀ n, Calls Try.prog 29 #[.pointer (some ⟨bc, 0, none⟩)] (a1.drewN n) fun e w' => e = .returned (.int .i64 (y :: r).length) ∧ w' = a1.drewN n := fun n => (len_lr (h2.non ((Upd.refl Non a1).drewN n))).mono (fun e w' h => ⟨h.1, h.2.symm⟩)
  have hNR : ¬ G br := fun hk => by have := hlt _ hk; have := HBR.out; omega
  have hNS : ¬ G bs := fun hk => by have := hlt _ hk; have := HBR.out; omega
  have hd : decide (most ≤ ((y :: r).length : Int)) = true := by simpa using hr
  generalize (y :: r).length = len at hd hL
  go_cut [27] (fun s27 wc => s27 = .bool true ∧ ∃ n, wc = a1.drewN n)
  case first =>
    go_quiet ((go_at_call 29; exact Calls.quiet_of_same (hL _)))
    go_wp2_with fail
    go_meet
    exact ⟨rfl, nq, rfl⟩
  case rest =>
  obtain ⟨rfl, nn, rfl⟩ := hcut
  have u3 := (Upd.refl Non a1).drewN nn
  have h4 := h2.non u3
  have R4 := R2.upd u3 id
  have S4 := S1.upd u3 id
  replace u0 := u0.trans u3 (fun _ h => h.elim)
  clear hL c0 s0 s1 s2 h2 R2 S1 hm0 hd u3
  generalize World.drewN _ _ = a4 at u0 h4 R4 S4 ⊢
  obtain ⟨bh, F, c, hG⟩ := h4
  have HC := pop_hr c.hr (by have := c.len; omega) (.tuple #[.string y.key, .bool true]) rfl
  obtain ⟨-, -, -, c3⟩ := c.cells
  go_wp2_with fail
  refine HC.mono ?_
  rintro e w4 ⟨rfl, F4, h4, u4, q4⟩
  obtain ⟨G4, l4, u4', q4'⟩ := lr_heap c hG h4 u4 q4 (fun z hz => List.mem_of_mem_tail hz) (by simp)
  have RR := R4.upd u4' hNR
  have SS := S4.upd u4' hNS
  have gR : ¬ G4 br := q4'.no hNR R4.lt
  have gS : ¬ G4 bs := q4'.no hNS S4.lt
  obtain ⟨s0, s1, s2, f0, f1, f2⟩ := blk3 SS
  clear R4 S4 HC c h4 u4 q4 c3
  go_upto_region 6 with (fail)
  generalize hW : World.setCell _ _ _ = w6
  have u6 : Upd (fun k => k = bs) w4 w6 := by rw [← hW]; exact ((Upd.refl _ w4).set1 1 _).set1 2 _
  have S4 : Blk w6 bs #[.bool false, .string y.key, .bool true] 57 := by rw [← hW]; exact (SS.set 1 _).set 2 _
  have R4 : Blk w6 br #[.bool false, .string ⟨#[]⟩, .bool false] 57 := RR.upd u6 (by omega)
  have h4 := l4.upd u6 (fun k hk e => gS (e ▸ hk))
  have u46 : Upd G w w6 := (((u0.mono (fun _ h => h.elim)) : Upd G w a4).trans u4' (fun k hk => .inl hk)).trans u6 (fun k hk => .inr (by rw [hk]; exact HB1.out))
  clear hW s0 s1 s2 f0 f1 f2 u6 SS RR l4 u4' hNR hNS
  go_wp2_with fail
  refine (ask_lr h4 (by omega) hk).mono ?_
  rintro e w5 ⟨rfl, G', h5, u5, q5⟩
  have R5 := R4.upd u5 gR
  have S5 := S4.upd u5 gS
  obtain ⟨s0, s1, s2, -, -, -⟩ := blk3 S5
  obtain ⟨v0, v1, v2, t0, t1, t2⟩ := blk3 R5
  have hn5 : ∀ k, G' k → ¬ k = br := fun k hk e => q5.no gR R4.lt (e ▸ hk)
  have R6 : Blk (((w5.setCell ⟨br, 0, none⟩ (.bool false)).setCell ⟨br, 1, none⟩ (.string y.key)).setCell ⟨br, 2, none⟩ (.bool true)) br #[.bool false, .string y.key, .bool true] 57 := ((R5.set 0 _).set 1 _).set 2 _
  obtain ⟨r0, r1, r2, -, -, -⟩ := blk3 R6
  have u7 : Upd (fun k => k = br) w5 (((w5.setCell ⟨br, 0, none⟩ (.bool false)).setCell ⟨br, 1, none⟩ (.string y.key)).setCell ⟨br, 2, none⟩ (.bool true)) := ((((Upd.refl _ w5).set1 0 _)).set1 1 _).set1 2 _
  go_wp2_with fail
  refine bodyPost_ret (v := stepV false y.key true) (by simp [results, Try.results28, go_sem, r0, r1, r2, stepV]) rfl ⟨rfl, G', h5.upd u7 hn5, ?_, ?_⟩
  · exact (u46.trans u5 (fun k hk => (q4' k hk).imp id (fun e => Nat.le_trans u0.size e))).trans u7 (fun k hk => .inr (by rw [hk]; exact Nat.le_of_eq HBR.out))
  · exact fun k hk => (q5 k hk).elim (fun h => (q4' k h).imp id (fun e => Nat.le_trans u0.size e)) (fun e => .inr (Nat.le_trans u46.size e))

end Go.Proofs.Ytalnjkeajlbbpaa
