/- lfu.Cache: Resize. -/
import Derived.Test.YtalnjkeajlbbpaaLfuG
namespace Go.Proofs.Ytalnjkeajlbbpaa
open Go.RowKit

structure ResS (w0 : World) (G0 : Nat → Prop) (w : World) (bc b2 b5 : Nat) (G : Nat → Prop) (m : List (Itm ByteArray)) (most now : Int) (churn : Bool) (v : Value) (ks : List ByteArray) : Prop where
  c : LR w bc G m most now churn
  upd : Upd G0 w0 w
  win : Within w0 G0 G
  B2 : Blk w b2 #[.pointer (some ⟨bc, 0, none⟩)] 52
  B5 : Blk w b5 #[v] 33
  row : w.ownsRow w0.heap.size 9 1 v ks.length (ks.map Value.string)
  rowF : ∀ k, v.ownBlock = some k → ¬ G k ∧ k ≠ b2 ∧ k ≠ b5
  no2 : ¬ G b2
  no5 : ¬ G b5
  ne : b2 ≠ b5
  f2 : w0.heap.size ≤ b2
  f5 : w0.heap.size ≤ b5

variable {w0 w w' : World} {G0 G : Nat → Prop} {bc b2 b5 : Nat} {m : List (Itm ByteArray)} {most now : Int} {churn : Bool} {v : Value} {ks : List ByteArray}

theorem ResS.non (s : ResS w0 G0 w bc b2 b5 G m most now churn v ks) (u : Upd Non w w') : ResS w0 G0 w' bc b2 b5 G m most now churn v ks :=
  ⟨s.c.non u, s.upd.trans u (fun _ h => h.elim), s.win, s.B2.upd u id, s.B5.upd u id, ownsRow_upd s.row u (fun _ _ => id), s.rowF, s.no2, s.no5, s.ne, s.f2, s.f5⟩

theorem ResS.pop (s : ResS w0 G0 w bc b2 b5 G m most now churn v ks) {G' : Nat → Prop} {m' : List (Itm ByteArray)} (h : LR w' bc G' m' most now churn) (u : Upd G w w') (q : Within w G G') : ResS w0 G0 w' bc b2 b5 G' m' most now churn v ks :=
  ⟨h, s.upd.trans u s.win, fun k hk => (q k hk).elim (s.win k) (fun e => .inr (Nat.le_trans s.upd.size e)), s.B2.upd u s.no2, s.B5.upd u s.no5, ownsRow_upd s.row u (fun k hk => (s.rowF k hk).1), fun k hk => ⟨q.no (s.rowF k hk).1 (s.row.lt k hk).2, (s.rowF k hk).2⟩, q.no s.no2 s.B2.lt, q.no s.no5 s.B5.lt, s.ne, s.f2, s.f5⟩

theorem res_app (s : ResS w0 G0 w bc b2 b5 G m most now churn v ks) {g cap : Nat} {x : ByteArray} (h : w'.ownsRow w0.heap.size 9 1 (.slice (some ⟨g, 0, none⟩) (ks.length + 1) cap) (ks.length + 1) (ks.map Value.string ++ [.string x]))
    (hg : w.grownBy w' v.ownBlock) (ha : v.ownBlock = some g ∨ w.heap.size ≤ g) :
    w'.cell? ⟨b5, 0, none⟩ = some v ∧ w'.frozen? ⟨b5, 0, none⟩ = false ∧ ResS w0 G0 (w'.setCell ⟨b5, 0, none⟩ (.slice (some ⟨g, 0, none⟩) (ks.length + 1) cap)) bc b2 b5 G m most now churn (.slice (some ⟨g, 0, none⟩) (ks.length + 1) cap) (ks ++ [x]) := by
  have u : Upd (fun k => v.ownBlock = some k) w w' := (Upd.refl _ w).grown hg (fun k hk => .inl hk)
  have B5 := s.B5.upd u (fun hk => (s.rowF _ hk).2.2 rfl)
  have B2 := s.B2.upd u (fun hk => (s.rowF _ hk).2.1 rfl)
  have hgg : ¬ G g ∧ g ≠ b2 ∧ g ≠ b5 := by
    rcases ha with ha | ha
    · exact s.rowF _ ha
    · exact ⟨fun hk => by have := s.c.lt _ hk; omega, fun e => by have := s.B2.lt; omega, fun e => by have := s.B5.lt; omega⟩
  have u2 : Upd (fun k => k = b5) w' (w'.setCell ⟨b5, 0, none⟩ (.slice (some ⟨g, 0, none⟩) (ks.length + 1) cap)) := (Upd.refl _ w').set1 0 _
  refine ⟨B5.cell 0 rfl, B5.frozen 0, ⟨(s.c.upd u (fun k hk h => (s.rowF k h).1 hk)).upd u2 (fun k hk e => s.no5 (e ▸ hk)), (s.upd.trans u (fun k hk => .inr (s.row.lt k hk).1)).trans u2 (fun k hk => .inr (hk ▸ s.f5)), s.win, B2.upd u2 s.ne, B5.set 0 _, ?_, ?_, s.no2, s.no5, s.ne, s.f2, s.f5⟩⟩
  · have := ownsRow_upd h u2 (fun k hk e => by simp [Value.ownBlock] at hk; exact hgg.2.2 (hk.trans e))
    simpa using this
  · intro k hk
    simp only [Value.ownBlock, Option.some.injEq] at hk
    subst hk
    exact hgg

set_option maxRecDepth 100000 in
set_option maxHeartbeats 1600000 in
theorem goes_is {y : Itm ByteArray} {r : List (Itm ByteArray)} (s : ResS w0 G0 w bc b2 b5 G (y :: r) most now churn v ks) (hl : now ≤ 900000) (hk : ks.length ≤ 900000) :
    Calls Try.prog 64 #[.pointer (some ⟨b2, 0, none⟩), .pointer (some ⟨b5, 0, none⟩)] w fun e w' => e = .returned (.tuple #[]) ∧ ∃ G' v', ResS w0 G0 w' bc b2 b5 G' r most now churn v' (ks ++ [y.key]) := by
  obtain ⟨i0, hi, hz0, hz1, hz2⟩ := info_parts infoS
  have p0 : w.cell? ⟨b2, 0, none⟩ = some (.pointer (some ⟨bc, 0, none⟩)) := s.B2.cell 0 rfl
  obtain ⟨bh, F, c, hG⟩ := s.c
  obtain ⟨-, -, -, c3⟩ := c.cells
  have HC := pop_hr c.hr (by have := c.len; omega) (.tuple #[.string y.key, .bool true]) rfl
  go_enter Try.func64, Try.ntmps64
  go_wp2_with fail
  refine HC.mono ?_
  rintro e w1 ⟨rfl, F', h', u, q⟩
  obtain ⟨G1, l1, u1, q1⟩ := lr_heap c hG h' u q (fun z hz => List.mem_of_mem_tail hz) (by simp)
  have s1 := s.pop l1 u1 q1
  have k5 : w1.cell? ⟨b5, 0, none⟩ = some v := s1.B5.cell 0 rfl
  clear HC h' u q p0 c3 l1 u1 q1
  have s2 := s1.non ((Upd.refl Non w1).alloc (.cells #[.string y.key] 9))
  go_wp2_with (at_builtin; refine wpList_append_some rfl (.tmp 12) (.tmp 14) 33 rfl w0.heap.size 9 i0 (.string ByteArray.empty) 1 16 Try.underlying33 hi hz0 hz1 hz2 rfl (by decide) _ ks.length (ks.map Value.string) rfl (s1.row.alloc _) ⟨w1.heap.size, 0, none⟩ 1 1 [.string y.key] rfl rfl (news_blk (vs := #[.string y.key]) (Blk.new w1 _ 9)) (by simp [Value.oneCell']) (by unfold maxLen; omega) (by omega) (by have := s1.upd.size; simp; omega) (by decide) ?_; intro gg cap' w5 hown hgrow hat; obtain ⟨j0, j1, t5⟩ := res_app s2 hown hgrow (hat.imp id (fun e => Nat.le_of_eq (by rw [e]))); clear hown hgrow hat)
  go_end0
  exact ⟨rfl, G1, _, t5⟩

theorem owned_arrF {base : Nat} {e : TypeId} {vo : Value} {ks : List ByteArray} {F : Nat → Prop} (h : w.ownsRow base e 1 vo ks.length (ks.map Value.string)) (hF : ∀ k, vo.ownBlock = some k → ¬ F k) : ∃ av cap, vo = .slice av ks.length cap ∧ Arr w F av 1 (strC ks) := by
  obtain ⟨hl, ⟨rfl, h0⟩ | ⟨g, cap, cur, rfl, hb, hg, hn, hm, hs, ht⟩⟩ := h
  · refine ⟨none, 0, by rw [h0], fun hne => ?_⟩
    rw [List.length_eq_zero_iff] at h0
    subst h0
    exact absurd rfl hne
  · refine ⟨_, cap, rfl, fun hne => ⟨g, 0, rfl, Blk.lt (vs := cur) hg, hF g rfl, fun i c hi j v hj => ?_⟩⟩
    simp only [strC, List.getElem?_map] at hi
    cases hk : ks[i]? with
    | none => rw [hk] at hi; cases hi
    | some s =>
      rw [hk] at hi
      simp only [Option.map_some, Option.some.injEq] at hi
      subst hi
      match j, hj with
      | 0, hj =>
        simp only [List.getElem?_cons_zero, Option.some.injEq] at hj
        subst hj
        refine Blk.cell (vs := cur) hg _ ?_
        have e1 : (cur.toList.take (ks.length * 1))[i]? = some (.string s) := by rw [ht, List.getElem?_map, hk]; rfl
        rw [List.getElem?_take] at e1
        split at e1
        · simpa using e1
        · cases e1
      | j + 1, hj => simp at hj

set_option maxRecDepth 100000 in
set_option maxHeartbeats 1600000 in
theorem resize_lr (h : LR w bc G m most now churn) (hl : now ≤ 900000) (less k : Int) (n : Nat) (hk : max less 0 = k) (hn : (n : Int) = max 0 ((m.length : Int) - k)) :
    Calls Try.prog 44 #[.pointer (some ⟨bc, 0, none⟩), .int .i64 less] w fun e w' => ∃ av cap G', e = .returned (.slice av n cap) ∧ Arr w' G' av 1 (strC ((keysM m).take n)) ∧ LR w' bc G' (m.drop n) k now churn ∧ Upd G w w' ∧ Within w G G' := by
  have hmx := max_is less
  rw [hk] at hmx
  have hk0 : 0 ≤ k := by omega
  have HK := hid hk
  have HN := hid hn
  have hml := h.nn.2.2
  have hmb : m.length ≤ 900000 := by omega
  have hGb : G bc ∧ bc < w.heap.size := by obtain ⟨bh, F, c, hG⟩ := h; exact ⟨(hG bc).1 (.inr rfl), c.box.lt⟩
  obtain ⟨hGbc, hbc⟩ := hGb
  have c0 : w.cell? ⟨bc, 0, none⟩ = some (.int .i64 most) := by obtain ⟨bh, F, c, hG⟩ := h; exact c.cells.1
  have f0 : w.frozen? ⟨bc, 0, none⟩ = false := by obtain ⟨bh, F, c, hG⟩ := h; exact c.box.frozen 0
  have hs0 : ResS w G (((w.setCell ⟨bc, 0, none⟩ (.int .i64 k)).alloc (.cells #[.pointer (some ⟨bc, 0, none⟩)] 52)).alloc (.cells #[.slice none 0 0] 33)) bc w.heap.size (w.heap.size + 1) G (m.drop 0) k now churn (.slice none 0 0) ((keysM m).take 0) := by
    have u2 : Upd (fun x => x = bc) w (w.setCell ⟨bc, 0, none⟩ (.int .i64 k)) := (Upd.refl _ _).set1 0 _
    have hno2 : ¬ G w.heap.size := fun hk => by have := h.lt _ hk; omega
    have hno5 : ¬ G (w.heap.size + 1) := fun hk => by have := h.lt _ hk; omega
    have hL : LR (((w.setCell ⟨bc, 0, none⟩ (.int .i64 k)).alloc (.cells #[.pointer (some ⟨bc, 0, none⟩)] 52)).alloc (.cells #[.slice none 0 0] 33)) bc G (m.drop 0) k now churn := by
      obtain ⟨bh, F, c, hG⟩ := h
      have hx : LR (w.setCell ⟨bc, 0, none⟩ (.int .i64 k)) bc G m k now churn := ⟨bh, F, ⟨c.box.set 0 _, c.hr.upd u2 (fun k hk e => c.no (e ▸ hk)), c.no, c.nn, hk0, c.len, c.ones, c.twos⟩, hG⟩
      exact (hx.non ((Upd.refl Non _).alloc _)).non ((Upd.refl Non _).alloc _)
    refine ⟨hL, ((u2.mono (fun x hx => .inl (hx ▸ hGbc))).alloc _).alloc _, Within.refl _ _, (Blk.new' _ _ _ (by simp [World.setCell])).alloc _, Blk.new' _ _ _ (by simp [World.setCell]), ⟨rfl, .inl ⟨rfl, rfl⟩⟩, by simp [Value.ownBlock], hno2, hno5, by omega, Nat.le_refl _, by omega⟩
  clear hk hn
  go_enter Try.func44, Try.ntmps44
  go_wp2_with fail
  generalize w.heap.size + 1 = b5 at hs0 ⊢
  generalize w.heap.size = b2 at hs0 ⊢
  go_loopg [] n (fun kk wr => ∃ (i : Nat) (G' : Nat → Prop) (v : Value), i ≤ n ∧ n - i ≤ kk ∧ ResS w G wr bc b2 b5 G' (m.drop i) k now churn v ((keysM m).take i))
  case atStart => exact ⟨0, G, _, Nat.zero_le _, Nat.sub_le _ _, hs0⟩
  case round =>
    clear hs0
    obtain ⟨i, G', v, hi, hik, s⟩ := hrel
    have p2 : wr.cell? ⟨b2, 0, none⟩ = some (.pointer (some ⟨bc, 0, none⟩)) := s.B2.cell 0 rfl
    have c0 : wr.cell? ⟨bc, 0, none⟩ = some (.int .i64 k) := by obtain ⟨bh, F, c, hG⟩ := s.c; exact c.cells.1
    have hL : ∀ n, Calls Try.prog 29 #[.pointer (some ⟨bc, 0, none⟩)] (wr.drewN n) fun e w' => e = .returned (.int .i64 (m.drop i).length) ∧ w' = wr.drewN n := fun n => (len_lr (s.c.non ((Upd.refl Non wr).drewN n))).mono (fun e w' h => ⟨h.1, h.2.symm⟩)
    by_cases hlt : i < n
    · have him : i < m.length := by have := HN.out; omega
      obtain ⟨y, hy⟩ : ∃ y, m[i]? = some y := ⟨m[i], List.getElem?_eq_getElem him⟩
      have hd : decide (k < ((m.drop i).length : Int)) = true := by have := HN.out; simp; omega
      generalize (m.drop i).length = len at hL hd
      rw [drop_cons hy] at s
      have hky : (keysM m)[i]? = some y.key := by simp [keysM, hy]
      have hS := fun q => goes_is (s.non ((Upd.refl Non wr).drewN q)) hl (by have := (keysM m).length_take_le i; simp; omega)
      rw [← take_snoc hky] at hS
      clear hy hky
      go_wp2_with fail
      go_quiet ((go_at_call 29; exact Calls.quiet_of_same (hL _)))
      go_wp2_with fail
      refine (hS _).mono ?_
      rintro e w5 ⟨rfl, G5, v5, s5⟩
      go_wp2_with fail
      go_roundg (n - (i + 1))
      case measure => omega
      case rel => exact ⟨i + 1, G5, v5, by omega, Nat.le_refl _, s5⟩
    · obtain rfl : i = n := by omega
      have hd : decide (k < ((m.drop i).length : Int)) = false := by have := HN.out; simp; omega
      generalize (m.drop i).length = len at hL hd
      have hlen : ((keysM m).take i).length = i := by
        have h1 : (keysM m).length = m.length := by simp [keysM]
        have := HN.out
        rw [List.length_take, h1]; omega
      obtain ⟨av, cap, hv, ha⟩ := owned_arrF (F := G') s.row (fun k hk => (s.rowF k hk).1)
      rw [hlen] at hv
      subst hv
      have p5 : wr.cell? ⟨b5, 0, none⟩ = some (.slice av i cap) := s.B5.cell 0 rfl
      clear hlen
      go_wp2_with fail
      go_quiet ((go_at_call 29; exact Calls.quiet_of_same (hL _)))
      go_wp2_with fail
      go_ret
      have u := (Upd.refl Non wr).drewN nq
      exact ⟨av, cap, G', rfl, ha.non u, s.c.non u, s.upd.trans u (fun _ h => h.elim), s.win⟩

end Go.Proofs.Ytalnjkeajlbbpaa
