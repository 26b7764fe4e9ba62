/- Walk: the statement LfuOnce. -/
import Derived.Test.YtalnjkeajlbbpaaOnce
import Derived.Test.YtalnjkeajlbbpaaLfuH
import Derived.Deep.RegionWith
import Derived.Test.YtalnjkeajlbbpaaDet
namespace Go.Proofs.Ytalnjkeajlbbpaa
open Go.RowKit
set_option linter.unusedSimpArgs false
set_option linter.unusedVariables false

structure OnS (w1 w : World) (bc : Nat) (G : Nat → Prop) (m : List (Itm ByteArray)) (na : Int) (bd : Nat) (H : Nat → Prop) (m' : List (Itm ByteArray)) (nb most : Int) (v : Value) (r : List ByteArray) : Prop where
  l : L2 w1 w bc G m most na false bd H m' most nb true
  row : w.ownsRow w1.heap.size 9 1 v r.length (r.map Value.string)
  rowF : ∀ k, v.ownBlock = some k → ¬ G k ∧ ¬ H k

variable {w1 w w' : World} {bc bd : Nat} {G H : Nat → Prop} {m m' : List (Itm ByteArray)} {na nb most : Int} {v : Value} {r : List ByteArray}

theorem OnS.non (s : OnS w1 w bc G m na bd H m' nb most v r) (u : Upd Non w w') : OnS w1 w' bc G m na bd H m' nb most v r :=
  ⟨s.l.non u, ownsRow_upd s.row u (fun _ _ => id), s.rowF⟩
theorem OnS.left (s : OnS w1 w bc G m na bd H m' nb most v r) {G' : Nat → Prop} {n : List (Itm ByteArray)} {y : Int} (h : LR w' bc G' n most y false) (u : Upd G w w') (q : Within w G G') : OnS w1 w' bc G' n y bd H m' nb most v r :=
  ⟨s.l.left h u q, ownsRow_upd s.row u (fun k hk => (s.rowF k hk).1), fun k hk => ⟨q.no (s.rowF k hk).1 (s.row.lt k hk).2, (s.rowF k hk).2⟩⟩
theorem OnS.right (s : OnS w1 w bc G m na bd H m' nb most v r) {H' : Nat → Prop} {n : List (Itm ByteArray)} {y : Int} (h : LR w' bd H' n most y true) (u : Upd H w w') (q : Within w H H') : OnS w1 w' bc G m na bd H' n y most v r :=
  ⟨s.l.right h u q, ownsRow_upd s.row u (fun k hk => (s.rowF k hk).2), fun k hk => ⟨(s.rowF k hk).1, q.no (s.rowF k hk).2 (s.row.lt k hk).2⟩⟩

theorem on_app (s : OnS w1 w bc G m na bd H m' nb most v r) {g cap : Nat} {x : ByteArray} (h : w'.ownsRow w1.heap.size 9 1 (.slice (some ⟨g, 0, none⟩) (r.length + 1) cap) (r.length + 1) (r.map Value.string ++ [.string x]))
    (hg : w.grownBy w' v.ownBlock) (ha : v.ownBlock = some g ∨ w.heap.size ≤ g) : OnS w1 w' bc G m na bd H m' nb most (.slice (some ⟨g, 0, none⟩) (r.length + 1) cap) (r ++ [x]) := by
  have u : Upd (fun k => v.ownBlock = some k) w w' := (Upd.refl _ w).grown hg (fun k hk => .inl hk)
  refine ⟨⟨s.l.a.upd u (fun k hk h => (s.rowF k h).1 hk), s.l.b.upd u (fun k hk h => (s.rowF k h).2 hk), s.l.ab, s.l.upd.trans u (fun k hk => .inr (s.row.lt k hk).1), s.l.fa, s.l.fb⟩, by simpa using h, fun k hk => ?_⟩
  simp only [Value.ownBlock, Option.some.injEq] at hk
  subst hk
  rcases ha with ha | ha
  · exact s.rowF _ ha
  · exact ⟨fun hk => by have := s.l.a.lt _ hk; omega, fun hk => by have := s.l.b.lt _ hk; omega⟩

/-- A block of the round's own beside the caches and the row. -/
structure Zb (w1 w : World) (G H : Nat → Prop) (v : Value) (b : Nat) (vs : Array Value) (T : TypeId) : Prop where
  blk : Blk w b vs T
  nG : ¬ G b
  nH : ¬ H b
  nv : v.ownBlock ≠ some b
  fb : w1.heap.size ≤ b

section
variable {G' H' : Nat → Prop} {b b' : Nat} {vs vs' us : Array Value} {T T' : TypeId}

theorem Zb.non (z : Zb w1 w G H v b vs T) (u : Upd Non w w') : Zb w1 w' G H v b vs T := ⟨z.blk.upd u id, z.nG, z.nH, z.nv, z.fb⟩
theorem Zb.left (z : Zb w1 w G H v b vs T) (u : Upd G w w') (q : Within w G G') : Zb w1 w' G' H v b vs T := ⟨z.blk.upd u z.nG, q.no z.nG z.blk.lt, z.nH, z.nv, z.fb⟩
theorem Zb.right (z : Zb w1 w G H v b vs T) (u : Upd H w w') (q : Within w H H') : Zb w1 w' G H' v b vs T := ⟨z.blk.upd u z.nH, z.nG, q.no z.nH z.blk.lt, z.nv, z.fb⟩
theorem OnS.zb (s : OnS w1 w bc G m na bd H m' nb most v r) (vs : Array Value) (T : TypeId) : Zb w1 (w.alloc (.cells vs T)) G H v w.heap.size vs T :=
  ⟨Blk.new w vs T, fun h => by have := s.l.a.lt _ h; omega, fun h => by have := s.l.b.lt _ h; omega, fun h => by have := (s.row.lt _ h).2; omega, s.l.upd.size⟩
theorem OnS.al (s : OnS w1 w bc G m na bd H m' nb most v r) (o : Obj) : OnS w1 (w.alloc o) bc G m na bd H m' nb most v r := s.non ((Upd.refl Non w).alloc o)
theorem OnS.zb2 (s : OnS w1 w bc G m na bd H m' nb most v r) (o : Obj) (vs : Array Value) (T : TypeId) : Zb w1 ((w.alloc o).alloc (.cells vs T)) G H v (w.heap.size + 1) vs T := by
  have h := (s.al o).zb vs T
  have e : (w.alloc o).heap.size = w.heap.size + 1 := by simp
  rw [e] at h
  exact h
theorem OnS.dr (s : OnS w1 w bc G m na bd H m' nb most v r) : OnS w1 w.drew bc G m na bd H m' nb most v r := s.non (Upd.refl Non w).drew
theorem Zb.al (z : Zb w1 w G H v b vs T) (o : Obj) : Zb w1 (w.alloc o) G H v b vs T := z.non ((Upd.refl Non w).alloc o)
theorem Zb.dr (z : Zb w1 w G H v b vs T) : Zb w1 w.drew G H v b vs T := z.non (Upd.refl Non w).drew
theorem zcells {v0 v1 v2 : Value} (z : Zb w1 w G H v b #[v0, v1, v2] T) : w.cell? ⟨b, 0, none⟩ = some v0 ∧ w.cell? ⟨b, 1, none⟩ = some v1 ∧ w.cell? ⟨b, 2, none⟩ = some v2 ∧ w.frozen? ⟨b, 0, none⟩ = false ∧ w.frozen? ⟨b, 1, none⟩ = false ∧ w.frozen? ⟨b, 2, none⟩ = false ∧
    (∀ o, (w.alloc o).cell? ⟨b, 0, none⟩ = some v0) ∧ (∀ o, (w.alloc o).cell? ⟨b, 1, none⟩ = some v1) ∧ (∀ o, (w.alloc o).cell? ⟨b, 2, none⟩ = some v2) ∧ (∀ o, (w.alloc o).frozen? ⟨b, 0, none⟩ = false) ∧ (∀ o, (w.alloc o).frozen? ⟨b, 1, none⟩ = false) ∧ (∀ o, (w.alloc o).frozen? ⟨b, 2, none⟩ = false) ∧ w.heap.size ≠ b ∧ b ≠ w.heap.size :=
  ⟨z.blk.cell 0 rfl, z.blk.cell 1 rfl, z.blk.cell 2 rfl, z.blk.frozen 0, z.blk.frozen 1, z.blk.frozen 2, fun o => (z.al o).blk.cell 0 rfl, fun o => (z.al o).blk.cell 1 rfl, fun o => (z.al o).blk.cell 2 rfl, fun o => (z.al o).blk.frozen 0, fun o => (z.al o).blk.frozen 1, fun o => (z.al o).blk.frozen 2, by have := z.blk.lt; omega, by have := z.blk.lt; omega⟩

theorem zset (s : OnS w1 w bc G m na bd H m' nb most v r) (z : Zb w1 w G H v b vs T) (z' : Zb w1 w G H v b' vs' T') (hne : b ≠ b') (i : Nat) (u : Value) :
    OnS w1 (w.setCell ⟨b, i, none⟩ u) bc G m na bd H m' nb most v r ∧ Zb w1 (w.setCell ⟨b, i, none⟩ u) G H v b (vs.setIfInBounds i u) T ∧ Zb w1 (w.setCell ⟨b, i, none⟩ u) G H v b' vs' T' := by
  have hu : Upd (fun k => k = b) w (w.setCell ⟨b, i, none⟩ u) := (Upd.refl _ w).set1 i u
  refine ⟨⟨⟨s.l.a.upd hu (fun k hk e => z.nG (e ▸ hk)), s.l.b.upd hu (fun k hk e => z.nH (e ▸ hk)), s.l.ab, s.l.upd.trans hu (fun k hk => .inr (hk ▸ z.fb)), s.l.fa, s.l.fb⟩, ownsRow_upd s.row hu (fun k hk e => z.nv (e ▸ hk)), s.rowF⟩,
    ⟨z.blk.set i u, z.nG, z.nH, z.nv, z.fb⟩, ⟨z'.blk.upd hu (fun e => hne e.symm), z'.nG, z'.nH, z'.nv, z'.fb⟩⟩

theorem z_fin {x0 x1 x2 y0 y1 y2 u0 u1 u2 t0 t1 t2 : Value} (s : OnS w1 w bc G m na bd H m' nb most v r) (z : Zb w1 w G H v b #[x0, x1, x2] T) (z' : Zb w1 w G H v b' #[y0, y1, y2] T) (hne : b ≠ b') :
    OnS w1 ((((((w.setCell ⟨b, 0, none⟩ u0).setCell ⟨b, 1, none⟩ u1).setCell ⟨b, 2, none⟩ u2).setCell ⟨b', 0, none⟩ t0).setCell ⟨b', 1, none⟩ t1).setCell ⟨b', 2, none⟩ t2) bc G m na bd H m' nb most v r ∧
    Blk ((((((w.setCell ⟨b, 0, none⟩ u0).setCell ⟨b, 1, none⟩ u1).setCell ⟨b, 2, none⟩ u2).setCell ⟨b', 0, none⟩ t0).setCell ⟨b', 1, none⟩ t1).setCell ⟨b', 2, none⟩ t2) b #[u0, u1, u2] T ∧
    Blk ((((((w.setCell ⟨b, 0, none⟩ u0).setCell ⟨b, 1, none⟩ u1).setCell ⟨b, 2, none⟩ u2).setCell ⟨b', 0, none⟩ t0).setCell ⟨b', 1, none⟩ t1).setCell ⟨b', 2, none⟩ t2) b' #[t0, t1, t2] T := by
  obtain ⟨s, z, z'⟩ := zset s z z' hne 0 u0
  obtain ⟨s, z, z'⟩ := zset s z z' hne 1 u1
  obtain ⟨s, z, z'⟩ := zset s z z' hne 2 u2
  obtain ⟨s, z', z⟩ := zset s z' z hne.symm 0 t0
  obtain ⟨s, z', z⟩ := zset s z' z hne.symm 1 t1
  obtain ⟨s, z', z⟩ := zset s z' z hne.symm 2 t2
  exact ⟨s, z.blk, z'.blk⟩
theorem z_fin1 {x0 x1 x2 u0 u1 u2 : Value} (s : OnS w1 w bc G m na bd H m' nb most v r) (z : Zb w1 w G H v b #[x0, x1, x2] T) (z' : Zb w1 w G H v b' us T) (hne : b ≠ b') :
    OnS w1 (((w.setCell ⟨b, 0, none⟩ u0).setCell ⟨b, 1, none⟩ u1).setCell ⟨b, 2, none⟩ u2) bc G m na bd H m' nb most v r ∧
    Blk (((w.setCell ⟨b, 0, none⟩ u0).setCell ⟨b, 1, none⟩ u1).setCell ⟨b, 2, none⟩ u2) b' us T ∧
    Blk (((w.setCell ⟨b, 0, none⟩ u0).setCell ⟨b, 1, none⟩ u1).setCell ⟨b, 2, none⟩ u2) b #[u0, u1, u2] T := by
  obtain ⟨s, z, z'⟩ := zset s z z' hne 0 u0
  obtain ⟨s, z, z'⟩ := zset s z z' hne 1 u1
  obtain ⟨s, z, z'⟩ := zset s z z' hne 2 u2
  exact ⟨s, z'.blk, z.blk⟩
end

set_option maxRecDepth 100000 in
set_option maxHeartbeats 6400000 in
theorem once_law {w : World} {av : Option Addr} {cap : Nat} {l : List ByteArray} {most : Int} (hl : l.length ≤ 100) (hA : Arr w Non av 1 (strC l)) (hm : 1 ≤ most) :
    Calls Try.prog 8 #[.int .i64 most, .slice av l.length cap] w fun e w' => e = .returned (.bool true) ∧ Upd Non w w' := by
  obtain ⟨i0, hi, hz0, hz1, hz2⟩ := info_parts infoS
  have hmx : max most 0 = most := by omega
  have HMX := hid hmx
  clear hmx
  go_enter Try.func8, Try.ntmps8
  go_wp2_with fail
  refine (awake6_is _).mono ?_
  rintro e w1 ⟨rfl, u1⟩
  have a1 := hA.non u1
  clear hA
  go_wp2_with fail
  refine (new_lr _ most false).mono ?_
  rintro e w2 ⟨bc, G, rfl, h2, u2, hG⟩
  go_wp2_with fail
  refine (new_lr _ most true).mono ?_
  rintro e w3 ⟨bd, H, rfl, h3, u3, hH⟩
  have l3 := two_new h2 u2 hG h3 u3 hH
  rw [HMX.out] at l3
  have o3 : OnS w1 w3 bc G [] 0 bd H [] 0 most (.slice none 0 0) [] := ⟨l3, ⟨rfl, .inl ⟨rfl, rfl⟩⟩, by simp [Value.ownBlock]⟩
  clear h2 u2 hG h3 u3 hH l3
  go_wp2_with fail
  go_loopg [7, 8] l.length (fun k s7 s8 wr => ∃ (j : Nat) (G H : Nat → Prop) (m m' : List (Itm ByteArray)) (r : List ByteArray), j ≤ l.length ∧ l.length - j ≤ k ∧ s8 = .int .i64 j ∧ OnS w1 wr bc G m r.length bd H m' r.length most s7 r ∧ r.length ≤ j ∧ Hid (OnceA r m most r.length ∧ OnceB r m' most r.length))
  case atStart => exact ⟨0, G, H, [], [], [], Nat.zero_le _, Nat.sub_le _ _, rfl, o3, by simp, hid ⟨⟨by simp [keysM], by simp⟩, ⟨by simp, by simp, by simp⟩⟩⟩
  case round =>
    clear o3
    obtain ⟨j, G, H, m, m', r, hj, hjk, rfl, s, hrj, HI⟩ := hrel
    have a := a1.non s.l.upd
    by_cases hlt : j < l.length
    · obtain ⟨x, hx⟩ : ∃ x, l[j]? = some x := ⟨l[j], List.getElem?_eq_getElem hlt⟩
      obtain ⟨g, off, hv, c0⟩ := a.str hx
      subst hv
      have HX := hid hx
      clear hx
      have hjl : (j : Int) < (l.length : Int) := by omega
      by_cases hxs : x.size ≤ 200
      · have hxk : x.size ≤ maxLen := by unfold maxLen; omega
        have hxs' : (x.size : Int) ≤ 200 := by omega
        obtain ⟨rv, rc, hrv, ra⟩ := owned_arrF (F := Non) s.row (fun _ _ => id)
        subst hrv
        obtain ⟨b, hb⟩ : ∃ b, isIn x r = b := ⟨_, rfl⟩
        have hHs := has3_is (cap := rc) ra (by omega) b hb
        cases b with
        | true =>
          clear hb
          go_wp2_with fail
          refine hHs.mono ?_
          rintro e w4 ⟨rfl, rfl⟩
          go_wp2_with fail
          go_roundg (l.length - (j + 1))
          case measure => omega
          case rel => exact ⟨j + 1, G, H, m, m', r, by omega, Nat.le_refl _, by go_num, s, by omega, HI⟩
        | false =>
          have hxr : x ∉ r := isIn_no.1 hb
          clear hb
          go_wp2_with fail
          refine hHs.mono ?_
          rintro e w4 ⟨rfl, rfl⟩
          obtain ⟨ia, ib⟩ := HI.out
          have hha := onceA_hit ia hxr
          have hhb := onceB_hit ib hxr
          obtain ⟨out, hout⟩ : ∃ out, decide (most ≤ (r.length : Int)) = out := ⟨_, rfl⟩
          have hoa := once_out (most := most) (onceA_len ia) hha hm
          have hob := once_out (most := most) ib.1 hhb hm
          rw [hout] at hoa hob
          obtain ⟨va, hva⟩ : ∃ va, vicS m most x = va := ⟨_, rfl⟩
          obtain ⟨vb, hvb⟩ : ∃ vb, vicS m' most x = vb := ⟨_, rfl⟩
          have hqa := fun W G (t : LR W bc G m most r.length false) => request_lr t (by omega) (by omega) hxk false hha va hva out hoa
          have hqb := fun W H (t : LR W bd H m' most r.length true) => request_lr t (by omega) (by omega) hxk false hhb vb hvb out hob
          have HIA := hid (onceA_step ia hxr hm (by omega))
          have HIB := hid (onceB_step ib hxr hm (by omega))
          have HVA := hid (fun ho => onceA_vic ia hxr hm ho)
          have HVB := hid (fun ho => onceB_vic ib hxr hm ho)
          rw [hva] at HVA
          rw [hvb] at HVB
          have HOUT := hid hout
          clear ia ib hha hhb hoa hob hva hvb hout HI hHs ra a
          have s4 := s.non ((Upd.refl Non wr).alloc (.cells #[.string x] 9))
          generalize reqM m most r.length false x = ma at hqa HIA
          generalize reqM m' most r.length true x = mb at hqb HIB
          go_wp2_with (at_builtin; refine wpList_append_some rfl (.tmp 48) (.tmp 53) 33 rfl w1.heap.size 9 i0 (.string ByteArray.empty) 1 16 Try.underlying33 hi hz0 hz1 hz2 rfl (by decide) _ r.length (r.map Value.string) rfl (s.row.alloc _) ⟨wr.heap.size, 0, none⟩ 1 1 [.string x] rfl rfl (news_blk (vs := #[.string x]) (Blk.new wr _ 9)) (by simp [Value.oneCell']) (by unfold maxLen; omega) (by omega) (by have := s.l.upd.size; simp; omega) (by decide) ?_; intro gg cap' w5 hown hgrow hat; have s5 := on_app s4 hown hgrow (hat.imp id (fun e => Nat.le_of_eq (by rw [e]))); clear hown hgrow hat)
          clear s4 c0
          obtain ⟨g5, off5, hv5, c0⟩ := (a1.non s5.l.upd).str HX.out
          have HG5 := hid hv5
          clear hv5
          obtain ⟨rfl, rfl⟩ : g = g5 ∧ off = off5 := by have := HG5.out; simp at this; exact this
          have s5' := s5.non ((Upd.refl Non w5).drew)
          have c0' : w5.drew.cell? ⟨g, off + j, none⟩ = some (.string x) := c0
          go_upto_region 16 with (fail)
          go_cut [9, 10] from 30 to 133 (fun s9 s10 wc => ∃ (b9 b10 : Nat) (G H : Nat → Prop), s9 = .pointer (some ⟨b9, 0, none⟩) ∧ s10 = .pointer (some ⟨b10, 0, none⟩) ∧ OnS w1 wc bc G ma (r.length + 1) bd H mb (r.length + 1) most (.slice (some ⟨gg, 0, none⟩) (r.length + 1) cap') (r ++ [x]) ∧ Blk wc b9 #[.bool false, .string va, .bool out] 57 ∧ Blk wc b10 #[.bool false, .string vb, .bool out] 57)
          case first =>
            have HS := hid (fun W (u : Upd Non w1 W) => show W.cell? ⟨g, off + j, none⟩ = some (.string x) ∧ Upd Non w1 W from by
              obtain ⟨g', off', hv', d0⟩ := (a1.non u).str HX.out
              simp only [Option.some.injEq, Addr.mk.injEq, and_true] at hv'
              obtain ⟨rfl, rfl⟩ := hv'
              exact ⟨d0, u⟩)
            go_region_held3 (fun w' => w'.cell? ⟨g, off + j, none⟩ = some (.string x) ∧ Upd Non w1 w')
              (first | with_reducible assumption | with_reducible exact HS.out _ s7.l.upd | with_reducible exact HS.out _ s6.l.upd | with_reducible exact HS.out _ s5.dr.l.upd | with_reducible exact HS.out _ ((And.right ‹_ ∧ Upd Non w1 _›).alloc _) | with_reducible exact HS.out _ (s7.al _).l.upd | with_reducible exact HS.out _ ((s7.al _).al _).l.upd | with_reducible exact HS.out _ (s6.al _).l.upd | with_reducible exact HS.out _ ((s6.al _).al _).l.upd | with_reducible exact HS.out _ (s5.al _).dr.l.upd | with_reducible exact HS.out _ ((s5.al _).al _).dr.l.upd | with_reducible exact HS.out _ ((((And.right ‹_ ∧ Upd Non w1 _›).setCell (.inr (by have e5 := s5.l.upd.size; have e6 := s6.l.upd.size; have e7 := s7.l.upd.size; dsimp only; omega)) _).setCell (.inr (by have e5 := s5.l.upd.size; have e6 := s6.l.upd.size; have e7 := s7.l.upd.size; dsimp only; omega)) _).setCell (.inr (by have e5 := s5.l.upd.size; have e6 := s6.l.upd.size; have e7 := s7.l.upd.size; dsimp only; omega)) _) | fail)
              (first | (go_at_call_of 28 (Value.pointer (some ⟨bc, 0, none⟩)); refine (hqa _ _ (by first | with_reducible exact s5.dr.l.a | with_reducible exact (s5.al _).dr.l.a | with_reducible exact ((s5.al _).al _).dr.l.a)).mono ?_; rintro e w6 ⟨rfl, G6, h6, u6, q6⟩; have s6 : OnS w1 w6 bc G6 ma (r.length + 1) bd H m' r.length most (.slice (some ⟨gg, 0, none⟩) (r.length + 1) cap') (r ++ [x]) := (by first | with_reducible exact s5.dr.left h6 u6 q6 | with_reducible exact (s5.al _).dr.left h6 u6 q6 | with_reducible exact ((s5.al _).al _).dr.left h6 u6 q6);
                                first
                                | (with_reducible have z1 := ((s5.zb _ _).al _).dr.left u6 q6; with_reducible have z2 := (s5.zb2 _ _ _).dr.left u6 q6; obtain ⟨c1_0, c1_1, c1_2, c1_3, c1_4, c1_5, c1_6, c1_7, c1_8, c1_9, c1_10, c1_11, c1_12, c1_13⟩ := zcells z1; obtain ⟨c2_0, c2_1, c2_2, c2_3, c2_4, c2_5, c2_6, c2_7, c2_8, c2_9, c2_10, c2_11, c2_12, c2_13⟩ := zcells z2)
                                | (with_reducible have z1 := (s5.zb _ _).dr.left u6 q6; obtain ⟨c1_0, c1_1, c1_2, c1_3, c1_4, c1_5, c1_6, c1_7, c1_8, c1_9, c1_10, c1_11, c1_12, c1_13⟩ := zcells z1)
                                | skip)
                          | (go_at_call_of 28 (Value.pointer (some ⟨bd, 0, none⟩)); refine (hqb _ _ (by first | with_reducible exact s6.l.b | with_reducible exact (s6.al _).l.b | with_reducible exact ((s6.al _).al _).l.b)).mono ?_; rintro e w7 ⟨rfl, H7, h7, u7, q7⟩; have s7 : OnS w1 w7 bc G6 ma (r.length + 1) bd H7 mb (r.length + 1) most (.slice (some ⟨gg, 0, none⟩) (r.length + 1) cap') (r ++ [x]) := (by first | with_reducible exact s6.right h7 u7 q7 | with_reducible exact (s6.al _).right h7 u7 q7 | with_reducible exact ((s6.al _).al _).right h7 u7 q7);
                                first
                                | (with_reducible have y1 := z1.right u7 q7; with_reducible have y2 := z2.right u7 q7; obtain ⟨d1_0, d1_1, d1_2, d1_3, d1_4, d1_5, d1_6, d1_7, d1_8, d1_9, d1_10, d1_11, d1_12, d1_13⟩ := zcells y1; obtain ⟨d2_0, d2_1, d2_2, d2_3, d2_4, d2_5, d2_6, d2_7, d2_8, d2_9, d2_10, d2_11, d2_12, d2_13⟩ := zcells y2)
                                | (with_reducible have y1 := (z1.al _).right u7 q7; with_reducible have y2 := (s6.zb _ _).right u7 q7; obtain ⟨d1_0, d1_1, d1_2, d1_3, d1_4, d1_5, d1_6, d1_7, d1_8, d1_9, d1_10, d1_11, d1_12, d1_13⟩ := zcells y1; obtain ⟨d2_0, d2_1, d2_2, d2_3, d2_4, d2_5, d2_6, d2_7, d2_8, d2_9, d2_10, d2_11, d2_12, d2_13⟩ := zcells y2; have ne1 := c1_12; have ne2 := c1_13)
                                | (with_reducible have y1 := z1.right u7 q7; obtain ⟨d1_0, d1_1, d1_2, d1_3, d1_4, d1_5, d1_6, d1_7, d1_8, d1_9, d1_10, d1_11, d1_12, d1_13⟩ := zcells y1)
                                | (with_reducible have y1 := ((s6.zb _ _).al _).right u7 q7; with_reducible have y2 := (s6.zb2 _ _ _).right u7 q7; obtain ⟨d1_0, d1_1, d1_2, d1_3, d1_4, d1_5, d1_6, d1_7, d1_8, d1_9, d1_10, d1_11, d1_12, d1_13⟩ := zcells y1; obtain ⟨d2_0, d2_1, d2_2, d2_3, d2_4, d2_5, d2_6, d2_7, d2_8, d2_9, d2_10, d2_11, d2_12, d2_13⟩ := zcells y2)
                                | (with_reducible have y1 := (s6.zb _ _).right u7 q7; obtain ⟨d1_0, d1_1, d1_2, d1_3, d1_4, d1_5, d1_6, d1_7, d1_8, d1_9, d1_10, d1_11, d1_12, d1_13⟩ := zcells y1)
                                | skip))
            all_goals
              (try clear d1_0 d1_1 d1_2 d1_3 d1_4 d1_5 d1_6 d1_7 d1_8 d1_9 d1_10 d1_11); (try clear d2_0 d2_1 d2_2 d2_3 d2_4 d2_5 d2_6 d2_7 d2_8 d2_9 d2_10 d2_11); (try clear c1_0 c1_1 c1_2 c1_3 c1_4 c1_5 c1_6 c1_7 c1_8 c1_9 c1_10 c1_11); (try clear c2_0 c2_1 c2_2 c2_3 c2_4 c2_5 c2_6 c2_7 c2_8 c2_9 c2_10 c2_11)
              clear HS c0' a1 HX HIA HIB HVA HVB HOUT hqa hqb
              first
              | (generalize hW : World.setCell _ _ _ = wz; have HW := hid hW; clear hW; go_wp2_with fail; go_meet; refine ⟨_, _, G6, H7, rfl, rfl, ?_⟩; rw [← HW.out]; first | with_reducible exact z_fin s7 y1 y2 (by first | assumption | omega) | with_reducible exact z_fin (s7.al _) (y1.al _) (s7.zb _ _) d1_13 | with_reducible exact z_fin1 (s7.al _) (y1.al _) (s7.zb _ _) d1_13 | with_reducible exact ⟨(z_fin s7 y2 y1 (by first | assumption | omega)).1, (z_fin s7 y2 y1 (by first | assumption | omega)).2.1, (z_fin s7 y2 y1 (by first | assumption | omega)).2.2⟩)
              | (generalize hW : World.alloc _ _ = wz; have HW := hid hW; clear hW; go_wp2_with fail; go_meet; refine ⟨_, _, G6, H7, rfl, rfl, ?_⟩; rw [← HW.out]; first | with_reducible exact ⟨(s7.al _).al _, ((s7.zb _ _).al _).blk, (s7.zb2 _ _ _).blk⟩ | with_reducible exact ⟨(s7.al _).al _, (s7.zb2 _ _ _).blk, ((s7.zb _ _).al _).blk⟩)
          case rest =>
            obtain ⟨b9, b10, G, H, rfl, rfl, s, B9, B10⟩ := hcut
            clear s5 s5' c0 c0' hqa hqb
            have x0 : wc.cell? ⟨b9, 0, none⟩ = some (.bool false) := B9.cell 0 rfl
            have x2 : wc.cell? ⟨b9, 2, none⟩ = some (.bool out) := B9.cell 2 rfl
            have y0 : wc.cell? ⟨b10, 0, none⟩ = some (.bool false) := B10.cell 0 rfl
            have y2 : wc.cell? ⟨b10, 2, none⟩ = some (.bool out) := B10.cell 2 rfl
            have HB9 := hid B9
            have HB10 := hid B10
            obtain ⟨av5, cap5, hv5, ra⟩ := owned_arrF (ks := r ++ [x]) (F := Non) (by simpa using s.row) (fun _ _ => id)
            obtain rfl : av5 = some ⟨gg, 0, none⟩ := by simp at hv5; exact hv5.1.symm
            have HRA := hid ra
            have HS5 := hid s
            have hout := HOUT.out
            clear B9 B10 ra hv5 s
            obtain ⟨n, hn⟩ : ∃ n, r.length + 1 = n := ⟨_, rfl⟩
            have HN := hid hn
            rw [hn]
            have hrel : ∀ W, Upd Non wc W → (r ++ [x]).length ≤ j + 1 ∧ OnS w1 W bc G ma (((r ++ [x]).length : Nat) : Int) bd H mb (((r ++ [x]).length : Nat) : Int) most (.slice (some ⟨gg, 0, none⟩) n cap') (r ++ [x]) ∧ Hid (OnceA (r ++ [x]) ma most (((r ++ [x]).length : Nat) : Int) ∧ OnceB (r ++ [x]) mb most (((r ++ [x]).length : Nat) : Int)) := by
              intro W u
              have e : (((r ++ [x]).length : Nat) : Int) = (r.length : Int) + 1 := by simp
              rw [e, ← hn]
              exact ⟨by simp; omega, HS5.out.non u, hid ⟨HIA.out, HIB.out⟩⟩
            have HREL := hid hrel
            clear hrel
            cases out with
            | false =>
              have hd : decide (most < (n : Int)) = false := by have := of_decide_eq_false hout; simp; omega
              clear hn hout
              go_upto_region 19 with (fail)
              refine wp_region_det (fun W => W.cell? ⟨b9, 2, none⟩ = some (.bool false) ∧ Upd Non wc W) (by kernel_rfl) (by kernel_rfl) (by kernel_rfl) ⟨x2, (Upd.refl Non wc).drew⟩ ?_
              dsimp only
              iterate 45 (first | (refine det_pure (v := ?_) (by rfl) ?_ ?_; rotate_left; (intro w hSw; (try dsimp only at hSw); go_simp); (try with_reducible rfl); simp only [Act.put, List.setIfInBounds_toArray, List.set_cons_zero, List.set_cons_succ]) | (refine det_skip (by rfl) ?_; simp only [Act.put, List.setIfInBounds_toArray, List.set_cons_zero, List.set_cons_succ]) | fail)
              refine det_nil fun wz hSz => ?_
              obtain ⟨e1, e2, e3⟩ := HREL.out _ hSz.2
              clear x0 x2 y0 y2
              go_wp2_with fail
              go_roundg (l.length - (j + 1))
              case measure => omega
              case rel => exact ⟨j + 1, G, H, ma, mb, r ++ [x], by omega, Nat.le_refl _, by go_num, e2, e1, e3⟩
            | true =>
              have hmr : most ≤ (r.length : Int) := of_decide_eq_true hout
              have hd : decide (most < (n : Int)) = true := by simp; omega
              have hva := HVA.out hmr
              have hvb := HVB.out hmr
              obtain ⟨q, hq⟩ : ∃ q : Nat, (q : Int) = most := ⟨most.toNat, by omega⟩
              obtain ⟨k1, hk1⟩ : ∃ k1, r.length - most.toNat = k1 := ⟨_, rfl⟩
              obtain ⟨k2, hk2⟩ : ∃ k2, r.length - 1 = k2 := ⟨_, rfl⟩
              have hwa : IntKind.i64.wrap ((n : Int) - 1) = (n : Int) - 1 := by rw [IntKind.wrap_i64]; omega
              have hwb : IntKind.i64.wrap ((n : Int) - 1 - most) = (k1 : Int) := by rw [IntKind.wrap_i64]; omega
              have hwc : IntKind.i64.wrap ((n : Int) - 2) = (k2 : Int) := by rw [IntKind.wrap_i64]; omega
              have b1 : (k1 : Int) < (n : Int) := by omega
              have b2 : (k2 : Int) < (n : Int) := by omega
              rw [hk1] at hva
              rw [hk2] at hvb
              have ha1 : (r ++ [x])[k1]? = some va := by rw [List.getElem?_append_left (by omega)]; exact hva
              have ha2 : (r ++ [x])[k2]? = some vb := by rw [List.getElem?_append_left (by omega)]; exact hvb
              have HS9 := hid (fun W (u : Upd Non wc W) => show W.cell? ⟨b9, 1, none⟩ = some (.string va) ∧ W.cell? ⟨b9, 2, none⟩ = some (.bool true) ∧ W.cell? ⟨b10, 1, none⟩ = some (.string vb) ∧ W.cell? ⟨gg, k1, none⟩ = some (.string va) ∧ W.cell? ⟨gg, k2, none⟩ = some (.string vb) ∧ Upd Non wc W from by
                obtain ⟨g3, o3, h3, d3⟩ := (HRA.out.non u).str ha1
                obtain ⟨g4, o4, h4, d4⟩ := (HRA.out.non u).str ha2
                simp only [Option.some.injEq, Addr.mk.injEq, and_true] at h3 h4
                obtain ⟨rfl, rfl⟩ := h3
                obtain ⟨rfl, rfl⟩ := h4
                rw [Nat.zero_add] at d3 d4
                exact ⟨(HB9.out.upd u id).cell 1 rfl, (HB9.out.upd u id).cell 2 rfl, (HB10.out.upd u id).cell 1 rfl, d3, d4, u⟩)
              clear hva hvb ha1 ha2 hn hout hmr hq hk1 hk2
              have HB := hid (And.intro b1 b2)
              by_cases hm1 : most = 1
              · have hme : (most == 1) = true := by simpa using hm1
                have hme2 : decide (1 < most) = false := by simp; omega
                have hme3 : decide (most = 1) = true := by simpa using hm1
                clear hm1
                go_upto_region 19 with (fail)
                refine wp_region_det (fun W => W.cell? ⟨b9, 1, none⟩ = some (.string va) ∧ W.cell? ⟨b9, 2, none⟩ = some (.bool true) ∧ W.cell? ⟨b10, 1, none⟩ = some (.string vb) ∧ W.cell? ⟨gg, k1, none⟩ = some (.string va) ∧ W.cell? ⟨gg, k2, none⟩ = some (.string vb) ∧ Upd Non wc W) (by kernel_rfl) (by kernel_rfl) (by kernel_rfl) (HS9.out _ (Upd.refl Non wc).drew) ?_
                dsimp only
                iterate 45 (first | (refine det_pure (v := ?_) (by rfl) ?_ ?_; rotate_left; (intro w hSw; (try dsimp only at hSw); go_simp); (try with_reducible rfl); simp only [Act.put, List.setIfInBounds_toArray, List.set_cons_zero, List.set_cons_succ]) | (refine det_skip (by rfl) ?_; simp only [Act.put, List.setIfInBounds_toArray, List.set_cons_zero, List.set_cons_succ]) | fail)
                refine det_nil fun wz hSz => ?_
                obtain ⟨e1, e2, e3⟩ := HREL.out _ hSz.2.2.2.2.2
                clear x0 x2 y0 y2
                go_wp2_with fail
                go_roundg (l.length - (j + 1))
                case measure => omega
                case rel => exact ⟨j + 1, G, H, ma, mb, r ++ [x], by omega, Nat.le_refl _, by go_num, e2, e1, e3⟩
              · have hme : (most == 1) = false := by simpa using hm1
                have hme2 : decide (1 < most) = true := by simp; omega
                have hme3 : decide (most = 1) = false := by simpa using hm1
                clear hm1
                go_upto_region 19 with (fail)
                refine wp_region_det (fun W => W.cell? ⟨b9, 1, none⟩ = some (.string va) ∧ W.cell? ⟨b9, 2, none⟩ = some (.bool true) ∧ W.cell? ⟨b10, 1, none⟩ = some (.string vb) ∧ W.cell? ⟨gg, k1, none⟩ = some (.string va) ∧ W.cell? ⟨gg, k2, none⟩ = some (.string vb) ∧ Upd Non wc W) (by kernel_rfl) (by kernel_rfl) (by kernel_rfl) (HS9.out _ (Upd.refl Non wc).drew) ?_
                dsimp only
                iterate 45 (first | (refine det_pure (v := ?_) (by rfl) ?_ ?_; rotate_left; (intro w hSw; (try dsimp only at hSw); go_simp); (try with_reducible rfl); simp only [Act.put, List.setIfInBounds_toArray, List.set_cons_zero, List.set_cons_succ]) | (refine det_skip (by rfl) ?_; simp only [Act.put, List.setIfInBounds_toArray, List.set_cons_zero, List.set_cons_succ]) | fail)
                refine det_nil fun wz hSz => ?_
                obtain ⟨e1, e2, e3⟩ := HREL.out _ hSz.2.2.2.2.2
                clear x0 x2 y0 y2
                go_wp2_with fail
                go_roundg (l.length - (j + 1))
                case measure => omega
                case rel => exact ⟨j + 1, G, H, ma, mb, r ++ [x], by omega, Nat.le_refl _, by go_num, e2, e1, e3⟩
      · have hxs' : (200 : Int) < (x.size : Int) := by omega
        go_wp2_with fail
        go_ret
        exact ⟨rfl, u1.trans s.l.upd (fun _ h => h.elim)⟩
    · obtain rfl : j = l.length := by omega
      clear a
      go_wp2_with fail
      go_ret
      exact ⟨rfl, u1.trans s.l.upd (fun _ h => h.elim)⟩

set_option maxRecDepth 100000 in
set_option maxHeartbeats 800000 in
theorem once_all {w : World} {av : Option Addr} {cap : Nat} {l : List ByteArray} {most : Int} (hA : Arr w Non av 1 (strC l)) :
    Calls Try.prog 8 #[.int .i64 most, .slice av l.length cap] w fun e w' => e = .returned (.bool true) ∧ Upd Non w w' := by
  by_cases hc : l.length ≤ 100 ∧ 1 ≤ most
  · exact once_law hc.1 hA hc.2
  · clear hA
    have hb : (decide ((100 : Int) < (l.length : Int)) || decide (most < 1)) = true := by
      simp only [Bool.or_eq_true, decide_eq_true_eq]
      omega
    clear hc
    go_enter Try.func8, Try.ntmps8
    go_wp2_with fail
    refine (awake6_is _).mono ?_
    rintro e w1 ⟨rfl, u1⟩
    generalize h1 : decide ((100 : Int) < (l.length : Int)) = b1 at hb
    generalize h3 : decide (most < 1) = b3 at hb
    cases b1 with
    | true =>
      clear hb h3
      go_wp2_with fail
      go_ret
      exact ⟨rfl, u1⟩
    | false =>
      obtain rfl : b3 = true := by simpa using hb
      clear hb
      go_wp2_with fail
      go_ret
      exact ⟨rfl, u1⟩

end Go.Proofs.Ytalnjkeajlbbpaa
