/- Texts merged by merge.py: LPlays, LPlaysB. -/
import Derived.Test.YtalnjkeajlbbpaaMG
import Derived.Test.YtalnjkeajlbbpaaMH
import Derived.Test.YtalnjkeajlbbpaaMF
import Derived.Deep.CutBlock
import Derived.Deep.RegionHeld3
import Derived.Deep.RegionWith

/- Walk: the statement LfuPlays. -/
namespace Go.Proofs.Ytalnjkeajlbbpaa
open Go.RowKit
set_option linter.unusedSimpArgs false
set_option linter.unusedVariables false

theorem arr_store {w : World} {G : Nat → Prop} {b8 : Nat} {ov : Option Addr} {L : List (List Value)} (h : Arr w (fun x => G x ∨ x = b8) ov 1 L) (v0 v1 v2 : Value) :
    Arr (((w.setCell ⟨b8, 0, none⟩ v0).setCell ⟨b8, 1, none⟩ v1).setCell ⟨b8, 2, none⟩ v2) (fun x => G x ∨ x = b8) ov 1 L :=
  h.step ((((Upd.refl (fun k => k = b8) w).set1 0 v0).set1 1 v1).set1 2 v2 |>.mono (fun x hx => .inl (.inr hx))) (fun x hx => .inl hx)

set_option maxRecDepth 100000 in
set_option maxHeartbeats 6400000 in
theorem plays_is {w : World} {av : Option Addr} {cap : Nat} {l : List Act5} {most : Int} {churn : Bool} (hA : Arr w Non av 3 (act5C l)) (hl : l.length ≤ 200) (hks : ∀ a ∈ l, a.key.size ≤ 200) (hf : fewB 0 l = true) :
    Calls Try.prog 10 #[.int .i64 most, .bool churn, .slice av l.length cap] w fun e w' => e = .returned (.bool true) ∧ Upd Non w w' := by
  have HK := hid hks
  have HF := hid hf
  clear hks hf
  go_enter Try.func10, Try.ntmps10
  go_wp2_with fail
  refine (awake6_is _).mono ?_
  rintro e w1 ⟨rfl, u1⟩
  have a1 := hA.non u1
  clear hA
  go_wp2_with fail
  refine (few_is a1 (by omega) true HF.out).mono ?_
  rintro e w2 ⟨rfl, u2⟩
  go_wp2_with fail
  refine (new_lr _ most churn).mono ?_
  rintro e w3 ⟨bc, G, rfl, h3, u3, hG⟩
  go_wp2_with fail
  refine (new_ref _ most _ churn rfl).mono ?_
  rintro e w4 ⟨rfl, u4⟩
  have h4 := h3.non u4
  have s5 : PS w1 (w4.alloc (.cells (cV (max most 0) churn none 0 0) 68)) bc G [] (max most 0) 0 churn w4.heap.size (max most 0) none 0 [] [] :=
    ⟨h4.non ((Upd.refl Non w4).alloc _), Blk.new w4 _ _, fun h => by have := h4.lt _ h; omega, Nat.le_trans u2.size (Nat.le_trans u3.size u4.size), ⟨fun h => absurd rfl h, by simp⟩, ⟨List.Perm.refl _, List.Pairwise.nil⟩, ((u2.trans (u3.trans u4 (fun _ h => h.elim)) (fun _ h => h.elim)).alloc _), fun k hk => Nat.le_trans u2.size (hG k hk)⟩
  clear h3 h4 u2 u3 u4 hG
  generalize max most 0 = k0 at s5 ⊢
  go_wp2_with fail
  generalize World.alloc _ _ = w5 at s5 ⊢
  generalize w4.heap.size = b8 at s5 ⊢
  go_loopg [9] l.length (fun kk s9 wr => ∃ (j : Nat) (G : Nat → Prop) (m p : List (Itm ByteArray)) (k now : Int) (ar : Option Addr) (cr : Nat), j ≤ l.length ∧ l.length - j ≤ kk ∧ s9 = .int .i64 j ∧ PS w1 wr bc G m k now churn b8 k ar cr p m ∧ now ≤ j)
  case atStart => exact ⟨0, G, [], [], k0, 0, none, 0, Nat.zero_le _, Nat.sub_le _ _, rfl, s5, by omega⟩
  case round =>
    clear s5
    obtain ⟨j, G, m, p, k, now, ar, cr, hj, hjk, rfl, s, hnow⟩ := hrel
    by_cases hlt : j < l.length
    · obtain ⟨x, hx⟩ : ∃ x, l[j]? = some x := ⟨l[j], List.getElem?_eq_getElem hlt⟩
      obtain ⟨g, off, hv, c0, c1, c2⟩ := (a1.non s.upd).act5 hx
      subst hv
      have hxs := HK.out x (List.mem_iff_getElem?.2 ⟨j, hx⟩)
      have hxk : x.key.size ≤ maxLen := by unfold maxLen; omega
      have hjl : (j : Int) < (l.length : Int) := by omega
      obtain ⟨kind, key, xn⟩ := x
      simp only at c0 c1 c2 hxs hxk
      have s1 := s.non ((Upd.refl Non wr).alloc (.cells #[.int .i64 kind, .string key, .int .i64 xn] 71))
      have z1 := s.bx #[.int .i64 kind, .string key, .int .i64 xn] 71
      clear hx
      go_upto_block 2 with (fail)
      generalize World.alloc _ _ = wx at s1 z1 ⊢
      generalize wr.heap.size = b10 at z1 ⊢
      clear c0 c1 c2 s
      go_cut [11, 12, 13, 14, 15, 16, 17, 18, 19, 20, 21] from 39 to 200 (fun s11 s12 s13 s14 s15 s16 s17 s18 s19 s20 s21 wc => ∃ (G : Nat → Prop) (m p : List (Itm ByteArray)) (k now : Int) (ar : Option Addr) (cr : Nat), PS w1 wc bc G m k now churn b8 k ar cr p m ∧ Bx wc G b8 b10 #[.int .i64 kind, .string key, .int .i64 xn] 71 ∧ now ≤ j + 1)
      case first =>
        obtain ⟨e0, e1, e2, -, -, -⟩ := blk3 z1.blk
        obtain ⟨d0, d1, d2, f0, f1, f2⟩ := blk3 s1.bk
        have hnn := s1.a.nn
        have hnw : now ≤ 900000 := by omega
        obtain ⟨hit, hh⟩ : ∃ b, hitB m key = b := ⟨_, rfl⟩
        by_cases h0 : kind = 0
        · as_aux_lemma =>
          subst h0
          obtain ⟨vs, hv⟩ : ∃ b, vic0 m k key = b := ⟨_, rfl⟩
          obtain ⟨out, ho⟩ : ∃ b, out0 m k key = b := ⟨_, rfl⟩
          have hR := request_all_ref s1.row s1.lt s1.by_ s1.a.good hnn.2.1 hnw hit hh vs hv out ho
          have hC := fun W G (t : LR W bc G m k now churn) => request_all_lr t hnw hxk hit hh vs hv out ho
          have hN1 : now0 k now ≤ j + 1 := by unfold now0; split <;> omega
          generalize now0 k now = now' at hC hN1
          generalize reqM0 m k now churn key = m' at hR hC
          have HS := hid s1
          have HZ := hid z1
          clear hh hv ho s1 z1
          go_wp2_with fail
          refine hR.mono ?_
          rintro e w2 ⟨av', cap', p', rfl, hby, hrow, u2⟩
          have s2 := HS.out.non u2
          have z2 := HZ.out.non u2
          clear e0 e1 e2 d0 d1 d2 f0 f1 f2
          obtain ⟨e0, e1, e2, -, -, -⟩ := blk3 z2.blk
          obtain ⟨d0, d1, d2, f0, f1, f2⟩ := blk3 s2.bk
          have HS2 := hid s2
          have HZ2 := hid z2
          have hb8 := s2.bk.lt
          have hne1 : w2.heap.size ≠ b8 := by omega
          have hne2 : w2.heap.size + 1 ≠ b8 := by omega
          clear s2 z2 hR
          go_upto_region 17 with (fail)
          have s3 := ((HS2.out.store k hrow hby).non ((Upd.refl Non _).alloc (.cells (cV k churn av' p'.length cap') 68)))
          have z3 := (HZ2.out.store (.int .i64 k) (.bool churn) (.slice av' p'.length cap')).non ((Upd.refl Non _).alloc (.cells (cV k churn av' p'.length cap') 68))
          have y3 := s3.bx #[.bool hit, .string vs, .bool out] 57
          have es : (World.alloc (((w2.setCell ⟨b8, 0, none⟩ (.int .i64 k)).setCell ⟨b8, 1, none⟩ (.bool churn)).setCell ⟨b8, 2, none⟩ (.slice av' p'.length cap')) (.cells (cV k churn av' p'.length cap') 68)).heap.size = w2.heap.size + 1 := by simp [World.setCell]
          rw [es] at y3
          have s4 := s3.non ((Upd.refl Non _).alloc (.cells #[.bool hit, .string vs, .bool out] 57))
          have z4 := z3.non ((Upd.refl Non _).alloc (.cells #[.bool hit, .string vs, .bool out] 57))
          generalize World.alloc _ _ = wT at s4 z4 y3 ⊢
          generalize w2.heap.size + 1 = b12 at y3 ⊢
          clear s3 z3 es HS2 HZ2 hrow hby u2 e0 e1 e2 d0 d1 d2 f0 f1 f2 hne1 hne2 hb8 HS HZ
          have s5 := s4.non (Upd.refl Non wT).drew
          have z5 := z4.non (Upd.refl Non wT).drew
          have y5 := y3.non (Upd.refl Non wT).drew
          clear s4 z4 y3
          go_region_held3 (fun W => W.cell? ⟨b10, 1, none⟩ = some (.string key) ∧ W.cell? ⟨b12, 0, none⟩ = some (.bool hit) ∧ W.cell? ⟨b12, 1, none⟩ = some (.string vs) ∧ W.cell? ⟨b12, 2, none⟩ = some (.bool out))
            (first | with_reducible assumption | exact ⟨z6.blk.cell 1 rfl, y6.blk.cell 0 rfl, y6.blk.cell 1 rfl, y6.blk.cell 2 rfl⟩ | exact ⟨z5.blk.cell 1 rfl, y5.blk.cell 0 rfl, y5.blk.cell 1 rfl, y5.blk.cell 2 rfl⟩)
            (first | (go_at_call 28; refine (hC _ _ s5.a).mono ?_; rintro e w6 ⟨rfl, G6, h6, u6', q6⟩; have s6 := s5.cache h6 u6' q6; have z6 := z5.cache u6' q6; have y6 := y5.cache u6' q6))
          all_goals
            go_wp2_with fail
            go_meet
            exact ⟨_, _, _, _, _, _, _, s6, z6, hN1⟩
        · by_cases h1 : kind = 1
          · as_aux_lemma =>
            subst h1
            have hG := s1.a.good
            obtain ⟨t0, t1, t2⟩ := hG.times key
            obtain ⟨t, ht⟩ : ∃ t, timesM m key = t := ⟨_, rfl⟩
            rw [ht, hh] at t2
            have hpl := s1.by_.perm.length_eq
            have hml := hG.len
            have hRm := fun W G (t : LR W bc G m k now churn) => remove_lr t (by omega) hxk hit hh
            have hT := fun W (F : Nat → Prop) (r : RowP W F ar cr p) => times_ref (most := k) (churn := churn) r (by omega) hG.nt s1.by_.perm key t ht
            have hRr := fun W (F : Nat → Prop) (r : RowP W F ar cr p) => remove_ref (most := k) (churn := churn) r (by omega) key
            have s5 := s1.non (Upd.refl Non wx).drew
            have z5 := z1.non (Upd.refl Non wx).drew
            have hby := s1.by_.rem key
            have HPL := hid hpl
            generalize remM p key = p' at hRr hby
            generalize hnp : p.length = np at hT hRr d2
            have HPL2 := hid hnp
            clear hnp
            clear t0 t1 hG hpl hml hh ht
            go_upto_region 20 with (fail)
            clear e0 e1 e2 d0 d1 f0 f1 f2
            go_region_held3 (fun W => W.cell? ⟨b10, 1, none⟩ = some (.string key) ∧ W.cell? ⟨b8, 0, none⟩ = some (.int .i64 k) ∧ W.cell? ⟨b8, 1, none⟩ = some (.bool churn) ∧ W.cell? ⟨b8, 2, none⟩ = some (.slice ar np cr))
              (first | with_reducible assumption | exact ⟨z7.blk.cell 1 rfl, s7.bk.cell 0 rfl, s7.bk.cell 1 rfl, by have := s7.bk.cell 2 rfl; rw [← HPL2.out]; exact this⟩ | exact ⟨z6.blk.cell 1 rfl, s6.bk.cell 0 rfl, s6.bk.cell 1 rfl, by have := s6.bk.cell 2 rfl; rw [← HPL2.out]; exact this⟩ | exact ⟨z5.blk.cell 1 rfl, s5.bk.cell 0 rfl, s5.bk.cell 1 rfl, by have := s5.bk.cell 2 rfl; rw [← HPL2.out]; exact this⟩)
              (first | (go_at_call 32; refine (hRm _ _ s5.a).mono ?_; rintro e w6 ⟨rfl, G6, h6, u6', q6⟩; have s6 := s5.cache h6 u6' q6; have z6 := z5.cache u6' q6) | (go_at_call 38; refine (hT _ _ s6.row).mono ?_; rintro e w7 ⟨rfl, u7⟩; have s7 := s6.non u7; have z7 := z6.non u7))
            all_goals
              go_wp2_with fail
              refine (hRr _ _ s7.row).mono ?_
              rintro e w8 ⟨av', cap', rfl, hrow, u8⟩
              have s8 := s7.non u8
              have z8 := z7.non u8
              obtain ⟨d0, d1, d2, f0, f1, f2⟩ := blk3 s8.bk
              have HS8 := hid s8
              have HZ8 := hid z8
              have HLT := hid s7.lt
              clear s8 z8 s7 z7 s6 z6 s5 z5 hRm hT hRr
              go_wp2_with fail
              go_meet
              exact ⟨_, _, _, _, _, _, _, HS8.out.store k (hrow _ HLT.out) hby, HZ8.out.store _ _ _, by omega⟩
          · by_cases h2 : kind = 2
            · as_aux_lemma =>
              subst h2
              obtain ⟨b, hb⟩ : ∃ b, (hitB m key || decide (k ≤ (m.length : Int))) = b := ⟨_, rfl⟩
              have hR := adopt_all_ref s1.row s1.lt s1.by_ s1.a.good hnw b hb
              have hC := fun W G (t : LR W bc G m k now churn) => adopt_lr t hnw hxk hit hh b (by rw [← hh]; exact hb)
              have hN1 : (if b then now else now + 1) ≤ j + 1 := by split <;> omega
              generalize (if b then now else now + 1) = now' at hC hN1
              generalize (if b then m else askM m now churn key) = m' at hR hC
              have HS := hid s1
              have HZ := hid z1
              clear hh hb s1 z1
              go_wp2_with fail
              refine hR.mono ?_
              rintro e w2 ⟨av', cap', p', rfl, hby, hrow, u2⟩
              have s2 := HS.out.non u2
              have z2 := HZ.out.non u2
              clear e0 e1 e2 d0 d1 d2 f0 f1 f2
              obtain ⟨e0, e1, e2, -, -, -⟩ := blk3 z2.blk
              obtain ⟨d0, d1, d2, f0, f1, f2⟩ := blk3 s2.bk
              have HS2 := hid s2
              have HZ2 := hid z2
              have hb8 := s2.bk.lt
              have hne1 : w2.heap.size ≠ b8 := by omega
              clear s2 z2 hR
              go_upto_region 26 with (fail)
              have s4 := ((HS2.out.store k hrow hby).non ((Upd.refl Non _).alloc (.cells (cV k churn av' p'.length cap') 68)))
              have z4 := (HZ2.out.store (.int .i64 k) (.bool churn) (.slice av' p'.length cap')).non ((Upd.refl Non _).alloc (.cells (cV k churn av' p'.length cap') 68))
              generalize World.alloc _ _ = wT at s4 z4 ⊢
              clear HS2 HZ2 hrow hby u2 e0 e1 e2 d0 d1 d2 f0 f1 f2 hne1 hb8 HS HZ
              obtain ⟨e0, e1, e2, -, -, -⟩ := blk3 z4.blk
              go_wp2_with fail
              refine (hC _ _ s4.a).mono ?_
              rintro e w6 ⟨rfl, G6, h6, u6', q6⟩
              have s6 := s4.cache h6 u6' q6
              have z6 := z4.cache u6' q6
              clear s4 z4 hC e0 e1 e2
              go_wp2_with fail
              go_meet
              exact ⟨_, _, _, _, _, _, _, s6, z6, hN1⟩
            · by_cases h3 : kind = 3
              · as_aux_lemma =>
                subst h3
                obtain ⟨vs, b, hv⟩ : ∃ vs b, popV m = .tuple #[.string vs, .bool b] := by cases m with
                  | nil => exact ⟨_, _, rfl⟩
                  | cons y r => exact ⟨_, _, rfl⟩
                have hC := fun W G (t : LR W bc G m k now churn) => drop_lr t (by omega) vs b hv
                have hG := s1.a.good
                have hR := fun W (F : Nat → Prop) (r : RowP W F ar cr p) (hF : ∀ x, F x → x < W.heap.size) => drop_all_ref (most := k) r hF s1.by_ hG hnw vs b hv
                generalize m.tail = m' at hC hR
                generalize hnp : p.length = np at hR d2
                have HNP := hid hnp
                have HS := hid s1
                have HZ := hid z1
                clear hh hv s1 z1 hG hnp e0 e1 e2 d0 d1 d2 f0 f1 f2
                go_wp2_with fail
                refine (hC _ _ HS.out.a).mono ?_
                rintro e w2 ⟨rfl, G2, h2', u2, q2⟩
                have s2 := HS.out.cache h2' u2 q2
                have z2 := HZ.out.cache u2 q2
                obtain ⟨d0, d1, d2, -, -, -⟩ := blk3 s2.bk
                rw [HNP.out] at d2
                have HS2 := hid s2
                have HZ2 := hid z2
                clear s2 z2 HS HZ hC h2' u2 q2
                go_wp2_with fail
                refine (hR _ _ HS2.out.row HS2.out.lt).mono ?_
                rintro e w3 ⟨av', cap', p', rfl, hby, hrow, u3⟩
                have s3 := HS2.out.non u3
                have z3 := HZ2.out.non u3
                clear d0 d1 d2
                obtain ⟨d0, d1, d2, f0, f1, f2⟩ := blk3 s3.bk
                have HS3 := hid s3
                have HZ3 := hid z3
                have hb8 := s3.bk.lt
                have hne1 : w3.heap.size ≠ b8 := by omega
                clear s3 z3 hR HS2 HZ2
                go_upto_region 32 with (fail)
                have s4 := ((HS3.out.store k hrow hby).non ((Upd.refl Non _).alloc (.cells (cV k churn av' p'.length cap') 68)))
                have z4 := (HZ3.out.store (.int .i64 k) (.bool churn) (.slice av' p'.length cap')).non ((Upd.refl Non _).alloc (.cells (cV k churn av' p'.length cap') 68))
                generalize World.alloc _ _ = wT at s4 z4 ⊢
                clear HS3 HZ3 hrow hby u3 d0 d1 d2 f0 f1 f2 hne1 hb8
                go_wp2_with fail
                go_meet
                exact ⟨_, _, _, _, _, _, _, s4, z4, by omega⟩
              · by_cases h4 : kind = 4
                · as_aux_lemma =>
                  subst h4
                  obtain ⟨k', hk'⟩ : ∃ k', max xn 0 = k' := ⟨_, rfl⟩
                  obtain ⟨n, hn⟩ : ∃ n : Nat, (n : Int) = max 0 ((m.length : Int) - k') := ⟨(max 0 ((m.length : Int) - k')).toNat, by omega⟩
                  have hG := s1.a.good
                  have hpl := s1.by_.perm.length_eq
                  have hml := hG.len
                  have hR := resize_ref (most := k) s1.row s1.lt (by omega) s1.by_ hG.nt hG.so hG.twos xn k' n hk' hn
                  have hC := fun W G (t : LR W bc G m k now churn) => resize_lr t hnw xn k' n hk' hn
                  have hkt : ((keysM m).take n).length = n := by
                    have hkl : (keysM m).length = m.length := by simp [keysM]
                    rw [List.length_take, hkl]; omega
                  have hSm : ∀ W (F F' : Nat → Prop) av av' cap cap', Arr W F av 1 (strC ((keysM m).take n)) → Arr W F' av' 1 (strC ((keysM m).take n)) → Calls Try.prog 34 #[.slice av n cap, .slice av' n cap'] W fun e w' => e = .returned (.bool true) ∧ Upd Non W w' := by
                    intro W F F' av av' cap cap' A B
                    have := same_is (cap := cap) (cap' := cap') A B (by rw [hkt]; omega) true (by simp)
                    rw [hkt] at this
                    exact this
                  have hdl : m.drop n = m.drop n := rfl
                  generalize (keysM m).take n = ks at hR hC hSm
                  generalize m.drop n = m' at hR hC
                  generalize hnp : p.length = np at hR d2
                  have HS := hid s1
                  have HZ := hid z1
                  clear hh hkt hdl hnp hn hk' hpl hml hG s1 z1
                  go_wp2_with fail
                  refine hR.mono ?_
                  rintro e w2 ⟨av', cap', p', ov, oc, rfl, hby, hrow, ha, u2⟩
                  have s2 := HS.out.non u2
                  have z2 := HZ.out.non u2
                  clear e0 e1 e2 d0 d1 d2 f0 f1 f2
                  obtain ⟨e0, e1, e2, -, -, -⟩ := blk3 z2.blk
                  obtain ⟨d0, d1, d2, f0, f1, f2⟩ := blk3 s2.bk
                  have HS2 := hid s2
                  have HZ2 := hid z2
                  have hb8 := s2.bk.lt
                  have hne1 : w2.heap.size ≠ b8 := by omega
                  clear s2 z2 hR
                  go_upto_region 37 with (fail)
                  have s4 := ((HS2.out.store k' hrow hby).non ((Upd.refl Non _).alloc (.cells (cV k' churn av' p'.length cap') 68)))
                  have z4 := (HZ2.out.store (.int .i64 k') (.bool churn) (.slice av' p'.length cap')).non ((Upd.refl Non _).alloc (.cells (cV k' churn av' p'.length cap') 68))
                  have oa := (arr_store ha (.int .i64 k') (.bool churn) (.slice av' p'.length cap')).non ((Upd.refl Non _).alloc (.cells (cV k' churn av' p'.length cap') 68))
                  generalize World.alloc _ _ = wT at s4 z4 oa ⊢
                  clear HS2 HZ2 hrow hby u2 e0 e1 e2 d0 d1 d2 f0 f1 f2 hne1 hb8 HS HZ ha
                  obtain ⟨e0, e1, e2, -, -, -⟩ := blk3 z4.blk
                  go_wp2_with fail
                  refine (hC _ _ s4.a).mono ?_
                  rintro e w6 ⟨av6, cap6, G6, rfl, a6, h6, u6', q6⟩
                  have s6 := s4.cache h6 u6' q6
                  have z6 := z4.cache u6' q6
                  have oa6 : Arr w6 (fun x => G6 x ∨ x = b8) ov 1 (strC ks) := oa.step (u6'.mono (fun x hx => .inl (.inl hx))) (fun x hx => hx.elim (fun h => (q6 x h).imp .inl id) (fun e => .inl (.inr e)))
                  clear s4 z4 hC oa h6 u6' q6 e0 e1 e2
                  go_wp2_with fail
                  refine (hSm _ _ _ _ _ _ _ a6 oa6).mono ?_
                  rintro e w7 ⟨rfl, u7⟩
                  have s7 := s6.non u7
                  have z7 := z6.non u7
                  clear s6 z6 a6 oa6 u7 hSm
                  go_wp2_with fail
                  go_meet
                  exact ⟨_, _, _, _, _, _, _, s7, z7, by omega⟩
                · have q0 : (kind == 0) = false := by simpa using h0
                  have q1 : (kind == 1) = false := by simpa using h1
                  have q2 : (kind == 2) = false := by simpa using h2
                  have q3 : (kind == 3) = false := by simpa using h3
                  have q4 : (kind == 4) = false := by simpa using h4
                  clear h0 h1 h2 h3 h4 hh
                  go_wp2_with fail
                  go_meet
                  exact ⟨_, _, _, _, _, _, _, s1, z1, by omega⟩
      case rest =>
        as_aux_lemma =>
        clear s1 z1 hnow
        obtain ⟨G, m, p, k, now, ar, cr, s, z, hnow⟩ := hcut
        obtain ⟨vs, b, hv⟩ : ∃ vs b, popV m = .tuple #[.string vs, .bool b] := by cases m with
          | nil => exact ⟨_, _, rfl⟩
          | cons y r => exact ⟨_, _, rfl⟩
        have hG := s.a.good
        obtain ⟨t0, t1, t2⟩ := hG.times key
        obtain ⟨t, ht⟩ : ∃ t, timesM m key = t := ⟨_, rfl⟩
        obtain ⟨hit, hh⟩ : ∃ b, hitB m key = b := ⟨_, rfl⟩
        rw [ht, hh] at t2
        have hpl := s.by_.perm.length_eq
        have hml := hG.len
        have hnw : now ≤ 900000 := by omega
        have hkl : (keysM m).length = m.length := by simp [keysM]
        have hV := fun W (u : Upd Non wc W) => victim_lr (s.a.non u) (by omega) vs b hv
        have hVr := fun W (u : Upd Non wc W) => victim_ref (most := k) (churn := churn) (s.row.non u) (by omega) s.by_ hG.so hG.twos vs b hv
        have hK := fun W (u : Upd Non wc W) => keys_lr (s.a.non u) (by omega)
        have hKr := fun W (u : Upd Non wc W) => keys_ref (most := k) (s.row.non u) (fun x hx => Nat.lt_of_lt_of_le (s.lt x hx) u.size) (by omega) s.by_ hG.nt hG.so hG.twos
        have hLn := fun W (u : Upd Non wc W) => len_lr (s.a.non u)
        have hTm := fun W (u : Upd Non wc W) => times_lr (s.a.non u) (by omega) hxk t ht
        have hTr := fun W (u : Upd Non wc W) => times_ref (most := k) (churn := churn) (s.row.non u) (by omega) hG.nt s.by_.perm key t ht
        have hHs := fun W (u : Upd Non wc W) => has_lr (s.a.non u) (by omega) hxk hit hh
        have hSm : ∀ W (F F' : Nat → Prop) av av' cap cap', Arr W F av 1 (strC (keysM m)) → Arr W F' av' 1 (strC (keysM m)) → Calls Try.prog 34 #[.slice av m.length cap, .slice av' m.length cap'] W fun e w' => e = .returned (.bool true) ∧ Upd Non W w' := by
          intro W F F' av av' cap cap' A B
          have := same_is (cap := cap) (cap' := cap') A B (by rw [hkl]; omega) true (by simp)
          rw [hkl] at this
          exact this
        have HS := hid (fun W (u : Upd Non wc W) => show W.cell? ⟨b8, 0, none⟩ = some (.int .i64 k) ∧ W.cell? ⟨b8, 1, none⟩ = some (.bool churn) ∧ W.cell? ⟨b8, 2, none⟩ = some (.slice ar m.length cr) ∧ W.cell? ⟨b10, 1, none⟩ = some (.string key) ∧ Upd Non wc W from
          ⟨(s.bk.upd u id).cell 0 rfl, (s.bk.upd u id).cell 1 rfl, by have := (s.bk.upd u id).cell 2 rfl; rw [← hpl]; exact this, (z.blk.upd u id).cell 1 rfl, u⟩)
        rw [hpl] at hVr hKr hTr
        have HPS := hid s
        have hm0 : m.length ≤ 900000 := by omega
        clear hG t0 t1 hh ht hpl hml hkl hv s z
        generalize m.length = n at hK hKr hLn hVr hTr hSm HS hm0
        go_wp2_with fail
        refine (hV _ (Upd.refl _ _)).mono ?_
        rintro e w2 ⟨rfl, u2⟩
        obtain ⟨d0, d1, d2, d3, -⟩ := HS.out _ u2
        go_wp2_with fail
        refine (hVr _ u2).mono ?_
        rintro e w3 ⟨rfl, u3⟩
        have U3 := u2.trans u3 (fun _ h => h.elim)
        clear d0 d1 d2 d3 u2 u3 hV hVr
        go_upto_region 41 with (fail)
        go_region_held3 (fun W => W.cell? ⟨b8, 0, none⟩ = some (.int .i64 k) ∧ W.cell? ⟨b8, 1, none⟩ = some (.bool churn) ∧ W.cell? ⟨b8, 2, none⟩ = some (.slice ar n cr) ∧ W.cell? ⟨b10, 1, none⟩ = some (.string key) ∧ Upd Non wc W)
          (first | with_reducible assumption | exact HS.out _ (((‹_ ∧ _ ∧ _ ∧ _ ∧ Upd Non wc _›).2.2.2.2).trans hU (fun _ h => h.elim)) | exact HS.out _ U3.drew)
          (first | (go_at_call 26; refine (hK _ (‹_ ∧ _ ∧ _ ∧ _ ∧ Upd Non wc _›).2.2.2.2).mono ?_; rintro e w4 ⟨av4, cap4, rfl, aK, hU⟩)
                 | (go_at_call 47; refine (hKr _ (‹_ ∧ _ ∧ _ ∧ _ ∧ Upd Non wc _›).2.2.2.2).mono ?_; rintro e w5 ⟨av5, cap5, rfl, aR, hU⟩; have aK2 := aK.non hU)
                 | (go_at_call 34; refine (hSm _ _ _ _ _ _ _ aK2 aR).mono ?_; rintro e w6 ⟨rfl, hU⟩)
                 | (go_at_call 29; refine (hLn _ (‹_ ∧ _ ∧ _ ∧ _ ∧ Upd Non wc _›).2.2.2.2).mono ?_; rintro e w7 ⟨rfl, rfl⟩)
                 | (go_at_call 27; refine (hTm _ (‹_ ∧ _ ∧ _ ∧ _ ∧ Upd Non wc _›).2.2.2.2).mono ?_; rintro e w8 ⟨rfl, hU⟩)
                 | (go_at_call 38; refine (hTr _ (‹_ ∧ _ ∧ _ ∧ _ ∧ Upd Non wc _›).2.2.2.2).mono ?_; rintro e w9 ⟨rfl, hU⟩)
                 | (go_at_call 31; refine (hHs _ (‹_ ∧ _ ∧ _ ∧ _ ∧ Upd Non wc _›).2.2.2.2).mono ?_; rintro e w9 ⟨rfl, hU⟩)
                 | (go_at_call 48; refine (ghosts_lr _ _).mono ?_; rintro e w9 ⟨rfl, rfl⟩))
        all_goals
          have s9 := HPS.out.non (‹_ ∧ _ ∧ _ ∧ _ ∧ Upd Non wc _›).2.2.2.2
          clear HPS
          go_wp2_with fail
          go_roundg (l.length - (j + 1))
          case measure => omega
          case rel => exact ⟨j + 1, G, m, p, k, now, ar, cr, by omega, Nat.le_refl _, by go_num, s9, by omega⟩
    · obtain rfl : j = l.length := by omega
      go_wp2_with fail
      go_ret
      exact ⟨rfl, u1.trans s.upd (fun _ h => h.elim)⟩

end Go.Proofs.Ytalnjkeajlbbpaa

/- The statement LfuPlays, whatever its arguments. -/
namespace Go.Proofs.Ytalnjkeajlbbpaa
open Go.RowKit
set_option linter.unusedSimpArgs false
set_option linter.unusedVariables false

set_option maxRecDepth 100000 in
set_option maxHeartbeats 800000 in
theorem plays_all {w : World} {av : Option Addr} {cap : Nat} {l : List Act5} {most : Int} {churn : Bool} (hA : Arr w Non av 3 (act5C l)) :
    Calls Try.prog 10 #[.int .i64 most, .bool churn, .slice av l.length cap] w fun e w' => e = .returned (.bool true) ∧ Upd Non w w' := by
  cases hf : fewB 0 l with
  | true =>
    obtain ⟨h1, h2⟩ := fewB_all 0 l hf
    exact plays_is hA (by rcases h1 with rfl | h1; simp; omega) h2 hf
  | false =>
    have HF := hid hf
    clear hf
    go_enter Try.func10, Try.ntmps10
    go_wp2_with fail
    refine (awake6_is _).mono ?_
    rintro e w1 ⟨rfl, u1⟩
    have a1 := hA.non u1
    clear hA
    go_wp2_with fail
    refine (few_any a1 false HF.out).mono ?_
    rintro e w2 ⟨rfl, u2⟩
    go_wp2_with fail
    go_ret
    exact ⟨rfl, u1.trans u2 (fun _ h => h.elim)⟩

end Go.Proofs.Ytalnjkeajlbbpaa
