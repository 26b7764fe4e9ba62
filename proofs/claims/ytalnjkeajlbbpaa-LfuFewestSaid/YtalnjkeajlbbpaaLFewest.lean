/- Walk: the statement LfuFewest. -/
import Derived.Test.YtalnjkeajlbbpaaLfuG
import Derived.Deep.RegionWith
import Derived.Test.YtalnjkeajlbbpaaDet
namespace Go.Proofs.Ytalnjkeajlbbpaa
open Go.RowKit

/-- What the first inner loop keeps: the cache, the row, the map. -/
structure FewS (w1 w : World) (bc bs : Nat) (G : Nat → Prop) (m : List (Itm ByteArray)) (most now : Int) (churn : Bool) (av : Option Addr) (i : Nat) : Prop where
  c : L1 w1 w bc G m most now churn
  arr : Arr w (With2 G bs bs) av 1 (strC (keysM m))
  mp : MapA SK w bs (timesF m ((keysM m).take i)) i
  no : ¬ G bs
  fb : w1.heap.size ≤ bs

theorem timesF_nil (m : List (Itm ByteArray)) : timesF m [] = fun _ => none := by
  funext k
  simp [timesF, isIn]

variable {w1 w w' : World} {bc bs : Nat} {G : Nat → Prop} {m : List (Itm ByteArray)} {most now : Int} {churn : Bool} {av : Option Addr} {i : Nat}

theorem FewS.non (s : FewS w1 w bc bs G m most now churn av i) (u : Upd Non w w') : FewS w1 w' bc bs G m most now churn av i :=
  ⟨s.c.non u, s.arr.non u, s.mp.upd u id, s.no, s.fb⟩

theorem few_store (s : FewS w1 w bc bs G m most now churn av i) (hi : i ≤ 1000000) {k : ByteArray} (hs : (keysM m)[i]? = some k) (hx : k.size ≤ maxLen) (t : Int) (ht : timesM m k = t) :
    ∃ w', (Instr.mapUpdate 54 (.map (some bs)) (.string k) (.int .i64 t)).run Try.prog w = .ok () w' ∧ FewS w1 w' bc bs G m most now churn av (i + 1) := by
  obtain ⟨w', hr, hm, hu⟩ := times_store s.mp hi s.c.a.nt hs hx t ht
  exact ⟨w', hr, ⟨s.c.other hu (fun k hk e => s.no (e ▸ hk)) (fun k hk => hk ▸ s.fb), s.arr.step (hu.mono (fun k hk => .inl (.inr (.inl hk)))) (Within.refl _ _), hm, s.no, s.fb⟩⟩

set_option maxRecDepth 100000 in
set_option maxHeartbeats 6400000 in
theorem fewest_is {w : World} {av : Option Addr} {cap : Nat} {l : List ByteArray} {most : Int} {churn : Bool} (hl : l.length ≤ 200) (hA : Arr w Non av 1 (strC l)) (hm : 1 ≤ most) :
    Calls Try.prog 7 #[.int .i64 most, .bool churn, .slice av l.length cap] w fun e w' => e = .returned (.bool true) ∧ Upd Non w w' := by
  have hmx : max most 0 = most := by omega
  have HMX := hid hmx
  clear hmx
  have hmm := @run_makeMap Try.prog
  go_enter Try.func7, Try.ntmps7
  go_wp2_with fail
  refine (awake6_is _).mono ?_
  rintro e w1 ⟨rfl, u1⟩
  have a1 := hA.non u1
  clear hA
  go_wp2_with fail
  refine (new_lr _ most churn).mono ?_
  rintro e w2 ⟨bc, G, rfl, h2, u2, hG⟩
  rw [HMX.out] at h2
  have l2 : L1 w1 w2 bc G [] most 0 churn := ⟨h2, u2, hG⟩
  clear h2 u2 hG
  go_wp2_with fail
  go_loopg [8] l.length (fun k s8 wr => ∃ (j : Nat) (G : Nat → Prop) (m : List (Itm ByteArray)), j ≤ l.length ∧ l.length - j ≤ k ∧ s8 = .int .i64 j ∧ L1 w1 wr bc G m most j churn ∧ (m.length : Int) ≤ most)
  case atStart => exact ⟨0, G, [], Nat.zero_le _, Nat.sub_le _ _, rfl, l2, by simp; omega⟩
  case round =>
    clear l2
    obtain ⟨j, G, m, hj, hjk, rfl, s, hml⟩ := hrel
    have a := a1.non s.upd
    by_cases hlt : j < l.length
    · obtain ⟨x, hx⟩ : ∃ x, l[j]? = some x := ⟨l[j], List.getElem?_eq_getElem hlt⟩
      obtain ⟨g, off, hv, c0⟩ := a.str hx
      subst hv
      have HX := hid hx
      clear hx
      have hjl : (j : Int) < (l.length : Int) := by omega
      by_cases hxs : x.size ≤ 200
      · have hxk : x.size ≤ maxLen := by unfold maxLen; omega
        have hxs' : (x.size : Int) ≤ 200 := by omega
        have s3 := s.non ((Upd.refl Non wr).alloc (.map #[] 0))
        have m3 : MapA SK (wr.alloc (.map #[] 0)) wr.heap.size (fun _ => none) 0 := MapA.made SK wr
        have hno : ¬ G wr.heap.size := fun h => by have := s.a.lt _ h; omega
        have hfb := s.upd.size
        have hml3 := m3.lt
        clear s a
        go_wp2_with fail
        generalize wr.alloc (.map #[] 0) = w3 at s3 m3 hml3 ⊢
        generalize wr.heap.size = bs at m3 hno hfb hml3 ⊢
        refine (keys_lrF (F' := With2 G bs bs) s3.a (by omega) (fun k hk => by rcases hk with h | h | h; exact s3.a.lt k h; omega; omega)).mono ?_
        rintro e w4 ⟨av1, cap1, rfl, a4, u4⟩
        have f4 : FewS w1 w4 bc bs G m most j churn av1 0 := ⟨s3.non u4, a4, by rw [List.take_zero, timesF_nil]; exact m3.upd u4 id, hno, hfb⟩
        clear s3 m3 hml3 hno hfb a4 u4 c0
        have hmn : m.length ≤ 1000 := by have := f4.c.a.nn; omega
        go_wp2_with fail
        go_loopg [11] m.length (fun k s11 wk => ∃ (i : Nat), i ≤ m.length ∧ m.length - i ≤ k ∧ s11 = .int .i64 i ∧ FewS w1 wk bc bs G m most j churn av1 i)
        case atStart => exact ⟨0, Nat.zero_le _, Nat.sub_le _ _, rfl, f4⟩
        case round =>
          clear f4
          obtain ⟨i, hi, hik, rfl, f⟩ := hrel
          by_cases hlt2 : i < m.length
          · obtain ⟨y, hy⟩ : ∃ y, m[i]? = some y := ⟨m[i], List.getElem?_eq_getElem hlt2⟩
            have hky : (keysM m)[i]? = some y.key := by simp [keysM, hy]
            have hyk := f.c.a.ok y (List.mem_iff_getElem?.2 ⟨i, hy⟩)
            obtain ⟨g1, off1, hv1, c1⟩ := f.arr.str hky
            subst hv1
            obtain ⟨t, ht⟩ : ∃ t, timesM m y.key = t := ⟨_, rfl⟩
            have hT := fun W (u : Upd Non wr W) => times_lr (f.c.a.non u) (by omega) hyk t ht
            have hF := fun W (u : Upd Non wr W) => few_store (f.non u) (by omega) hky hyk t ht
            clear hy hky ht
            have hil : (i : Int) < (m.length : Int) := by omega
            have c1' : wr.drew.cell? ⟨g1, off1 + i, none⟩ = some (.string y.key) := c1
            go_upto_region 18 with (fail)
            first | (go_region_with ((first | (go_at_call 27; refine (hT _ ((Upd.refl Non wr).drew)).mono ?_; rintro e w5 ⟨rfl, hU⟩; have cU := hU.keep c1'; obtain ⟨w6, hr6, f6⟩ := hF _ ((Upd.refl Non wr).drew.trans hU (fun _ h => h.elim)))))) | fail
            all_goals
              go_wp2_with fail
              go_roundg (m.length - (i + 1))
              case measure => omega
              case rel => exact ⟨i + 1, by omega, Nat.le_refl _, by go_num, f6⟩
          · obtain rfl : i = m.length := by omega
            have hmp := f.mp
            rw [show (keysM m).take m.length = keysM m by rw [show m.length = (keysM m).length by simp [keysM], List.take_length]] at hmp
            obtain ⟨hit, hh⟩ : ∃ b, hitB m x = b := ⟨_, rfl⟩
            obtain ⟨vs, hs⟩ : ∃ b, vicS m most x = b := ⟨_, rfl⟩
            obtain ⟨out, ho⟩ : ∃ b, outB m most x = b := ⟨_, rfl⟩
            obtain ⟨t, ht⟩ : ∃ t, timesM m x = t := ⟨_, rfl⟩
            obtain ⟨tr1, tr2, tr3⟩ := times_range f.c.a.ones f.c.a.nn.1 x
            rw [ht] at tr1 tr2 tr3
            rw [show (findM m x).isSome = hit from hh] at tr3
            have HO := hid ho
            have HH := hid hh
            have HV := hid hs
            have HT := hid ht
            have hN := f.c.a.nt
            have hSo := f.c.a.sorted
            have hones := hid f.c.a.ones
            have hoks := hid f.c.a.ok
            have HN := hid hN
            have HSo := hid hSo
            have hR := request_lr f.c.a (by omega) (by omega) hxk hit hh vs hs out ho
            have hlen := req_len (now := j) (churn := churn) (key := x) hN (by omega) hml
            obtain ⟨g0, off0, hv0, c0⟩ := (a1.non f.c.upd).str HX.out
            have HG0 := hid hv0
            clear hv0
            obtain ⟨rfl, rfl⟩ : g = g0 ∧ off = off0 := by have := HG0.out; simp at this; exact this
            clear hh hs ho ht hN hSo
            go_wp2_with fail
            refine hR.mono ?_
            rintro e w5 ⟨rfl, G5, h5, u5, q5⟩
            have c5 := f.c.step h5 u5 q5
            have b5 := f.arr.step (u5.mono (fun k hk => .inl (.inl hk)) : Upd (With2 G bs bs) _ _) (F' := With2 G5 bs bs) (fun k hk => hk.elim (fun h => (q5 k h).imp .inl id) (fun h => .inl (.inr h)))
            have m5 := hmp.upd u5 f.no
            have hT1 := req_times c5.a.nt
            rw [HT.out] at hT1
            clear hR h5 u5 q5 c0 hmp f
            generalize reqM m most j churn x = m' at c5 hT1 hlen
            have u6 : Upd Non w5 (w5.alloc (.cells #[.bool hit, .string vs, .bool out] 57)) := (Upd.refl Non w5).alloc _
            have S6 : Blk (w5.alloc (.cells #[.bool hit, .string vs, .bool out] 57)) w5.heap.size #[.bool hit, .string vs, .bool out] 57 := Blk.new w5 _ _
            have c6 := c5.non u6
            have b6 := b5.non u6
            have m6 := m5.upd u6 id
            clear c5 b5 m5 u6
            go_upto_region 20 with (fail)
            generalize w5.alloc _ = wA at S6 c6 b6 m6 ⊢
            generalize w5.heap.size = sb at S6 ⊢
            obtain ⟨g7, off7, hv7, c0⟩ := (a1.non c6.upd).str HX.out
            have HG7 := hid hv7
            clear hv7
            obtain ⟨rfl, rfl⟩ : g = g7 ∧ off = off7 := by have := HG7.out; simp at this; exact this
            have hS : ∀ W, Upd Non wA W → (W.cell? ⟨sb, 0, none⟩ = some (.bool hit) ∧ W.cell? ⟨sb, 2, none⟩ = some (.bool out) ∧ W.cell? ⟨g, off + j, none⟩ = some (.string x) ∧ (Instr.lookup 54 (.map (some bs)) (.string x) false).run Try.prog W = .ok (.int .i64 t) W ∧ Upd Non wA W) := fun W u =>
              ⟨(S6.upd u id).cell 0 rfl, (S6.upd u id).cell 2 rfl, u.keep c0, times_look (m6.upd u id) hxk t HT.out, u⟩
            have hTm := fun W (u : Upd Non wA W) => times_lr (c6.a.non u) (by omega) hxk (t + 1) hT1
            have hLn := fun W (u : Upd Non wA W) => len_lr (c6.a.non u)
            have hw1 : IntKind.i64.wrap (t + 1) = t + 1 := by rw [IntKind.wrap_i64]; omega
            go_cut [119] from 28 to 147 (fun s119 wc => s119 = .bool false ∧ Upd Non wA wc)
            case first =>
              have HS := hid hS
              clear hS
              have hld : decide (most < (m'.length : Int)) = false := by simpa using hlen
              cases hit with
              | true =>
                obtain rfl : false = out := by rw [← HO.out, outB, HH.out]; rfl
                have ht0 : (0 : Int) < t := by simpa using tr3
                have ht1 : decide ((0 : Int) < t) = true := by simpa using ht0
                clear tr3
                refine wp_region_det (fun W => W.cell? ⟨sb, 0, none⟩ = some (.bool true) ∧ W.cell? ⟨sb, 2, none⟩ = some (.bool false) ∧ W.cell? ⟨g, off + j, none⟩ = some (.string x) ∧ (Instr.lookup 54 (.map (some bs)) (.string x) false).run Try.prog W = .ok (.int .i64 t) W ∧ Upd Non wA W) (by kernel_rfl) (by kernel_rfl) (by kernel_rfl) (HS.out _ ((Upd.refl Non wA).drew)) ?_
                simp only [List.toList_toArray]
                iterate 16 (first | (refine det_pure (v := ?_) (by rfl) ?_ ?_; rotate_left; (intro w hSw; (try dsimp only at hSw); go_simp); (try with_reducible rfl); simp only [Act.put, List.setIfInBounds_toArray, List.set_cons_zero, List.set_cons_succ]) | (refine det_skip (by rfl) ?_; simp only [Act.put, List.setIfInBounds_toArray, List.set_cons_zero, List.set_cons_succ]) | fail)
                refine det_call (by rfl) (fun _ => by first | (go_simp; done) | kernel_rfl | rfl) (fun W hSw => (hTm W hSw.2.2.2.2).mono fun e w' h => ⟨h.1, HS.out _ (hSw.2.2.2.2.trans h.2 (fun _ h => h.elim))⟩) ?_
                simp only [Act.put, List.setIfInBounds_toArray, List.set_cons_zero, List.set_cons_succ]
                iterate 19 (first | (refine det_pure (v := ?_) (by rfl) ?_ ?_; rotate_left; (intro w hSw; (try dsimp only at hSw); go_simp); (try with_reducible rfl); simp only [Act.put, List.setIfInBounds_toArray, List.set_cons_zero, List.set_cons_succ]) | (refine det_skip (by rfl) ?_; simp only [Act.put, List.setIfInBounds_toArray, List.set_cons_zero, List.set_cons_succ]) | fail)
                refine det_call (by rfl) (fun _ => by first | (go_simp; done) | kernel_rfl | rfl) (fun W hSw => (hLn W hSw.2.2.2.2).mono fun e w' h => ⟨h.1, h.2 ▸ hSw⟩) ?_
                simp only [Act.put, List.setIfInBounds_toArray, List.set_cons_zero, List.set_cons_succ]
                iterate 17 (first | (refine det_pure (v := ?_) (by rfl) ?_ ?_; rotate_left; (intro w hSw; (try dsimp only at hSw); go_simp); (try with_reducible rfl); simp only [Act.put, List.setIfInBounds_toArray, List.set_cons_zero, List.set_cons_succ]) | (refine det_skip (by rfl) ?_; simp only [Act.put, List.setIfInBounds_toArray, List.set_cons_zero, List.set_cons_succ]) | fail)
                refine det_nil fun wz hSz => ?_
                go_wp2_with fail
                go_meet
                exact ⟨rfl, hSz.2.2.2.2⟩
              | false =>
                have ht0 : ¬ (0 : Int) < t := by simpa using tr3
                have ht1 : decide ((0 : Int) < t) = false := by simpa using ht0
                clear tr3
                cases out with
                | true =>
                  have hmo : (m.length : Int) = most := by
                    have := HO.out
                    simp only [outB, HH.out, Bool.not_false, Bool.true_and, decide_eq_true_eq] at this
                    omega
                  have hmb : ((m.length : Int) == most) = true := by simpa using hmo
                  have HMO := hid hmo
                  clear hmo
                  refine wp_region_det (fun W => W.cell? ⟨sb, 0, none⟩ = some (.bool false) ∧ W.cell? ⟨sb, 2, none⟩ = some (.bool true) ∧ W.cell? ⟨g, off + j, none⟩ = some (.string x) ∧ (Instr.lookup 54 (.map (some bs)) (.string x) false).run Try.prog W = .ok (.int .i64 t) W ∧ Upd Non wA W) (by kernel_rfl) (by kernel_rfl) (by kernel_rfl) (HS.out _ ((Upd.refl Non wA).drew)) ?_
                  simp only [List.toList_toArray]
                  iterate 16 (first | (refine det_pure (v := ?_) (by rfl) ?_ ?_; rotate_left; (intro w hSw; (try dsimp only at hSw); go_simp); (try with_reducible rfl); simp only [Act.put, List.setIfInBounds_toArray, List.set_cons_zero, List.set_cons_succ]) | (refine det_skip (by rfl) ?_; simp only [Act.put, List.setIfInBounds_toArray, List.set_cons_zero, List.set_cons_succ]) | fail)
                  refine det_call (by rfl) (fun _ => by first | (go_simp; done) | kernel_rfl | rfl) (fun W hSw => (hTm W hSw.2.2.2.2).mono fun e w' h => ⟨h.1, HS.out _ (hSw.2.2.2.2.trans h.2 (fun _ h => h.elim))⟩) ?_
                  simp only [Act.put, List.setIfInBounds_toArray, List.set_cons_zero, List.set_cons_succ]
                  iterate 19 (first | (refine det_pure (v := ?_) (by rfl) ?_ ?_; rotate_left; (intro w hSw; (try dsimp only at hSw); go_simp); (try with_reducible rfl); simp only [Act.put, List.setIfInBounds_toArray, List.set_cons_zero, List.set_cons_succ]) | (refine det_skip (by rfl) ?_; simp only [Act.put, List.setIfInBounds_toArray, List.set_cons_zero, List.set_cons_succ]) | fail)
                  refine det_call (by rfl) (fun _ => by first | (go_simp; done) | kernel_rfl | rfl) (fun W hSw => (hLn W hSw.2.2.2.2).mono fun e w' h => ⟨h.1, h.2 ▸ hSw⟩) ?_
                  simp only [Act.put, List.setIfInBounds_toArray, List.set_cons_zero, List.set_cons_succ]
                  iterate 17 (first | (refine det_pure (v := ?_) (by rfl) ?_ ?_; rotate_left; (intro w hSw; (try dsimp only at hSw); go_simp); (try with_reducible rfl); simp only [Act.put, List.setIfInBounds_toArray, List.set_cons_zero, List.set_cons_succ]) | (refine det_skip (by rfl) ?_; simp only [Act.put, List.setIfInBounds_toArray, List.set_cons_zero, List.set_cons_succ]) | fail)
                  refine det_nil fun wz hSz => ?_
                  go_wp2_with fail
                  go_meet
                  exact ⟨rfl, hSz.2.2.2.2⟩
                | false =>
                  have hmo : ¬ (m.length : Int) = most := by
                    have := HO.out
                    simp only [outB, HH.out, Bool.not_false, Bool.true_and, decide_eq_false_iff_not] at this
                    omega
                  have hmb : ((m.length : Int) == most) = false := by simpa using hmo
                  have HMO := hid hmo
                  clear hmo
                  refine wp_region_det (fun W => W.cell? ⟨sb, 0, none⟩ = some (.bool false) ∧ W.cell? ⟨sb, 2, none⟩ = some (.bool false) ∧ W.cell? ⟨g, off + j, none⟩ = some (.string x) ∧ (Instr.lookup 54 (.map (some bs)) (.string x) false).run Try.prog W = .ok (.int .i64 t) W ∧ Upd Non wA W) (by kernel_rfl) (by kernel_rfl) (by kernel_rfl) (HS.out _ ((Upd.refl Non wA).drew)) ?_
                  simp only [List.toList_toArray]
                  iterate 16 (first | (refine det_pure (v := ?_) (by rfl) ?_ ?_; rotate_left; (intro w hSw; (try dsimp only at hSw); go_simp); (try with_reducible rfl); simp only [Act.put, List.setIfInBounds_toArray, List.set_cons_zero, List.set_cons_succ]) | (refine det_skip (by rfl) ?_; simp only [Act.put, List.setIfInBounds_toArray, List.set_cons_zero, List.set_cons_succ]) | fail)
                  refine det_call (by rfl) (fun _ => by first | (go_simp; done) | kernel_rfl | rfl) (fun W hSw => (hTm W hSw.2.2.2.2).mono fun e w' h => ⟨h.1, HS.out _ (hSw.2.2.2.2.trans h.2 (fun _ h => h.elim))⟩) ?_
                  simp only [Act.put, List.setIfInBounds_toArray, List.set_cons_zero, List.set_cons_succ]
                  iterate 19 (first | (refine det_pure (v := ?_) (by rfl) ?_ ?_; rotate_left; (intro w hSw; (try dsimp only at hSw); go_simp); (try with_reducible rfl); simp only [Act.put, List.setIfInBounds_toArray, List.set_cons_zero, List.set_cons_succ]) | (refine det_skip (by rfl) ?_; simp only [Act.put, List.setIfInBounds_toArray, List.set_cons_zero, List.set_cons_succ]) | fail)
                  refine det_call (by rfl) (fun _ => by first | (go_simp; done) | kernel_rfl | rfl) (fun W hSw => (hLn W hSw.2.2.2.2).mono fun e w' h => ⟨h.1, h.2 ▸ hSw⟩) ?_
                  simp only [Act.put, List.setIfInBounds_toArray, List.set_cons_zero, List.set_cons_succ]
                  iterate 17 (first | (refine det_pure (v := ?_) (by rfl) ?_ ?_; rotate_left; (intro w hSw; (try dsimp only at hSw); go_simp); (try with_reducible rfl); simp only [Act.put, List.setIfInBounds_toArray, List.set_cons_zero, List.set_cons_succ]) | (refine det_skip (by rfl) ?_; simp only [Act.put, List.setIfInBounds_toArray, List.set_cons_zero, List.set_cons_succ]) | fail)
                  refine det_nil fun wz hSz => ?_
                  go_wp2_with fail
                  go_meet
                  exact ⟨rfl, hSz.2.2.2.2⟩
            case rest =>
              obtain ⟨rfl, u7⟩ := hcut
              have c7 := c6.non u7
              have S7 := S6.upd u7 id
              have b7 := b6.non u7
              have m7 := m6.upd u7 id
              clear hS hTm hLn hw1 c0 c6 S6 b6 m6 u7 tr3
              have so : wc.cell? ⟨sb, 2, none⟩ = some (.bool out) := S7.cell 2 rfl
              cases out with
              | false =>
                go_wp2_with fail
                go_loopg [13] 0 (fun k s13 wr => s13 = .int .i64 0 ∧ wc = wr)
                case atStart => exact ⟨rfl, rfl⟩
                case round =>
                  obtain ⟨rfl, rfl⟩ := hrel
                  by_cases hz : (0 : Int) < (m.length : Int)
                  · have hz' : decide ((0 : Int) < (m.length : Int)) = true := by simpa using hz
                    go_wp2_with fail
                    go_roundg (l.length - (j + 1))
                    case measure => omega
                    case rel => exact ⟨j + 1, G5, m', by omega, Nat.le_refl _, by go_num, c7, hlen⟩
                  · have hz' : decide ((0 : Int) < (m.length : Int)) = false := by simpa using hz
                    go_wp2_with fail
                    go_roundg (l.length - (j + 1))
                    case measure => omega
                    case rel => exact ⟨j + 1, G5, m', by omega, Nat.le_refl _, by go_num, c7, hlen⟩
              | true =>
                obtain ⟨y, hy0, hvs⟩ : ∃ y, m[0]? = some y ∧ vs = y.key := by
                  have h1 := HO.out
                  have h2 := HV.out
                  unfold vicS at h2
                  rw [h1, if_pos rfl] at h2
                  simp only [outB, Bool.and_eq_true, decide_eq_true_eq] at h1
                  cases m with
                  | nil => have := h1.2; simp at this; omega
                  | cons y r => exact ⟨y, rfl, h2.symm⟩
                subst hvs
                have hym := List.mem_iff_getElem?.2 ⟨0, hy0⟩
                have hty := times_mem HN.out hym
                have hyk := hoks.out y hym
                have hy1 := (hones.out y hym).1
                have HY0 := hid hy0
                have HTY := hid hty
                clear hy0 hty hym
                go_wp2_with fail
                go_loopg [13] m.length (fun k s13 wr => ∃ i : Nat, i ≤ m.length ∧ m.length - i ≤ k ∧ s13 = .int .i64 i ∧ Hid (∃ q, wr = wc.drewN q))
                case atStart => exact ⟨0, Nat.zero_le _, Nat.sub_le _ _, rfl, hid ⟨0, rfl⟩⟩
                case round =>
                  clear so
                  obtain ⟨i, hi, hik, rfl, hw⟩ := hrel
                  have so : wr.cell? ⟨sb, 2, none⟩ = some (.bool true) := (S7.upd (quiet_upd hw) id).cell 2 rfl
                  by_cases hlt2 : i < m.length
                  · obtain ⟨z, hz⟩ : ∃ z, m[i]? = some z := ⟨m[i], List.getElem?_eq_getElem hlt2⟩
                    have hkz : (keysM m)[i]? = some z.key := by simp [keysM, hz]
                    have hzm := List.mem_iff_getElem?.2 ⟨i, hz⟩
                    have hzk := hoks.out z hzm
                    have hle : y.one ≤ z.one := by
                      have hS := HSo.out
                      have h0 := HY0.out
                      revert hzm hS h0
                      cases m with
                      | nil => intro h; simp at h
                      | cons y' r => intro hzm hS h0; simp at h0; subst h0; exact head_least hS hzm
                    have htz := times_mem HN.out hzm
                    obtain ⟨g2, off2, hv2, c2⟩ := (b7.non (quiet_upd hw)).str hkz
                    subst hv2
                    have sv : wr.cell? ⟨sb, 1, none⟩ = some (.string y.key) := (S7.upd (quiet_upd hw) id).cell 1 rfl
                    have hr1 : ∀ n, (Instr.lookup 54 (.map (some bs)) (.string y.key) false).run Try.prog (wr.drewN n) = .ok (.int .i64 y.one) (wr.drewN n) := fun n => times_look (m7.upd ((quiet_upd hw).drewN n) id) hyk _ HTY.out
                    have hr2 : ∀ n, (Instr.lookup 54 (.map (some bs)) (.string z.key) false).run Try.prog (wr.drewN n) = .ok (.int .i64 z.one) (wr.drewN n) := fun n => times_look (m7.upd ((quiet_upd hw).drewN n) id) hzk _ htz
                    have d1 : decide (z.one < y.one) = false := by simp; omega
                    have d2 : (y.one == 0) = false := by simp; omega
                    have hil : (i : Int) < (m.length : Int) := by omega
                    have hil' : decide ((i : Int) < (m.length : Int)) = true := by simpa using hil
                    have HZ := hid hz
                    clear hz hkz hzm htz
                    go_wp2_with fail
                    go_quiet (fail)
                    go_wp2_with fail
                    go_roundg (m.length - (i + 1))
                    case measure => omega
                    case rel => exact ⟨i + 1, by omega, Nat.le_refl _, by go_num, hid (by obtain ⟨q, hq⟩ := hw.out; exact ⟨q + nq, by rw [hq, World.drewN_drewN]⟩)⟩
                  · obtain rfl : i = m.length := by omega
                    have c8 := c7.non (quiet_upd hw)
                    go_wp2_with fail
                    go_roundg (l.length - (j + 1))
                    case measure => omega
                    case rel => exact ⟨j + 1, G5, m', by omega, Nat.le_refl _, by go_num, c8, hlen⟩
      · have hxs' : (200 : Int) < (x.size : Int) := by omega
        go_wp2_with fail
        go_ret
        exact ⟨rfl, u1.trans s.upd (fun _ h => h.elim)⟩
    · obtain rfl : j = l.length := by omega
      clear a
      go_wp2_with fail
      go_ret
      exact ⟨rfl, u1.trans s.upd (fun _ h => h.elim)⟩

set_option maxRecDepth 100000 in
set_option maxHeartbeats 800000 in
theorem fewest_all {w : World} {av : Option Addr} {cap : Nat} {l : List ByteArray} {most : Int} {churn : Bool} (hA : Arr w Non av 1 (strC l)) :
    Calls Try.prog 7 #[.int .i64 most, .bool churn, .slice av l.length cap] w fun e w' => e = .returned (.bool true) ∧ Upd Non w w' := by
  by_cases hc : l.length ≤ 200 ∧ 1 ≤ most
  · exact fewest_is hc.1 hA hc.2
  · clear hA
    have hb : (decide ((200 : Int) < (l.length : Int)) || decide (most < 1)) = true := by
      simp only [Bool.or_eq_true, decide_eq_true_eq]
      omega
    clear hc
    go_enter Try.func7, Try.ntmps7
    go_wp2_with fail
    refine (awake6_is _).mono ?_
    rintro e w1 ⟨rfl, u1⟩
    generalize h1 : decide ((200 : Int) < (l.length : Int)) = b1 at hb
    generalize h3 : decide (most < 1) = b3 at hb
    cases b1 with
    | true =>
      clear hb h3
      go_wp2_with fail
      go_ret
      exact ⟨rfl, u1⟩
    | false =>
      obtain rfl : b3 = true := by simpa using hb
      clear hb
      go_wp2_with fail
      go_ret
      exact ⟨rfl, u1⟩

end Go.Proofs.Ytalnjkeajlbbpaa
