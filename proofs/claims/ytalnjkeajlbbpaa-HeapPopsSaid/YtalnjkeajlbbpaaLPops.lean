/- Walk: the statement HeapPops. (Printed by gen-lpops.py.) -/
import Derived.Test.YtalnjkeajlbbpaaPop
import Derived.Test.YtalnjkeajlbbpaaAwake4
namespace Go.Proofs.Ytalnjkeajlbbpaa
open Go.RowKit

theorem ltR_self (a b : Int) : ltR a b a b = false := by simp [ltR]
theorem ltR_back {a b c d : Int} (h : ltR a b c d = true) : ltR c d a b = false := by
  simp only [ltR, Bool.or_eq_true, Bool.and_eq_true, decide_eq_true_eq] at h
  simp only [ltR, Bool.or_eq_false_iff, Bool.and_eq_false_iff, decide_eq_false_iff_not]
  omega
theorem ltR_on {a b c d e f : Int} (h : ltR a b c d = true) (h' : ltR c d e f = true) : ltR a b e f = true := by
  simp only [ltR, Bool.or_eq_true, Bool.and_eq_true, decide_eq_true_eq] at h h' ⊢
  omega
theorem ltR_same {a b c d : Int} (h : ltR a b c d = false) (h' : ltR c d a b = false) : a = c ∧ b = d := by
  simp only [ltR, Bool.or_eq_false_iff, Bool.and_eq_false_iff, decide_eq_false_iff_not] at h h'
  omega

set_option maxRecDepth 100000 in
set_option maxHeartbeats 6400000 in
theorem pops_is {w : World} {av : Option Addr} {cap : Nat} {l : List Act4} {a1 a2 b1 b2 c1 c2 : Int} (hl : l.length ≤ 200) (hA : Arr w Non av 4 (act4C l)) (hks : ∀ a ∈ l, a.key.size ≤ maxLen) :
    Calls Try.prog 3 #[.slice av l.length cap, .agg #[.int .i64 a1, .int .i64 a2], .agg #[.int .i64 b1, .int .i64 b2], .agg #[.int .i64 c1, .int .i64 c2]] w fun e w' => e = .returned (.bool true) ∧ Upd Non w w' := by
  have HK := hid hks
  clear hks
  have hu0 : Upd Non w (((w.alloc (.cells #[.int .i64 a1, .int .i64 a2] 24)).alloc (.cells #[.int .i64 b1, .int .i64 b2] 24)).alloc (.cells #[.int .i64 c1, .int .i64 c2] 24)) := (((Upd.refl Non w).alloc _).alloc _).alloc _
  have BA0 : Blk (((w.alloc (.cells #[.int .i64 a1, .int .i64 a2] 24)).alloc (.cells #[.int .i64 b1, .int .i64 b2] 24)).alloc (.cells #[.int .i64 c1, .int .i64 c2] 24)) w.heap.size #[.int .i64 a1, .int .i64 a2] 24 := ((Blk.new w _ _).alloc _).alloc _
  have BB0 : Blk (((w.alloc (.cells #[.int .i64 a1, .int .i64 a2] 24)).alloc (.cells #[.int .i64 b1, .int .i64 b2] 24)).alloc (.cells #[.int .i64 c1, .int .i64 c2] 24)) (w.heap.size + 1) #[.int .i64 b1, .int .i64 b2] 24 := (Blk.new' (w.heap.size + 1) _ _ (by simp)).alloc _
  have BC0 : Blk (((w.alloc (.cells #[.int .i64 a1, .int .i64 a2] 24)).alloc (.cells #[.int .i64 b1, .int .i64 b2] 24)).alloc (.cells #[.int .i64 c1, .int .i64 c2] 24)) (w.heap.size + 2) #[.int .i64 c1, .int .i64 c2] 24 := Blk.new' (w.heap.size + 2) _ _ (by simp)
  have a0 := hA.non hu0
  clear hA
  have hmm := @run_makeMap Try.prog
  go_enter Try.func3, Try.ntmps3
  go_wp2_with fail
  refine (awake4_is _).mono ?_
  rintro e w1 ⟨rfl, u1⟩
  have aa := a0.non u1
  have BA := BA0.upd u1 id
  have BB := BB0.upd u1 id
  have BC := BC0.upd u1 id
  replace hu0 := hu0.trans u1 (fun _ h => h.elim)
  clear a0 BA0 BB0 BC0 u1
  have U := Upd.refl Non w1
  have Haa : Hid (ltR a1 a2 a1 a2 = false) := hid (ltR_self _ _)
  go_upto_region 5 with (fail)
  go_cut [71] from 21 to 71 (fun s71 wc => s71 = .bool false ∧ Upd Non w1 wc)
  case first =>
    obtain ⟨pa0, pa1⟩ := box2 BA U
    obtain ⟨pb0, pb1⟩ := box2 BB U
    obtain ⟨pc0, pc1⟩ := box2 BC U
    cases hab : ltR a1 a2 b1 b2 with
    | true =>
      have Hba := hid (ltR_back hab)
      cases hbc : ltR b1 b2 c1 c2 with
      | true =>
          have Hac := hid (ltR_on hab hbc)
          have Hab := hid hab
          have Hbc := hid hbc
          clear hab hbc
          go_wp2_with fail
          refine (less_is false _ _ _ _ _ Haa).mono ?_
          rintro e w2 ⟨rfl, u⟩
          replace U := U.trans u (fun _ h => h.elim)
          clear u pa0 pa1 pb0 pb1 pc0 pc1
          obtain ⟨pa0, pa1⟩ := box2 BA U
          obtain ⟨pb0, pb1⟩ := box2 BB U
          obtain ⟨pc0, pc1⟩ := box2 BC U
          go_wp2_with fail
          refine (less_is true _ _ _ _ _ Hab).mono ?_
          rintro e w3 ⟨rfl, u⟩
          replace U := U.trans u (fun _ h => h.elim)
          clear u pa0 pa1 pb0 pb1 pc0 pc1
          obtain ⟨pa0, pa1⟩ := box2 BA U
          obtain ⟨pb0, pb1⟩ := box2 BB U
          obtain ⟨pc0, pc1⟩ := box2 BC U
          go_wp2_with fail
          refine (less_is false _ _ _ _ _ Hba).mono ?_
          rintro e w4 ⟨rfl, u⟩
          replace U := U.trans u (fun _ h => h.elim)
          clear u pa0 pa1 pb0 pb1 pc0 pc1
          obtain ⟨pa0, pa1⟩ := box2 BA U
          obtain ⟨pb0, pb1⟩ := box2 BB U
          obtain ⟨pc0, pc1⟩ := box2 BC U
          go_wp2_with fail
          refine (less_is true _ _ _ _ _ Hab).mono ?_
          rintro e w5 ⟨rfl, u⟩
          replace U := U.trans u (fun _ h => h.elim)
          clear u pa0 pa1 pb0 pb1 pc0 pc1
          obtain ⟨pa0, pa1⟩ := box2 BA U
          obtain ⟨pb0, pb1⟩ := box2 BB U
          obtain ⟨pc0, pc1⟩ := box2 BC U
          go_wp2_with fail
          refine (less_is true _ _ _ _ _ Hbc).mono ?_
          rintro e w6 ⟨rfl, u⟩
          replace U := U.trans u (fun _ h => h.elim)
          clear u pa0 pa1 pb0 pb1 pc0 pc1
          obtain ⟨pa0, pa1⟩ := box2 BA U
          obtain ⟨pb0, pb1⟩ := box2 BB U
          obtain ⟨pc0, pc1⟩ := box2 BC U
          go_wp2_with fail
          refine (less_is true _ _ _ _ _ Hac).mono ?_
          rintro e w7 ⟨rfl, u⟩
          replace U := U.trans u (fun _ h => h.elim)
          clear u pa0 pa1 pb0 pb1 pc0 pc1
          obtain ⟨pa0, pa1⟩ := box2 BA U
          obtain ⟨pb0, pb1⟩ := box2 BB U
          obtain ⟨pc0, pc1⟩ := box2 BC U
          go_wp2_with fail
          refine (less_is true _ _ _ _ _ Hab).mono ?_
          rintro e w8 ⟨rfl, u⟩
          replace U := U.trans u (fun _ h => h.elim)
          clear u pa0 pa1 pb0 pb1 pc0 pc1
          obtain ⟨pa0, pa1⟩ := box2 BA U
          obtain ⟨pb0, pb1⟩ := box2 BB U
          obtain ⟨pc0, pc1⟩ := box2 BC U
          go_wp2_with fail
          go_meet
          exact ⟨rfl, U⟩
      | false =>
          have Hab := hid hab
          have Hbc := hid hbc
          clear hab hbc
          go_wp2_with fail
          refine (less_is false _ _ _ _ _ Haa).mono ?_
          rintro e w2 ⟨rfl, u⟩
          replace U := U.trans u (fun _ h => h.elim)
          clear u pa0 pa1 pb0 pb1 pc0 pc1
          obtain ⟨pa0, pa1⟩ := box2 BA U
          obtain ⟨pb0, pb1⟩ := box2 BB U
          obtain ⟨pc0, pc1⟩ := box2 BC U
          go_wp2_with fail
          refine (less_is true _ _ _ _ _ Hab).mono ?_
          rintro e w3 ⟨rfl, u⟩
          replace U := U.trans u (fun _ h => h.elim)
          clear u pa0 pa1 pb0 pb1 pc0 pc1
          obtain ⟨pa0, pa1⟩ := box2 BA U
          obtain ⟨pb0, pb1⟩ := box2 BB U
          obtain ⟨pc0, pc1⟩ := box2 BC U
          go_wp2_with fail
          refine (less_is false _ _ _ _ _ Hba).mono ?_
          rintro e w4 ⟨rfl, u⟩
          replace U := U.trans u (fun _ h => h.elim)
          clear u pa0 pa1 pb0 pb1 pc0 pc1
          obtain ⟨pa0, pa1⟩ := box2 BA U
          obtain ⟨pb0, pb1⟩ := box2 BB U
          obtain ⟨pc0, pc1⟩ := box2 BC U
          go_wp2_with fail
          refine (less_is true _ _ _ _ _ Hab).mono ?_
          rintro e w5 ⟨rfl, u⟩
          replace U := U.trans u (fun _ h => h.elim)
          clear u pa0 pa1 pb0 pb1 pc0 pc1
          obtain ⟨pa0, pa1⟩ := box2 BA U
          obtain ⟨pb0, pb1⟩ := box2 BB U
          obtain ⟨pc0, pc1⟩ := box2 BC U
          go_wp2_with fail
          refine (less_is false _ _ _ _ _ Hbc).mono ?_
          rintro e w6 ⟨rfl, u⟩
          replace U := U.trans u (fun _ h => h.elim)
          clear u pa0 pa1 pb0 pb1 pc0 pc1
          obtain ⟨pa0, pa1⟩ := box2 BA U
          obtain ⟨pb0, pb1⟩ := box2 BB U
          obtain ⟨pc0, pc1⟩ := box2 BC U
          go_wp2_with fail
          refine (less_is true _ _ _ _ _ Hab).mono ?_
          rintro e w7 ⟨rfl, u⟩
          replace U := U.trans u (fun _ h => h.elim)
          clear u pa0 pa1 pb0 pb1 pc0 pc1
          obtain ⟨pa0, pa1⟩ := box2 BA U
          obtain ⟨pb0, pb1⟩ := box2 BB U
          obtain ⟨pc0, pc1⟩ := box2 BC U
          go_wp2_with fail
          go_meet
          exact ⟨rfl, U⟩
    | false =>
      cases hba : ltR b1 b2 a1 a2 with
      | true =>
          have Hab := hid hab
          have Hba := hid hba
          clear hab hba
          go_wp2_with fail
          refine (less_is false _ _ _ _ _ Haa).mono ?_
          rintro e w2 ⟨rfl, u⟩
          replace U := U.trans u (fun _ h => h.elim)
          clear u pa0 pa1 pb0 pb1 pc0 pc1
          obtain ⟨pa0, pa1⟩ := box2 BA U
          obtain ⟨pb0, pb1⟩ := box2 BB U
          obtain ⟨pc0, pc1⟩ := box2 BC U
          go_wp2_with fail
          refine (less_is false _ _ _ _ _ Hab).mono ?_
          rintro e w3 ⟨rfl, u⟩
          replace U := U.trans u (fun _ h => h.elim)
          clear u pa0 pa1 pb0 pb1 pc0 pc1
          obtain ⟨pa0, pa1⟩ := box2 BA U
          obtain ⟨pb0, pb1⟩ := box2 BB U
          obtain ⟨pc0, pc1⟩ := box2 BC U
          go_wp2_with fail
          refine (less_is false _ _ _ _ _ Hab).mono ?_
          rintro e w4 ⟨rfl, u⟩
          replace U := U.trans u (fun _ h => h.elim)
          clear u pa0 pa1 pb0 pb1 pc0 pc1
          obtain ⟨pa0, pa1⟩ := box2 BA U
          obtain ⟨pb0, pb1⟩ := box2 BB U
          obtain ⟨pc0, pc1⟩ := box2 BC U
          go_wp2_with fail
          refine (less_is false _ _ _ _ _ Hab).mono ?_
          rintro e w5 ⟨rfl, u⟩
          replace U := U.trans u (fun _ h => h.elim)
          clear u pa0 pa1 pb0 pb1 pc0 pc1
          obtain ⟨pa0, pa1⟩ := box2 BA U
          obtain ⟨pb0, pb1⟩ := box2 BB U
          obtain ⟨pc0, pc1⟩ := box2 BC U
          go_wp2_with fail
          refine (less_is true _ _ _ _ _ Hba).mono ?_
          rintro e w6 ⟨rfl, u⟩
          replace U := U.trans u (fun _ h => h.elim)
          clear u pa0 pa1 pb0 pb1 pc0 pc1
          obtain ⟨pa0, pa1⟩ := box2 BA U
          obtain ⟨pb0, pb1⟩ := box2 BB U
          obtain ⟨pc0, pc1⟩ := box2 BC U
          go_wp2_with fail
          go_meet
          exact ⟨rfl, U⟩
      | false =>
          obtain ⟨rfl, rfl⟩ := ltR_same hab hba
          have Hab := hid hab
          have Hba := hid hba
          clear hab hba
          go_wp2_with fail
          refine (less_is false _ _ _ _ _ Haa).mono ?_
          rintro e w2 ⟨rfl, u⟩
          replace U := U.trans u (fun _ h => h.elim)
          clear u pa0 pa1 pb0 pb1 pc0 pc1
          obtain ⟨pa0, pa1⟩ := box2 BA U
          obtain ⟨pb0, pb1⟩ := box2 BB U
          obtain ⟨pc0, pc1⟩ := box2 BC U
          go_wp2_with fail
          refine (less_is false _ _ _ _ _ Hab).mono ?_
          rintro e w3 ⟨rfl, u⟩
          replace U := U.trans u (fun _ h => h.elim)
          clear u pa0 pa1 pb0 pb1 pc0 pc1
          obtain ⟨pa0, pa1⟩ := box2 BA U
          obtain ⟨pb0, pb1⟩ := box2 BB U
          obtain ⟨pc0, pc1⟩ := box2 BC U
          go_wp2_with fail
          refine (less_is false _ _ _ _ _ Hab).mono ?_
          rintro e w4 ⟨rfl, u⟩
          replace U := U.trans u (fun _ h => h.elim)
          clear u pa0 pa1 pb0 pb1 pc0 pc1
          obtain ⟨pa0, pa1⟩ := box2 BA U
          obtain ⟨pb0, pb1⟩ := box2 BB U
          obtain ⟨pc0, pc1⟩ := box2 BC U
          go_wp2_with fail
          refine (less_is false _ _ _ _ _ Hab).mono ?_
          rintro e w5 ⟨rfl, u⟩
          replace U := U.trans u (fun _ h => h.elim)
          clear u pa0 pa1 pb0 pb1 pc0 pc1
          obtain ⟨pa0, pa1⟩ := box2 BA U
          obtain ⟨pb0, pb1⟩ := box2 BB U
          obtain ⟨pc0, pc1⟩ := box2 BC U
          go_wp2_with fail
          refine (less_is false _ _ _ _ _ Hba).mono ?_
          rintro e w6 ⟨rfl, u⟩
          replace U := U.trans u (fun _ h => h.elim)
          clear u pa0 pa1 pb0 pb1 pc0 pc1
          obtain ⟨pa0, pa1⟩ := box2 BA U
          obtain ⟨pb0, pb1⟩ := box2 BB U
          obtain ⟨pc0, pc1⟩ := box2 BC U
          go_wp2_with fail
          go_meet
          exact ⟨rfl, U⟩
  case rest =>
    obtain ⟨rfl, U5⟩ := hcut
    have a5 := aa.non U5
    have hu5 := hu0.trans U5 (fun _ h => h.elim)
    clear U BA BB BC aa hu0 U5 Haa
    go_wp2_with fail
    refine (new_hr _).mono ?_
    rintro e w2 ⟨bh, F0, rfl, h2, u2, hF2⟩
    have o2 : Own wc w2 bh F0 [] 0 := ⟨h2, u2, hF2⟩
    have a2 := a5.fresh u2 hF2
    clear a5 h2 u2 hF2
    go_wp2_with fail
    go_loopg [10] l.length (fun k s10 wr => ∃ (j : Nat) (F : Nat → Prop), j ≤ l.length ∧ l.length - j ≤ k ∧ s10 = .int .i64 j ∧ Own wc wr bh F (popRun (l.take j)).1 (popRun (l.take j)).2 ∧ Arr wr F av 4 (act4C l))
    case atStart => exact ⟨0, F0, Nat.zero_le _, Nat.sub_le _ _, rfl, o2, a2⟩
    case round =>
      clear o2 a2
      obtain ⟨j, F, hj, hjk, rfl, o, a⟩ := hrel
      by_cases hlt : j < l.length
      · obtain ⟨x, hx⟩ : ∃ x, l[j]? = some x := ⟨l[j], List.getElem?_eq_getElem hlt⟩
        obtain ⟨g, off, hv, c0, c1, c2, c3⟩ := a.act4 hx
        subst hv
        obtain ⟨q1, q2⟩ := popRun_len (l.take j)
        have q3 : (l.take j).length ≤ j := by simp; omega
        have hxk := HK.out x (List.mem_iff_getElem?.2 ⟨j, hx⟩)
        have hnext : popRun (l.take (j + 1)) = popStep (popRun (l.take j)) x := by rw [take_snoc hx, popRun_snoc]
        have HX := hid hx
        have HN := hid hnext
        clear hx hnext
        have hS := set_own (o.non ((Upd.refl Non wr).drew)) (by omega) (by omega) (by omega) hxk x.one x.two
        go_wp2_with fail
        refine wp_region_still_tail 11 (by kernel_rfl) (by kernel_rfl) ?_
        simp only [List.take_succ_cons, List.take_zero, List.drop_succ_cons, List.drop_zero]
        change wpStill _ _ (World.drew _) (fun a' => wpList _ _ _ _ a' (World.drew _)) _ _
        repeat still_step
        refine wpStill_nil ?_
        go_wp2_with fail
        refine hS.mono ?_
        rintro e w3 ⟨rfl, F', o3, u3, q3'⟩
        have a3 := a.step u3.drew0 q3'
        clear hS u3 q3' a o c0 c1 c2 c3
        obtain ⟨g4, off4, hv4, c0, c1, c2, c3⟩ := a3.act4 HX.out
        have HG := hid hv4
        clear hv4
        obtain ⟨rfl, rfl⟩ : g = g4 ∧ off = off4 := by have := HG.out; simp at this; exact this
        by_cases hk1 : x.kind = 1
        · have hd : (x.kind == 1) = true := by simpa using hk1
          obtain ⟨b, hb⟩ : ∃ b : Bool, (findM (setM (popRun (l.take j)).1 x.key x.one x.two ((popRun (l.take j)).2 + 1)) x.key).isSome = b := ⟨_, rfl⟩
          have hR := rem_own o3 (by have := setM_len (popRun (l.take j)).1 x.key x.one x.two ((popRun (l.take j)).2 + 1); omega) hxk b hb
          have HK1 := hid hk1
          have HB := hid hb
          clear hk1 hb
          go_wp2_with fail
          refine hR.mono ?_
          rintro e w4 ⟨rfl, F4, o4, u4, q4⟩
          have a4 := a3.step u4 q4
          clear hR u4 q4 a3 o3 c0 c1 c2 c3
          go_wp2_with fail
          go_roundg (l.length - (j + 1))
          case measure => omega
          case rel => exact ⟨j + 1, F4, by omega, Nat.le_refl _, by go_num, by rw [HN.out, popStep, if_pos HK1.out]; exact o4, a4⟩
        · have hd : (x.kind == 1) = false := by simpa using hk1
          have HK1 := hid hk1
          clear hk1
          go_wp2_with fail
          go_roundg (l.length - (j + 1))
          case measure => omega
          case rel => exact ⟨j + 1, F', by omega, Nat.le_refl _, by go_num, by rw [HN.out, popStep, if_neg HK1.out]; exact o3, a3⟩
      · obtain rfl : j = l.length := by omega
        obtain ⟨hl1, hl2⟩ := popRun_len l
        rw [List.take_length] at o
        generalize (popRun l).1 = m at o hl1
        generalize (popRun l).2 = c at o hl2
        clear a hl2
        have hO := fun W (o : Own wc W bh F m c) => order_arr o.hr (by omega)
        have hnt := o.hr.nt
        have hso := o.hr.sorted
        have hok := hid o.hr.ok
        go_wp2_with fail
        refine (hO _ o).mono ?_
        rintro e w3 ⟨av1, cap1, rfl, a3, u3⟩
        have o3 := o.non u3
        clear o u3 hO
        have s0 : PopS wc ((w3.alloc (.map #[] 0)).alloc (.cells #[.int .i64 0, .int .i64 0] 24)) bh w3.heap.size (w3.heap.size + 1) F m c (keysM m) [] av1 0 0 :=
          ⟨(o3.non ((Upd.refl Non w3).alloc _)).non ((Upd.refl Non _).alloc _), (a3.wider (((Upd.refl Non w3).alloc _).alloc _) (fun k hk => hk.imp id (fun h => by omega))), (MapA.made SK w3).alloc _, fun h => by have := o3.hr.lt _ h; omega, o3.upd.size, Blk.new' _ _ _ (by simp), fun h => by have := o3.hr.lt _ h; omega, by have := o3.upd.size; omega, by omega⟩
        clear o3 a3
        go_wp2_with fail
        generalize w3.heap.size + 1 = bl at s0 ⊢
        generalize w3.heap.size = bs at s0 ⊢
        have HNT := hid hnt
        have HSO := hid hso
        clear hnt hso
        go_loopg [14] m.length (fun k s14 wr => ∃ (i : Nat) (F : Nat → Prop) (a b : Int), i ≤ m.length ∧ m.length - i ≤ k ∧ s14 = .int .i64 i ∧ PopS wc wr bh bs bl F (m.drop i) c (keysM m) ((keysM m).take i) av1 a b ∧ Hid (∀ y, m[i]? = some y → 0 < i → ltR y.one y.two a b = false))
        case atStart => exact ⟨0, F, 0, 0, Nat.zero_le _, Nat.sub_le _ _, rfl, s0, hid (fun _ _ h => by omega)⟩
        case round =>
          clear s0
          obtain ⟨i, F, a, b, hi, hik, rfl, s, HO⟩ := hrel
          by_cases hlt : i < m.length
          · obtain ⟨y, hy⟩ : ∃ y, m[i]? = some y := ⟨m[i], List.getElem?_eq_getElem hlt⟩
            have hyk : y.key.size ≤ maxLen := hok.out y (List.mem_iff_getElem?.2 ⟨i, hy⟩)
            have hky : (keysM m)[i]? = some y.key := by simp [keysM, hy]
            have hdl : (m.drop i).length ≤ 1000 := by simp; omega
            have hR := rank_hr s.own.hr (by omega) hyk _ (show rankV (findM (m.drop i) y.key) = .tuple #[.agg #[.int .i64 y.one, .int .i64 y.two], .bool true] by rw [drop_cons hy]; exact head_rank _ _)
            have hP := fun W (s : PopS wc W bh bs bl F (m.drop i) c (keysM m) ((keysM m).take i) av1 a b) => pop_own s.own hdl (.tuple #[.string y.key, .bool true]) (by rw [drop_cons hy]; rfl)
            have hfr := fresh_key HNT.out hy
            have hlm : (keysM m).length = m.length := by simp [keysM]
            have hsn : ((keysM m).take i).length ≤ 1000 := by simp; omega
            obtain ⟨g, off, hv, c0⟩ := s.arr.str hky
            subst hv
            have HY := hid hy
            have HKY := hid hky
            have HLM := hid hlm
            clear hy hky hlm
            have him : (i : Int) < (m.length : Int) := by omega
            go_wp2_with fail
            refine hR.mono ?_
            rintro e w4 ⟨rfl, u4⟩
            have s4 := s.non u4
            have s5 := s4.non ((Upd.refl Non w4).alloc (.cells #[.int .i64 y.one, .int .i64 y.two] 24))
            have RB4 : Blk (w4.alloc (.cells #[.int .i64 y.one, .int .i64 y.two] 24)) w4.heap.size #[.int .i64 y.one, .int .i64 y.two] 24 := Blk.new w4 _ _
            have hF4 := s4.own.hr.lt
            have hbs4 := s4.mp.lt
            clear hR u4 c0 s s4
            go_wp2_with fail
            refine (hP _ s5).mono ?_
            rintro e w5 ⟨rfl, F5, o5, u5, q5⟩
            rw [List.tail_drop] at o5
            have s6 := s5.heap o5 u5 q5
            have RB5 := RB4.upd u5 (fun h => by have := hF4 _ h; omega)
            clear hP s5 o5 u5 q5 RB4 hF4
            by_cases h0 : i = 0
            · have hi0 : ¬ (0 : Int) < (i : Int) := by omega
              have hi0' : decide ((0 : Int) < (i : Int)) = false := by simpa using hi0
              obtain ⟨g5, off5, hv5, c0⟩ := s6.arr.str HKY.out
              have HG := hid hv5
              clear hv5
              obtain ⟨rfl, rfl⟩ : g = g5 ∧ off = off5 := by have := HG.out; simp at this; exact this
              have hrun := seen_look s6.mp hyk false hfr
              obtain ⟨w7, hrun7, s7, u7⟩ := pop_store s6 hsn hyk hfr
              have RB7 := RB5.upd u7 (fun h => by omega)
              obtain ⟨r0, r1⟩ := box2 RB7 (Upd.refl Non w7)
              obtain ⟨l0, l1⟩ := box2 s7.lb (Upd.refl Non w7)
              have lf0 := s7.lb.frozen 0
              have lf1 := s7.lb.frozen 1
              have s8 := s7.last y.one y.two
              clear s6 s7 u7 RB5 RB7
              have H0 := hid h0
              clear h0
              go_wp2_with fail
              go_roundg (m.length - (i + 1))
              case measure => omega
              case rel => exact ⟨i + 1, F5, y.one, y.two, by omega, Nat.le_refl _, by go_num, by rw [take_snoc HKY.out]; exact s8, hid (fun z hz _ => rank_rise HSO.out HY.out hz)⟩
            · have hi0 : (0 : Int) < (i : Int) := by omega
              have hi0' : decide ((0 : Int) < (i : Int)) = true := by simpa using hi0
              have HL := hid (HO.out y HY.out (by omega))
              obtain ⟨g5, off5, hv5, c0⟩ := s6.arr.str HKY.out
              have HG := hid hv5
              clear hv5
              obtain ⟨rfl, rfl⟩ : g = g5 ∧ off = off5 := by have := HG.out; simp at this; exact this
              have hrun := seen_look s6.mp hyk false hfr
              obtain ⟨r0, r1⟩ := box2 RB5 (Upd.refl Non w5)
              obtain ⟨l0, l1⟩ := box2 s6.lb (Upd.refl Non w5)
              go_wp2_with fail
              refine (less_is false _ _ _ _ _ HL).mono ?_
              rintro e w6 ⟨rfl, u6⟩
              have s6' := s6.non u6
              have RB6 := RB5.upd u6 id
              clear s6 RB5 u6 hrun c0 r0 r1 l0 l1
              obtain ⟨w7, hrun7, s7, u7⟩ := pop_store s6' hsn hyk hfr
              have RB7 := RB6.upd u7 (fun h => by omega)
              obtain ⟨r0, r1⟩ := box2 RB7 (Upd.refl Non w7)
              obtain ⟨l0, l1⟩ := box2 s7.lb (Upd.refl Non w7)
              have lf0 := s7.lb.frozen 0
              have lf1 := s7.lb.frozen 1
              have s8 := s7.last y.one y.two
              clear s6' s7 u7 RB6 RB7
              go_wp2_with fail
              go_roundg (m.length - (i + 1))
              case measure => omega
              case rel => exact ⟨i + 1, F5, y.one, y.two, by omega, Nat.le_refl _, by go_num, by rw [take_snoc HKY.out]; exact s8, hid (fun z hz _ => rank_rise HSO.out HY.out hz)⟩
          · obtain rfl : i = m.length := by omega
            have o := s.own
            rw [List.drop_length] at o
            have hP := fun W (o : Own wc W bh F [] c) => pop_own o (by simp) (.tuple #[.string ⟨#[]⟩, .bool false]) rfl
            clear s
            go_wp2_with fail
            refine (hP _ o).mono ?_
            rintro e w4 ⟨rfl, F4, o4, u4, q4⟩
            have hL := len_hr o4.hr
            go_wp2_with fail
            refine hL.mono ?_
            rintro e w5 ⟨rfl, rfl⟩
            go_wp2_with fail
            go_ret
            exact ⟨rfl, hu5.trans o4.upd (fun _ h => h.elim)⟩

set_option maxRecDepth 100000 in
set_option maxHeartbeats 800000 in
theorem pops_all {w : World} {av : Option Addr} {cap : Nat} {l : List Act4} {a1 a2 b1 b2 c1 c2 : Int} (hks : ∀ a ∈ l, a.key.size ≤ maxLen) (hA : Arr w Non av 4 (act4C l)) :
    Calls Try.prog 3 #[.slice av l.length cap, .agg #[.int .i64 a1, .int .i64 a2], .agg #[.int .i64 b1, .int .i64 b2], .agg #[.int .i64 c1, .int .i64 c2]] w fun e w' => e = .returned (.bool true) ∧ Upd Non w w' := by
  by_cases hl : l.length ≤ 200
  · exact pops_is hl hA hks
  · have hl' : (200 : Int) < (l.length : Int) := by omega
    clear hA hks
    go_enter Try.func3, Try.ntmps3
    go_wp2_with fail
    refine (awake4_is _).mono ?_
    rintro e w1 ⟨rfl, u1⟩
    go_wp2_with fail
    go_ret
    exact ⟨rfl, ((((Upd.refl Non w).alloc _).alloc _).alloc _).trans u1 (fun _ h => h.elim)⟩

end Go.Proofs.Ytalnjkeajlbbpaa
