/- Walk: the statement HeapTies. -/
import Derived.Test.YtalnjkeajlbbpaaTie
import Derived.Test.YtalnjkeajlbbpaaAwake4
namespace Go.Proofs.Ytalnjkeajlbbpaa
open Go.RowKit

theorem keep_new {ks : List ByteArray} {want : List ByteArray} {again x : ByteArray} (h : ks.filter (fun s => decide (s ≠ again)) = want) (hn : x ∉ want) (hx : x ≠ again) :
    (ks.filter (fun s => decide (s ≠ x)) ++ [x]).filter (fun s => decide (s ≠ again)) = want ++ [x] := by
  have hno : x ∉ ks := fun hm => hn (by rw [← h]; exact List.mem_filter.2 ⟨hm, by simpa using hx⟩)
  have : ks.filter (fun s => decide (s ≠ x)) = ks := List.filter_eq_self.2 (fun s hs => by simp; intro e; exact hno (e ▸ hs))
  rw [this, List.filter_append, h]
  simp [hx]
theorem keep_again {ks : List ByteArray} {want : List ByteArray} {again : ByteArray} (h : ks.filter (fun s => decide (s ≠ again)) = want) :
    (ks.filter (fun s => decide (s ≠ again)) ++ [again]).filter (fun s => decide (s ≠ again)) = want := by
  rw [List.filter_append, List.filter_filter]
  simpa using h

set_option maxRecDepth 100000 in
set_option maxHeartbeats 3200000 in
theorem ties_is {w : World} {av : Option Addr} {cap : Nat} {l : List ByteArray} {again : ByteArray} {r1 r2 : Int} (hl : l.length ≤ 100) (hA : Arr w Non av 1 (strC l)) (hk : again.size ≤ maxLen) (hks : ∀ a ∈ l, a.size ≤ maxLen) :
    Calls Try.prog 4 #[.slice av l.length cap, .string again, .agg #[.int .i64 r1, .int .i64 r2]] w fun e w' => e = .returned (.bool true) ∧ Upd Non w w' := by
  have HK := hid hks
  clear hks
  obtain ⟨i0, hi, hz0, hz1, hz2⟩ := info_parts infoS
  have a0 := hA.non ((Upd.refl Non w).alloc (.cells #[.int .i64 r1, .int .i64 r2] 24))
  have B0 : Blk (w.alloc (.cells #[.int .i64 r1, .int .i64 r2] 24)) w.heap.size #[.int .i64 r1, .int .i64 r2] 24 := Blk.new w _ _
  clear hA
  have hmm := @run_makeMap Try.prog
  go_enter Try.func4, Try.ntmps4
  go_wp2_with fail
  refine (awake4_is _).mono ?_
  rintro e w1 ⟨rfl, u1⟩
  have a1 := a0.non u1
  have B1 := B0.upd u1 id
  clear a0 B0
  go_wp2_with fail
  refine (new_hr _).mono ?_
  rintro e w2 ⟨bh, F0, rfl, h2, u2, hF2⟩
  have t2 : TieS w1 (w2.alloc (.map #[] 0)) bh w2.heap.size r1 r2 F0 [] 0 (.slice none 0 0) [] [] :=
    ⟨Own.non ⟨h2, u2, hF2⟩ ((Upd.refl Non w2).alloc _), by simp, by simp, ⟨rfl, .inl ⟨rfl, rfl⟩⟩, by simp [Value.ownBlock], MapA.made SK w2, fun h => by have := h2.lt _ h; omega, u2.size⟩
  clear h2 hF2
  go_wp2_with fail
  clear hmm
  generalize w2.heap.size = bs at t2 ⊢
  go_loopg [8, 10] l.length (fun k s8 s10 wr => ∃ (j : Nat) (F : Nat → Prop) (m : List (Itm ByteArray)) (c : Int) (want : List ByteArray), j ≤ l.length ∧ l.length - j ≤ k ∧ s10 = .int .i64 j ∧ TieS w1 wr bh bs r1 r2 F m c s8 want want ∧ c ≤ 2 * j ∧ want.length ≤ j ∧ Hid ((keysM m).filter (fun s => decide (s ≠ again)) = want))
  case atStart => exact ⟨0, F0, [], 0, [], Nat.zero_le _, Nat.sub_le _ _, rfl, t2, by simp, by simp, hid rfl⟩
  case round =>
    clear t2
    obtain ⟨j, F, m, c, want, hj, hjk, rfl, t, hc, hwl, HW⟩ := hrel
    have a := a1.non t.own.upd
    have B := B1.upd t.own.upd id
    by_cases hlt : j < l.length
    · obtain ⟨x, hx⟩ : ∃ x, l[j]? = some x := ⟨l[j], List.getElem?_eq_getElem hlt⟩
      obtain ⟨g, off, hv, c0⟩ := a.str hx
      subst hv
      have hxk := HK.out x (List.mem_iff_getElem?.2 ⟨j, hx⟩)
      obtain ⟨b1, hb1⟩ : ∃ b, isIn x want = b := ⟨_, rfl⟩
      have hrun := seen_look t.mp hxk b1 hb1
      have HX := hid hx
      have HB1 := hid hb1
      clear hx hb1
      obtain ⟨b, hb⟩ : ∃ b, (!b1 && decide (x ≠ again)) = b := ⟨_, rfl⟩
      have HB := hid hb
      clear hb
      have hjl : (j : Int) < (l.length : Int) := by omega
      go_upto_region 13 with (fail)
      go_cut [42] from 22 to 67 (fun s42 wc => s42 = .bool b ∧ wr = wc)
      case first =>
        cases b1 with
        | true =>
          obtain rfl : false = b := HB.out
          go_wp2_with fail
          go_meet
          exact ⟨rfl, rfl⟩
        | false =>
          by_cases he : x = again
          · subst he
            obtain rfl : false = b := by rw [← HB.out]; simp
            go_wp2_with fail
            go_meet
            exact ⟨rfl, rfl⟩
          · obtain rfl : true = b := by rw [← HB.out]; simp [he]
            have hne := str_ne he
            go_wp2_with fail
            go_meet
            exact ⟨rfl, rfl⟩
      case rest =>
        obtain ⟨rfl, rfl⟩ := hcut
        clear hrun
        go_upto_if 42 with (fail)
        go_cut [8] from 22 to 67 (fun s8 wc => ∃ (F : Nat → Prop) (m : List (Itm ByteArray)) (c : Int) (want : List ByteArray), TieS w1 wc bh bs r1 r2 F m c s8 want want ∧ c ≤ 2 * j + 1 ∧ want.length ≤ j + 1 ∧ Hid ((keysM m).filter (fun s => decide (s ≠ again)) = want))
        case first =>
          cases b with
          | false =>
            go_wp2_with fail
            go_meet
            exact ⟨F, m, c, want, t, by omega, by omega, HW⟩
          | true =>
            have hb1 : b1 = false ∧ x ≠ again := by have := HB.out; revert this; cases b1 <;> simp
            obtain ⟨rfl, hne⟩ := hb1
            have hnew := HB1.out
            have HS := tie_set t.drew (by omega) hxk
            have d0 : wr.cell? ⟨w.heap.size, 0, none⟩ = some (.int .i64 r1) := B.cell 0 rfl
            have d1 : wr.cell? ⟨w.heap.size, 1, none⟩ = some (.int .i64 r2) := B.cell 1 rfl
            go_wp2_with fail
            refine wp_region_still_tail 6 (by kernel_rfl) (by kernel_rfl) ?_
            simp only [List.take_succ_cons, List.take_zero, List.drop_succ_cons, List.drop_zero]
            change wpStill _ _ (World.drew _) (fun a' => wpList _ _ _ _ a' (World.drew _)) _ _
            repeat still_step
            refine wpStill_nil ?_
            go_wp2_with fail
            refine HS.mono ?_
            rintro e w4 ⟨rfl, F4, m4, t4, hk4⟩
            have HK4 := hid hk4
            clear HS hk4 d0 d1 c0 a B t
            obtain ⟨g4, off4, hv4, c0⟩ := (a1.non t4.own.upd).str HX.out
            have HG := hid hv4
            clear hv4
            obtain ⟨rfl, rfl⟩ : g = g4 ∧ off = off4 := by have := HG.out; simp at this; exact this
            have HA := fun (g : Nat) (cap' : Nat) (w5 : World) hown hgrow hat => tie_app (t4.non ((Upd.refl Non w4).alloc (.cells #[.string x] 9))) (w' := w5) (g := g) (cap := cap') (x := x) hown hgrow hat
            go_wp2_with (at_builtin; refine wpList_append_some rfl (.tmp 50) (.tmp 55) 33 rfl w1.heap.size 9 i0 (.string ByteArray.empty) 1 16 Try.underlying33 hi hz0 hz1 hz2 rfl (by decide) _ want.length (want.map Value.string) rfl (t4.row.alloc _) ⟨w4.heap.size, 0, none⟩ 1 1 [.string x] rfl rfl (news_blk (vs := #[.string x]) (Blk.new w4 _ 9)) (by simp [Value.oneCell']) (by unfold maxLen; omega) (by omega) (by have := t4.own.upd.size; simp; omega) (by decide) ?_; intro gg cap' w5 hown hgrow hat; have t5 := HA gg cap' w5 hown hgrow (hat.imp id (fun e => Nat.le_of_eq (by rw [e]))); clear hown hgrow hat; obtain ⟨w6, hrun6, t6⟩ := tie_store t5 (by omega) hxk hnew; obtain ⟨g5, off5, hv5, c5⟩ := (a1.non t5.own.upd).str HX.out; have HG5 := hid hv5; clear hv5; obtain ⟨rfl, rfl⟩ : g = g5 ∧ off = off5 := by have := HG5.out; simp at this; exact this)
            go_meet
            exact ⟨F4, m4, c + 1, want ++ [x], t6, by omega, by simp; omega, hid (by rw [HK4.out]; exact keep_new HW.out (isIn_no.1 hnew) hne)⟩
        case rest =>
          clear t a B c0 hc hwl HW HB1 HB
          obtain ⟨F, m, c, want, t, hc, hwl, HW⟩ := hcut
          by_cases h0 : j = 0
          · subst h0
            have B := B1.upd t.own.upd id
            have HS := tie_set t (by omega) hk
            have d0 : wc.cell? ⟨w.heap.size, 0, none⟩ = some (.int .i64 r1) := B.cell 0 rfl
            have d1 : wc.cell? ⟨w.heap.size, 1, none⟩ = some (.int .i64 r2) := B.cell 1 rfl
            go_wp2_with fail
            refine HS.mono ?_
            rintro e w4 ⟨rfl, F4, m4, t4, hk4⟩
            have HK4 := hid hk4
            clear HS hk4 d0 d1 B t
            go_wp2_with fail
            go_roundg (l.length - 1)
            case measure => omega
            case rel => exact ⟨1, F4, m4, c + 1, want, by omega, Nat.le_refl _, by go_num, t4, by omega, by omega, hid (by rw [HK4.out]; exact keep_again HW.out)⟩
          · have hj0 : decide ((j : Int) = 0) = false := by simp; omega
            go_wp2_with fail
            go_roundg (l.length - (j + 1))
            case measure => omega
            case rel => exact ⟨j + 1, F, m, c, want, by omega, Nat.le_refl _, by go_num, t, by omega, by omega, HW⟩
    · obtain rfl : j = l.length := by omega
      clear a
      have HS := tie_set t (by omega) hk
      have d0 : wr.cell? ⟨w.heap.size, 0, none⟩ = some (.int .i64 r1) := B.cell 0 rfl
      have d1 : wr.cell? ⟨w.heap.size, 1, none⟩ = some (.int .i64 r2) := B.cell 1 rfl
      go_wp2_with fail
      refine HS.mono ?_
      rintro e w4 ⟨rfl, F4, m4, t4, hk4⟩
      have HK4 := hid hk4
      clear HS hk4 d0 d1 B t
      have HA := fun (g : Nat) (cap' : Nat) (w5 : World) hown hgrow hat => tie_app (t4.non ((Upd.refl Non w4).alloc (.cells #[.string again] 9))) (w' := w5) (g := g) (cap := cap') (x := again) hown hgrow hat
      go_wp2_with (at_builtin; refine wpList_append_some rfl (.tmp 72) (.tmp 74) 33 rfl w1.heap.size 9 i0 (.string ByteArray.empty) 1 16 Try.underlying33 hi hz0 hz1 hz2 rfl (by decide) _ want.length (want.map Value.string) rfl (t4.row.alloc _) ⟨w4.heap.size, 0, none⟩ 1 1 [.string again] rfl rfl (news_blk (vs := #[.string again]) (Blk.new w4 _ 9)) (by simp [Value.oneCell']) (by unfold maxLen; omega) (by omega) (by have := t4.own.upd.size; simp; omega) (by decide) ?_; intro gg cap' w5 hown hgrow hat; have t5 := HA gg cap' w5 hown hgrow (hat.imp id (fun e => Nat.le_of_eq (by rw [e]))); clear hown hgrow hat)
      have hm4 : m4.length = want.length + 1 := by
        have h1 : m4.length = (keysM m4).length := by simp [keysM]
        rw [h1, HK4.out, HW.out]
        simp
      have hO := fun W (u : Upd Non w5 W) => order_arr (t5.own.non u).hr (by omega)
      rw [hm4] at hO
      have HM4 := hid hm4
      clear hm4
      refine (hO _ (Upd.refl _ _)).mono ?_
      rintro e w6 ⟨av6, cap6, rfl, a6, u6⟩
      rw [HK4.out, HW.out] at a6
      obtain ⟨b6⟩ : Nonempty (Arr w6 Non (some ⟨gg, 0, none⟩) 1 (strC (want ++ [again]))) := by
        obtain ⟨av8, cap8, hv8, b6⟩ := (t5.non u6).slice
        simp only [Value.slice.injEq] at hv8
        rw [← hv8.1] at b6
        exact ⟨b6⟩
      have hu6 : Upd Non w w6 := (((Upd.refl Non w).alloc _).trans u1 (fun _ h => h.elim)).trans (t5.own.upd.trans u6 (fun _ h => h.elim)) (fun _ h => h.elim)
      obtain ⟨L, hL⟩ : ∃ L, want ++ [again] = L := ⟨_, rfl⟩
      have hn : want.length + 1 = L.length := by rw [← hL]; simp
      rw [hL] at a6 b6
      rw [hn]
      have hLb : L.length ≤ 1000 := by omega
      clear hO t5 HA t4 hL hn HM4 HK4 HW hwl hc u6 a1 B1 u1 u2 hi hz0 hz1 hz2
      go_wp2_with fail
      go_loopg [12] L.length (fun k s12 wr => ∃ i : Nat, i ≤ L.length ∧ L.length - i ≤ k ∧ s12 = .int .i64 i ∧ Hid (∃ q, wr = w6.drewN q))
      case atStart => exact ⟨0, Nat.zero_le _, Nat.sub_le _ _, rfl, hid ⟨0, rfl⟩⟩
      case round =>
        obtain ⟨i, hi, hik, rfl, hw⟩ := hrel
        have a := a6.non (quiet_upd hw)
        have b := b6.non (quiet_upd hw)
        by_cases hlt : i < L.length
        · obtain ⟨s, hs⟩ : ∃ s, L[i]? = some s := ⟨L[i], List.getElem?_eq_getElem hlt⟩
          obtain ⟨g1, off1, hv1, c1⟩ := a.str hs
          subst hv1
          obtain ⟨g2, off2, hv2, c2⟩ := b.str hs
          simp only [Option.some.injEq, Addr.mk.injEq, and_true] at hv2
          obtain ⟨rfl, rfl⟩ := hv2
          rw [Nat.zero_add] at c2
          have hi1 : (i : Int) < (L.length : Int) := by omega
          have HS := hid hs
          clear hs
          go_wp2_with fail
          go_quiet (fail)
          go_wp2_with fail
          go_roundg (L.length - (i + 1))
          case measure => omega
          case rel => exact ⟨i + 1, by omega, Nat.le_refl _, by go_num, hid (by obtain ⟨q, hq⟩ := hw.out; exact ⟨q + nq, by rw [hq, World.drewN_drewN]⟩)⟩
        · obtain rfl : i = L.length := by omega
          go_wp2_with fail
          go_ret
          exact ⟨rfl, hu6.trans (quiet_upd hw) (fun _ h => h.elim)⟩

set_option maxHeartbeats 800000 in
theorem ties_all {w : World} {av : Option Addr} {cap : Nat} {l : List ByteArray} {again : ByteArray} {r1 r2 : Int} (hk : again.size ≤ maxLen) (hks : ∀ a ∈ l, a.size ≤ maxLen) (hA : Arr w Non av 1 (strC l)) :
    Calls Try.prog 4 #[.slice av l.length cap, .string again, .agg #[.int .i64 r1, .int .i64 r2]] w fun e w' => e = .returned (.bool true) ∧ Upd Non w w' := by
  by_cases hl : l.length ≤ 100
  · exact ties_is hl hA hk hks
  · have hl' : (100 : Int) < (l.length : Int) := by omega
    clear hA hks
    go_enter Try.func4, Try.ntmps4
    go_wp2_with fail
    refine (awake4_is _).mono ?_
    rintro e w1 ⟨rfl, u1⟩
    go_wp2_with fail
    go_ret
    exact ⟨rfl, ((Upd.refl Non w).alloc _).trans u1 (fun _ h => h.elim)⟩

end Go.Proofs.Ytalnjkeajlbbpaa
