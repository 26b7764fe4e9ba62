/- Walk: the statement HeapRemoves. -/
import Derived.Test.YtalnjkeajlbbpaaArr
import Derived.Test.YtalnjkeajlbbpaaAwake4
namespace Go.Proofs.Ytalnjkeajlbbpaa
open Go.RowKit

set_option maxRecDepth 100000 in
set_option maxHeartbeats 3200000 in
theorem removes_is {w : World} {av : Option Addr} {cap : Nat} {l : List Act4} {key : ByteArray} (hl : l.length ≤ 200) (hA : Arr w Non av 4 (act4C l)) (hk : key.size ≤ maxLen) (hks : ∀ a ∈ l, a.key.size ≤ maxLen) :
    Calls Try.prog 5 #[.slice av l.length cap, .string key] w fun e w' => e = .returned (.bool true) ∧ Upd Non w w' := by
  have HK := hid hks
  clear hks
  go_enter Try.func5, Try.ntmps5
  go_wp2_with fail
  refine (awake4_is _).mono ?_
  rintro e w1 ⟨rfl, u1⟩
  go_wp2_with fail
  refine (new_hr _).mono ?_
  rintro e w2 ⟨bh, F0, rfl, h2, u2, hF2⟩
  have o2 : Own w1 w2 bh F0 [] 0 := ⟨h2, u2, hF2⟩
  have a2 := (hA.non u1).fresh u2 hF2
  clear hA h2 u2 hF2
  go_wp2_with fail
  go_loopg [6] l.length (fun k s6 wr => ∃ (j : Nat) (F : Nat → Prop), j ≤ l.length ∧ l.length - j ≤ k ∧ s6 = .int .i64 j ∧ Own w1 wr bh F (setRun (l.take j)).1 (setRun (l.take j)).2 ∧ Arr wr F av 4 (act4C l))
  case atStart => exact ⟨0, F0, Nat.zero_le _, Nat.sub_le _ _, rfl, o2, a2⟩
  case round =>
    clear o2 a2
    obtain ⟨j, F, hj, hjk, rfl, o, a⟩ := hrel
    by_cases hlt : j < l.length
    · obtain ⟨x, hx⟩ : ∃ x, l[j]? = some x := ⟨l[j], List.getElem?_eq_getElem hlt⟩
      obtain ⟨g, off, hv, c0, c1, c2, c3⟩ := a.act4 hx
      subst hv
      have hS := set_act o hl hx (HK.out x (List.mem_iff_getElem?.2 ⟨j, hx⟩))
      have HX := hid hx
      clear hx
      go_wp2_with fail
      refine wp_region_still_tail 11 (by kernel_rfl) (by kernel_rfl) ?_
      simp only [List.take_succ_cons, List.take_zero, List.drop_succ_cons, List.drop_zero]
      change wpStill _ _ (World.drew _) (fun a' => wpList _ _ _ _ a' (World.drew _)) _ _
      repeat still_step
      refine wpStill_nil ?_
      go_wp2_with fail
      refine hS.mono ?_
      rintro e w3 ⟨rfl, F', o3, u3, q3⟩
      have a3 := a.step u3 q3
      clear hS u3 q3 a o c0 c1 c2 c3
      go_wp2_with fail
      go_roundg (l.length - (j + 1))
      case measure => omega
      case rel => exact ⟨j + 1, F', by omega, Nat.le_refl _, by go_num, o3, a3⟩
    · obtain rfl : j = l.length := by omega
      obtain ⟨hl1, hl2⟩ := setRun_len l
      rw [List.take_length] at o
      generalize (setRun l).1 = m at o hl1
      generalize (setRun l).2 = c at o hl2
      clear a hl2
      have hO := fun W (o : Own w1 W bh F m c) => order_arr o.hr (by omega)
      go_wp2_with fail
      refine (hO _ o).mono ?_
      rintro e w3 ⟨av1, cap1, rfl, a3, u3⟩
      have o3 := o.non u3
      clear o u3
      obtain ⟨b, hb⟩ : ∃ b : Bool, (findM m key).isSome = b := ⟨_, rfl⟩
      have hR := fun W (o : Own w1 W bh F m c) => rank_is o.hr (by omega) hk b hb
      have hM := fun W (o : Own w1 W bh F m c) => rem_hr o.hr (by omega) hk b hb
      clear hb
      go_wp2_with fail
      refine (hR _ o3).mono ?_
      rintro e w4 ⟨r1, r2, rfl, u4⟩
      have u4' := u4.alloc (.cells #[.int .i64 r1, .int .i64 r2] 24)
      have o4 := o3.non u4'
      have a4 := a3.non u4'
      clear o3 a3 u4 u4' hR
      go_wp2_with fail
      refine (hM _ o4).mono ?_
      rintro e w5 ⟨rfl, F5, h5, u5, q5⟩
      have o5 := o4.step h5 u5 q5
      have a5 := a4.step u5 q5
      clear o4 a4 u5 q5 h5 hM
      go_wp2_with fail
      refine (rem_hr o5.hr (by have := remM_len m key; omega) hk false (by rw [(remM_again m key).1]; rfl)).mono ?_
      rintro e w6 ⟨rfl, F6, h6, u6, q6⟩
      have o6 := o5.step h6 u6 q6
      rw [(remM_again m key).2] at o6
      have a6 := a5.step u6 q6
      clear o5 a5 u6 q6 h6
      go_wp2_with fail
      refine (order_arr o6.hr (by have := remM_len m key; omega)).mono ?_
      rintro e w7 ⟨av2, cap2, rfl, b7, u7⟩
      have o7 := o6.non u7
      have a7 := a6.non u7
      clear o6 a6 u7
      have hmk : m.length = (keysM m).length := by simp [keysM]
      have hnk : (remM m key).length = ((keysM m).filter (fun s => decide (s ≠ key))).length := by rw [← keysM_rem]; simp [keysM]
      rw [keysM_rem] at b7
      have hL2 := fun W (u : Upd Non w7 W) => len_hr (o7.non u).hr
      rw [hnk] at hL2
      rw [hmk, hnk]
      have hu7 := o7.upd
      rw [hmk] at hl1
      clear o7 hmk hnk
      generalize keysM m = ks at a7 b7 hl1 hL2 ⊢
      obtain ⟨ns, hns⟩ : ∃ ns, ks.filter (fun s => decide (s ≠ key)) = ns := ⟨_, rfl⟩
      rw [hns] at b7 hL2 ⊢
      have HN := hid hns
      have hnl : ns.length ≤ ks.length := by rw [← hns]; exact List.length_filter_le _ _
      clear hns
      go_wp2_with fail
      go_loopg [11, 12] ks.length (fun k s11 s12 wr => ∃ i : Nat, i ≤ ks.length ∧ ks.length - i ≤ k ∧ s12 = .int .i64 i ∧ s11 = .int .i64 (cntNe ks key i : Nat) ∧ Hid (∃ q, wr = w7.drewN q))
      case atStart => exact ⟨0, Nat.zero_le _, Nat.sub_le _ _, rfl, rfl, 0, rfl⟩
      case round =>
        obtain ⟨i, hi, hik, rfl, rfl, hw⟩ := hrel
        have a := a7.non (quiet_upd hw)
        have b := b7.non (quiet_upd hw)
        by_cases hlt : i < ks.length
        · obtain ⟨s, hs⟩ : ∃ s, ks[i]? = some s := ⟨ks[i], List.getElem?_eq_getElem hlt⟩
          obtain ⟨g1, off1, hv1, c1⟩ := a.str hs
          subst hv1
          by_cases he : s = key
          · subst he
            have hcnt := cntNe_eq hs
            have HC := hid hcnt
            clear hcnt
            have HS := hid hs
            have hcl := cntNe_le ks s i
            clear hs
            go_wp2_with fail
            go_roundg (ks.length - (i + 1))
            case measure => omega
            case rel => exact ⟨i + 1, by omega, Nat.le_refl _, by go_num, by rw [HC.out], hw⟩
          · have hcnt := cntNe_ne hs he
            have hat := cntNe_at hs he
            rw [HN.out] at hat
            obtain ⟨g2, off2, hv2, c2⟩ := b.str hat
            subst hv2
            have hcl := cntNe_le ks key i
            have hcn : cntNe ks key i < ns.length := (List.getElem?_eq_some_iff.1 hat).1
            have hcn' : ((cntNe ks key i : Nat) : Int) < (ns.length : Int) := by omega
            have hge : decide ((ns.length : Int) ≤ ((cntNe ks key i : Nat) : Int)) = false := by simp; omega
            have hi1 : (i : Int) < (ks.length : Int) := by omega
            have HC := hid hcnt
            have HS := hid hs
            have hsk := str_ne he
            clear hs hat hcnt
            go_wp2_with fail
            go_quiet (fail)
            go_wp2_with fail
            go_roundg (ks.length - (i + 1))
            case measure => omega
            case rel => exact ⟨i + 1, by omega, Nat.le_refl _, by go_num, by rw [HC.out]; go_num, by obtain ⟨q, hq⟩ := hw.out; exact ⟨q + nq, by rw [hq, World.drewN_drewN]⟩⟩
        · obtain rfl : i = ks.length := by omega
          have hcnt := cntNe_all ks key
          rw [HN.out] at hcnt
          have hLw : Calls Try.prog 20 #[.pointer (some ⟨bh, 0, none⟩)] wr fun e w' => e = .returned (.int .i64 ns.length) ∧ wr = w' := hL2 wr (quiet_upd hw)
          rw [hcnt]
          clear hcnt
          go_wp2_with fail
          refine hLw.mono ?_
          rintro e w8 ⟨rfl, rfl⟩
          go_wp2_with fail
          go_ret
          exact ⟨rfl, (u1.trans hu7 (fun _ h => h.elim)).trans (quiet_upd hw) (fun _ h => h.elim)⟩

set_option maxHeartbeats 800000 in
theorem removes_all {w : World} {av : Option Addr} {cap : Nat} {l : List Act4} {key : ByteArray} (hk : key.size ≤ maxLen) (hks : ∀ a ∈ l, a.key.size ≤ maxLen) (hA : Arr w Non av 4 (act4C l)) :
    Calls Try.prog 5 #[.slice av l.length cap, .string key] w fun e w' => e = .returned (.bool true) ∧ Upd Non w w' := by
  by_cases hl : l.length ≤ 200
  · exact removes_is hl hA hk hks
  · have hl' : (200 : Int) < (l.length : Int) := by omega
    clear hA hks
    go_enter Try.func5, Try.ntmps5
    go_wp2_with fail
    refine (awake4_is _).mono ?_
    rintro e w1 ⟨rfl, u1⟩
    go_wp2_with fail
    go_ret
    exact ⟨rfl, u1⟩

end Go.Proofs.Ytalnjkeajlbbpaa
