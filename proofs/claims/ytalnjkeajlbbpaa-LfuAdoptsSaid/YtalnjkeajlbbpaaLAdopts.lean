/- Walk: the statement LfuAdopts. -/
import Derived.Test.YtalnjkeajlbbpaaLfuF
namespace Go.Proofs.Ytalnjkeajlbbpaa
open Go.RowKit

set_option maxRecDepth 100000 in
set_option maxHeartbeats 6400000 in
theorem adopts_is {w : World} {av : Option Addr} {cap : Nat} {l : List ByteArray} {key : ByteArray} {most : Int} {churn : Bool} (hl : l.length ≤ 200) (hA : Arr w Non av 1 (strC l)) (hk : key.size ≤ 200) (hm : 1 ≤ most) :
    Calls Try.prog 9 #[.int .i64 most, .bool churn, .slice av l.length cap, .string key] w fun e w' => e = .returned (.bool true) ∧ Upd Non w w' := by
  have hk63 : key.size ≤ maxLen := by unfold maxLen; omega
  have hmx : max most 0 = most := by omega
  have hk2 : (key.size : Int) ≤ 200 := by omega
  have HMX := hid hmx
  clear hmx
  go_enter Try.func9, Try.ntmps9
  go_wp2_with fail
  refine (awake6_is _).mono ?_
  rintro e w1 ⟨rfl, u1⟩
  have a1 := hA.non u1
  clear hA
  go_wp2_with fail
  refine (new_lr _ most churn).mono ?_
  rintro e w2 ⟨bc, G, rfl, h2, u2, hG⟩
  go_wp2_with fail
  refine (new_lr _ most churn).mono ?_
  rintro e w3 ⟨bd, H, rfl, h3, u3, hH⟩
  have l3 := two_new h2 u2 hG h3 u3 hH
  rw [HMX.out] at l3
  clear h2 u2 hG h3 u3 hH
  go_wp2_with fail
  go_loopg [11] l.length (fun k s11 wr => ∃ (j : Nat) (G H : Nat → Prop) (m : List (Itm ByteArray)), j ≤ l.length ∧ l.length - j ≤ k ∧ s11 = .int .i64 j ∧ L2 w1 wr bc G m most j churn bd H m most j churn ∧ (m.length : Int) ≤ most)
  case atStart => exact ⟨0, G, H, [], Nat.zero_le _, Nat.sub_le _ _, rfl, l3, by simp; omega⟩
  case round =>
    clear l3
    obtain ⟨j, G, H, m, hj, hjk, rfl, s, hml⟩ := hrel
    have a := a1.non s.upd
    by_cases hlt : j < l.length
    · obtain ⟨x, hx⟩ : ∃ x, l[j]? = some x := ⟨l[j], List.getElem?_eq_getElem hlt⟩
      obtain ⟨g, off, hv, c0⟩ := a.str hx
      subst hv
      have HX := hid hx
      clear hx
      have hjl : (j : Int) < (l.length : Int) := by omega
      by_cases hxs : x.size ≤ 200
      · have hxk : x.size ≤ maxLen := by unfold maxLen; omega
        have hxs' : (x.size : Int) ≤ 200 := by omega
        obtain ⟨hit, hh⟩ : ∃ b, hitB m x = b := ⟨_, rfl⟩
        obtain ⟨vs, hs⟩ : ∃ b, vicS m most x = b := ⟨_, rfl⟩
        obtain ⟨out, ho⟩ : ∃ b, outB m most x = b := ⟨_, rfl⟩
        have hR := request_lr s.a (by omega) (by omega) hxk hit hh vs hs out ho
        have hQ := fun W (t : LR W bd H m most j churn) => request_lr t (by omega) (by omega) hxk hit hh vs hs out ho
        clear hh hs ho
        go_wp2_with fail
        refine hR.mono ?_
        rintro e w4 ⟨rfl, G4, h4, u4, q4⟩
        have s4 := s.left h4 u4 q4
        clear hR h4 u4 q4 c0 a s
        obtain ⟨g4, off4, hv4, c0⟩ := (a1.non s4.upd).str HX.out
        have HG := hid hv4
        clear hv4
        obtain ⟨rfl, rfl⟩ : g = g4 ∧ off = off4 := by have := HG.out; simp at this; exact this
        go_wp2_with fail
        refine (hQ _ s4.b).mono ?_
        rintro e w5 ⟨rfl, H5, h5, u5, q5⟩
        have s5 := s4.right h5 u5 q5
        have hN := s4.swap.a.nt
        have hlen := req_len (now := j) (churn := churn) (key := x) hN (by omega) hml
        clear hQ h5 u5 q5 c0 s4
        go_wp2_with fail
        go_roundg (l.length - (j + 1))
        case measure => omega
        case rel => exact ⟨j + 1, G4, H5, _, by omega, Nat.le_refl _, by go_num, s5, hlen⟩
      · have hxs' : (200 : Int) < (x.size : Int) := by omega
        go_wp2_with fail
        go_ret
        exact ⟨rfl, u1.trans s.upd (fun _ h => h.elim)⟩
    · obtain rfl : j = l.length := by omega
      clear a
      obtain ⟨hit, hh⟩ : ∃ b, (findM m key).isSome = b := ⟨_, rfl⟩
      have hn : ((l.length : Nat) : Int) ≤ 200 := by omega
      obtain ⟨now, hnow⟩ : ∃ now : Int, ((l.length : Nat) : Int) = now := ⟨_, rfl⟩
      rw [hnow] at s hn
      clear hnow
      have hH := has_lr s.a (by omega) hk63 hit hh
      have hR1 := fun W (t : LR W bc G m most now churn) => remove_lr t (by omega) hk63 hit hh
      have hR2 := fun W (t : LR W bd H m most now churn) => remove_lr t (by omega) hk63 hit hh
      clear hh
      have hml' : ((remM m key).length : Int) ≤ most := by have := remM_len m key; omega
      go_wp2_with fail
      refine hH.mono ?_
      rintro e w4 ⟨rfl, u4⟩
      have s4 := s.non u4
      clear s u4 hH
      go_wp2_with fail
      refine (hR1 _ s4.a).mono ?_
      rintro e w5 ⟨rfl, G5, h5, u5, q5⟩
      have s5 := s4.left h5 u5 q5
      clear s4 h5 u5 q5 hR1
      go_wp2_with fail
      refine (hR2 _ s5.b).mono ?_
      rintro e w6 ⟨rfl, H6, h6, u6, q6⟩
      have s6 := s5.right h6 u6 q6
      clear s5 h6 u6 q6 hR2
      go_wp2_with fail
      refine (times_lr s6.a (by omega) hk63 0 (remM_times key)).mono ?_
      rintro e w7 ⟨rfl, u7⟩
      have s7 := s6.non u7
      have hno : (findM (remM m key) key).isSome = false := by rw [(remM_again m key).1]; rfl
      have hT0 : timesM (remM m key) key = 0 := remM_times key
      clear s6 u7
      generalize remM m key = n at s7 hml' hno hT0
      go_wp2_with fail
      refine (len_lr s7.a).mono ?_
      rintro e w8 ⟨rfl, rfl⟩
      by_cases hfull : most ≤ (n.length : Int)
      · have hfd : decide ((n.length : Int) < most) = false := by simpa using hfull
        have hAd := adopt_lr s7.a (by omega) hk63 false hno true (by simpa using hfull)
        clear hno
        go_wp2_with fail
        refine hAd.mono ?_
        rintro e w9 ⟨rfl, G9, h9, u9, q9⟩
        simp only [reduceIte] at h9
        have s9 := s7.left h9 u9 q9
        clear s7 h9 u9 q9 hAd
        go_wp2_with fail
        refine (keys_lr s9.a (by omega)).mono ?_
        rintro e w10 ⟨av1, cap1, rfl, a10, u10⟩
        have s10 := s9.non u10
        clear s9 u10
        go_wp2_with fail
        refine (keys_lr s10.b (by omega)).mono ?_
        rintro e w11 ⟨av2, cap2, rfl, b11, u11⟩
        have s11 := s10.non u11
        have a11 := a10.non u11
        have hkl : n.length = (keysM n).length := by simp [keysM]
        have hkb : (keysM n).length ≤ 1000000 := by have := s11.a.nn; omega
        rw [hkl]
        clear s10 u11 hkl a10 hfd hfull
        go_wp2_with fail
        refine (same_is a11 b11 hkb true (by simp)).mono ?_
        rintro e w12 ⟨rfl, u12⟩
        have s12 := s11.non u12
        go_wp2_with fail
        go_ret
        exact ⟨rfl, u1.trans s12.upd (fun _ h => h.elim)⟩
      · have hfd : decide ((n.length : Int) < most) = true := by simp; omega
        have hAd := adopt_lr s7.a (by omega) hk63 false hno false (by simp; omega)
        have hRq := fun W (t : LR W bd H6 n most now churn) => request_in t (by omega) (by omega) hk63 false hno (.inr (by omega))
        clear hno
        go_wp2_with fail
        refine hAd.mono ?_
        rintro e w9 ⟨rfl, G9, h9, u9, q9⟩
        simp only [Bool.false_eq_true, reduceIte] at h9
        have s9 := s7.left h9 u9 q9
        clear s7 h9 u9 q9 hAd
        go_wp2_with fail
        refine (hRq _ s9.b).mono ?_
        rintro e w10 ⟨rfl, H10, h10, u10, q10⟩
        have s10 := s9.right h10 u10 q10
        clear s9 h10 u10 q10 hRq
        have hT1 := ask_times s10.a.nt
        rw [hT0] at hT1
        generalize askM n now churn key = n' at s10 hT1
        have hT := fun W (t : LR W bc G9 n' most (now + 1) churn) => times_lr t (by omega) hk63 1 hT1
        clear hT1 hT0
        unfold stepV
        have s11 := s10.non ((Upd.refl Non w10).alloc (.cells #[.bool false, .string ⟨#[]⟩, .bool false] 57))
        clear s10
        go_wp2_with fail
        refine (hT _ s11.a).mono ?_
        rintro e w12 ⟨rfl, u12⟩
        have s12 := s11.non u12
        clear s11 u12 hT
        go_wp2_with fail
        refine (keys_lr s12.a (by omega)).mono ?_
        rintro e w13 ⟨av1, cap1, rfl, a13, u13⟩
        have s13 := s12.non u13
        clear s12 u13
        go_wp2_with fail
        refine (keys_lr s13.b (by omega)).mono ?_
        rintro e w14 ⟨av2, cap2, rfl, b14, u14⟩
        have s14 := s13.non u14
        have a14 := a13.non u14
        have hkl : n'.length = (keysM n').length := by simp [keysM]
        have hkb : (keysM n').length ≤ 1000000 := by have := s14.a.nn; omega
        rw [hkl]
        clear s13 u14 hkl a13 hfd hfull
        go_wp2_with fail
        refine (same_is a14 b14 hkb true (by simp)).mono ?_
        rintro e w15 ⟨rfl, u15⟩
        have s15 := s14.non u15
        go_wp2_with fail
        go_ret
        exact ⟨rfl, u1.trans s15.upd (fun _ h => h.elim)⟩

set_option maxRecDepth 100000 in
set_option maxHeartbeats 800000 in
theorem adopts_all {w : World} {av : Option Addr} {cap : Nat} {l : List ByteArray} {key : ByteArray} {most : Int} {churn : Bool} (hA : Arr w Non av 1 (strC l)) :
    Calls Try.prog 9 #[.int .i64 most, .bool churn, .slice av l.length cap, .string key] w fun e w' => e = .returned (.bool true) ∧ Upd Non w w' := by
  by_cases hc : l.length ≤ 200 ∧ key.size ≤ 200 ∧ 1 ≤ most
  · exact adopts_is hc.1 hA hc.2.1 hc.2.2
  · clear hA
    have hb : ((decide ((200 : Int) < (l.length : Int)) || decide ((200 : Int) < (key.size : Int))) || decide (most < 1)) = true := by
      simp only [Bool.or_eq_true, decide_eq_true_eq]
      omega
    clear hc
    go_enter Try.func9, Try.ntmps9
    go_wp2_with fail
    refine (awake6_is _).mono ?_
    rintro e w1 ⟨rfl, u1⟩
    generalize h1 : decide ((200 : Int) < (l.length : Int)) = b1 at hb
    generalize h2 : decide ((200 : Int) < (key.size : Int)) = b2 at hb
    generalize h3 : decide (most < 1) = b3 at hb
    cases b1 with
    | true =>
      clear hb h2 h3
      go_wp2_with fail
      go_ret
      exact ⟨rfl, u1⟩
    | false =>
      cases b2 with
      | true =>
        clear hb h3
        go_wp2_with fail
        go_ret
        exact ⟨rfl, u1⟩
      | false =>
        obtain rfl : b3 = true := by simpa using hb
        clear hb
        go_wp2_with fail
        go_ret
        exact ⟨rfl, u1⟩

end Go.Proofs.Ytalnjkeajlbbpaa
