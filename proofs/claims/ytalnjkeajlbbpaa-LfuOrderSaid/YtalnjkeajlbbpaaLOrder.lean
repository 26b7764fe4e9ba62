/- Walk: the statement LfuOrder. -/
import Derived.Test.YtalnjkeajlbbpaaRowCut
import Derived.Deep.RegionWith
namespace Go.Proofs.Ytalnjkeajlbbpaa
open Go.RowKit

theorem keysM_drop (m : List (Itm ByteArray)) (n : Nat) : keysM (m.drop n) = (keysM m).drop n := by simp [keysM]

theorem ones_rise {m : List (Itm ByteArray)} (hS : SortedS m) {i : Nat} {y z : Itm ByteArray} (h : m[i]? = some y) (h' : m[i + 1]? = some z) : y.one ≤ z.one := by
  obtain ⟨hi, rfl⟩ := List.getElem?_eq_some_iff.1 h
  obtain ⟨hi', rfl⟩ := List.getElem?_eq_some_iff.1 h'
  have := List.pairwise_iff_getElem.1 hS i (i + 1) hi hi' (by omega)
  rw [ltI_iff] at this
  omega

theorem max0 (y : Int) (ts : Array TypeId) (t : TypeId) (W : World) : (Builtin.max_ ts t #[.int .i64 0, .int .i64 y]).run Try.prog W = .ok (.int .i64 (max 0 y)) W := by
  rw [run_max_int2]
  have : (if y > (0 : Int) then y else 0) = max 0 y := by split <;> omega
  rw [this]

set_option maxRecDepth 100000 in
set_option maxHeartbeats 6400000 in
theorem order_law {w : World} {av : Option Addr} {cap : Nat} {l : List ByteArray} {most less : Int} {churn : Bool} (hl : l.length ≤ 200) (hA : Arr w Non av 1 (strC l)) (hm : 1 ≤ most) (hls : 0 ≤ less) (hl64 : less ≤ 9223372036854775807) :
    Calls Try.prog 11 #[.int .i64 most, .bool churn, .slice av l.length cap, .int .i64 less] w fun e w' => e = .returned (.bool true) ∧ Upd Non w w' := by
  have hmx : max most 0 = most := by omega
  have HMX := hid hmx
  clear hmx
  go_enter Try.func11, Try.ntmps11
  go_wp2_with fail
  refine (awake6_is _).mono ?_
  rintro e w1 ⟨rfl, u1⟩
  have a1 := hA.non u1
  clear hA
  go_wp2_with fail
  refine (new_lr _ most churn).mono ?_
  rintro e w2 ⟨bc, G, rfl, h2, u2, hG⟩
  go_wp2_with fail
  refine (new_lr _ most churn).mono ?_
  rintro e w3 ⟨bd, H, rfl, h3, u3, hH⟩
  have l3 := two_new h2 u2 hG h3 u3 hH
  rw [HMX.out] at l3
  clear h2 u2 hG h3 u3 hH
  go_wp2_with fail
  go_loopg [11] l.length (fun k s11 wr => ∃ (j : Nat) (G H : Nat → Prop) (m : List (Itm ByteArray)), j ≤ l.length ∧ l.length - j ≤ k ∧ s11 = .int .i64 j ∧ L2 w1 wr bc G m most j churn bd H m most j churn ∧ (m.length : Int) ≤ most)
  case atStart => exact ⟨0, G, H, [], Nat.zero_le _, Nat.sub_le _ _, rfl, l3, by simp; omega⟩
  case round =>
    clear l3
    obtain ⟨j, G, H, m, hj, hjk, rfl, s, hml⟩ := hrel
    have a := a1.non s.upd
    by_cases hlt : j < l.length
    · obtain ⟨x, hx⟩ : ∃ x, l[j]? = some x := ⟨l[j], List.getElem?_eq_getElem hlt⟩
      obtain ⟨g, off, hv, c0⟩ := a.str hx
      subst hv
      have HX := hid hx
      clear hx
      have hjl : (j : Int) < (l.length : Int) := by omega
      by_cases hxs : x.size ≤ 200
      · have hxk : x.size ≤ maxLen := by unfold maxLen; omega
        have hxs' : (x.size : Int) ≤ 200 := by omega
        obtain ⟨hit, hh⟩ : ∃ b, hitB m x = b := ⟨_, rfl⟩
        obtain ⟨vs, hs⟩ : ∃ b, vicS m most x = b := ⟨_, rfl⟩
        obtain ⟨out, ho⟩ : ∃ b, outB m most x = b := ⟨_, rfl⟩
        have hR := request_lr s.a (by omega) (by omega) hxk hit hh vs hs out ho
        have hQ := fun W (t : LR W bd H m most j churn) => request_lr t (by omega) (by omega) hxk hit hh vs hs out ho
        clear hh hs ho
        go_wp2_with fail
        refine hR.mono ?_
        rintro e w4 ⟨rfl, G4, h4, u4, q4⟩
        have s4 := s.left h4 u4 q4
        clear hR h4 u4 q4 c0 a s
        obtain ⟨g4, off4, hv4, c0⟩ := (a1.non s4.upd).str HX.out
        have HG := hid hv4
        clear hv4
        obtain ⟨rfl, rfl⟩ : g = g4 ∧ off = off4 := by have := HG.out; simp at this; exact this
        go_wp2_with fail
        refine (hQ _ s4.b).mono ?_
        rintro e w5 ⟨rfl, H5, h5, u5, q5⟩
        have s5 := s4.right h5 u5 q5
        have hN := s4.swap.a.nt
        have hlen := req_len (now := j) (churn := churn) (key := x) hN (by omega) hml
        clear hQ h5 u5 q5 c0 s4
        go_wp2_with fail
        go_roundg (l.length - (j + 1))
        case measure => omega
        case rel => exact ⟨j + 1, G4, H5, _, by omega, Nat.le_refl _, by go_num, s5, hlen⟩
      · have hxs' : (200 : Int) < (x.size : Int) := by omega
        go_wp2_with fail
        go_ret
        exact ⟨rfl, u1.trans s.upd (fun _ h => h.elim)⟩
    · obtain rfl : j = l.length := by omega
      clear a a1
      have hn : ((l.length : Nat) : Int) ≤ 200 := by omega
      obtain ⟨now, hnow⟩ : ∃ now : Int, ((l.length : Nat) : Int) = now := ⟨_, rfl⟩
      rw [hnow] at s hn
      clear hnow
      have hmn : m.length ≤ 200 := by have := s.a.nn; omega
      have hSo := hid s.a.sorted
      have hNt := hid s.a.nt
      have hok := hid s.a.ok
      have hK := keys_lrC (F' := fun k => G k ∨ H k) s.a (by omega) (fun k hk => hk.elim (s.a.lt k) (s.b.lt k))
      go_wp2_with fail
      refine hK.mono ?_
      rintro e w4 ⟨av1, cap1, rfl, hcap, a4, u4⟩
      have s4 := s.non u4
      clear s u4 hK
      go_wp2_with fail
      go_loopg [13] m.length (fun k s13 wr => ∃ i : Nat, i ≤ m.length ∧ m.length - i ≤ k ∧ s13 = .int .i64 i ∧ Upd Non w4 wr)
      case atStart => exact ⟨0, Nat.zero_le _, Nat.sub_le _ _, rfl, Upd.refl _ _⟩
      case round =>
        obtain ⟨i, hi, hik, rfl, u⟩ := hrel
        have hw1 : IntKind.i64.wrap ((i : Int) + 1) = (i : Int) + 1 := by rw [IntKind.wrap_i64]; omega
        by_cases hlt2 : i + 1 < m.length
        · obtain ⟨y, hy⟩ : ∃ y, m[i]? = some y := ⟨m[i], List.getElem?_eq_getElem (by omega)⟩
          obtain ⟨z, hz⟩ : ∃ z, m[i + 1]? = some z := ⟨m[i + 1], List.getElem?_eq_getElem hlt2⟩
          have hle := ones_rise hSo.out hy hz
          have hym := List.mem_iff_getElem?.2 ⟨i, hy⟩
          have hzm := List.mem_iff_getElem?.2 ⟨i + 1, hz⟩
          have hT1 := fun W (u : Upd Non w4 W) => times_lr (s4.a.non u) (by omega) (hok.out y hym) y.one (times_mem hNt.out hym)
          have hT2 := fun W (u : Upd Non w4 W) => times_lr (s4.a.non u) (by omega) (hok.out z hzm) z.one (times_mem hNt.out hzm)
          have hky : (keysM m)[i]? = some y.key := by simp [keysM, hy]
          have hkz : (keysM m)[i + 1]? = some z.key := by simp [keysM, hz]
          obtain ⟨g1, off1, hv1, c1⟩ := (a4.non u).str hky
          obtain ⟨g2, off2, hv2, c2⟩ := (a4.non u).str hkz
          subst hv1
          simp only [Option.some.injEq, Addr.mk.injEq, and_true] at hv2
          obtain ⟨rfl, rfl⟩ := hv2
          have c1' : wr.drew.cell? ⟨g1, off1 + i, none⟩ = some (.string y.key) := c1
          have c2' : wr.drew.cell? ⟨g1, off1 + (i + 1), none⟩ = some (.string z.key) := c2
          clear hy hz hky hkz hym hzm
          have hi1 : (i : Int) + 1 < (m.length : Int) := by omega
          have hi2 : (i : Int) < (m.length : Int) := by omega
          have hi3 : (0 : Int) ≤ (i : Int) + 1 := by omega
          have hi4 : ((i : Int) + 1).toNat = i + 1 := by omega
          have hd : decide (z.one < y.one) = false := by simp; omega
          go_upto_region 19 with (fail)
          go_cut [89] from 69 to 89 (fun s89 wc => s89 = .bool false ∧ Upd Non w4 wc)
          case first =>
            go_region_held3 (fun w' => w'.cell? ⟨g1, off1 + i, none⟩ = some (.string y.key) ∧ w'.cell? ⟨g1, off1 + (i + 1), none⟩ = some (.string z.key) ∧ Upd Non w4 w')
              (first | assumption | exact ⟨by assumption, by assumption, u.drew⟩ | exact ⟨hU.keep (And.left ‹_ ∧ _ ∧ Upd Non w4 _›), hU.keep (And.left (And.right ‹_ ∧ _ ∧ Upd Non w4 _›)), Upd.trans (And.right (And.right ‹_ ∧ _ ∧ Upd Non w4 _›)) hU (fun _ h => h.elim)⟩)
              (first | (go_at_call_of 27 (Value.string y.key); refine (hT1 _ (And.right (And.right ‹_ ∧ _ ∧ Upd Non w4 _›))).mono ?_; rintro e w5 ⟨rfl, hU⟩) | (go_at_call_of 27 (Value.string z.key); refine (hT2 _ (And.right (And.right ‹_ ∧ _ ∧ Upd Non w4 _›))).mono ?_; rintro e w5 ⟨rfl, hU⟩))
            all_goals go_wp2_with fail
            all_goals go_meet
            all_goals exact ⟨rfl, And.right (And.right ‹_ ∧ _ ∧ Upd Non w4 _›)⟩
          case rest =>
            obtain ⟨rfl, u5⟩ := hcut
            go_wp2_with fail
            go_roundg (m.length - (i + 1))
            case measure => omega
            case rel => exact ⟨i + 1, by omega, Nat.le_refl _, by go_num, u5⟩
        · have hi5 : ¬ (i : Int) + 1 < (m.length : Int) := by omega
          obtain ⟨n, hn⟩ : ∃ n : Nat, (n : Int) = max 0 ((m.length : Int) - less) := ⟨(max 0 ((m.length : Int) - less)).toNat, by omega⟩
          have s5 := s4.non u
          have a5 := a4.non u
          clear s4 a4
          have hRz := resize_lr s5.b (by omega) less less n (by omega) hn
          have HN := hid hn
          have hnm : n ≤ m.length := by omega
          clear hn
          have hw5 : IntKind.i64.wrap ((m.length : Int) - less) = (m.length : Int) - less := by rw [IntKind.wrap_i64]; omega
          have hmx0 := max0 ((m.length : Int) - less)
          rw [← HN.out] at hmx0
          go_wp2_with fail
          refine hRz.mono ?_
          rintro e w6 ⟨av2, cap2, H6, rfl, b6, h6, u6, q6⟩
          have s6 := s5.right h6 u6 q6
          have a6 : Arr w6 G av1 1 (strC (keysM m)) := ((a5.step (F := fun k => G k ∨ H k) (F' := fun k => G k ∨ H6 k) (u6.mono (fun k hk => .inl (.inr hk))) (fun k hk => hk.elim (fun h => .inl (.inl h)) (fun h => (q6 k h).imp .inr id)))).turn (fun g _ hg hG => hg (.inl hG))
          clear hRz h6 u6 q6 s5 a5
          have hkl : (keysM m).length = m.length := by simp [keysM]
          have hkt : ((keysM m).take n).length = n := by rw [List.length_take, hkl]; omega
          have hkd : ((keysM m).drop n).length = m.length - n := by rw [List.length_drop, hkl]
          have hdl : (m.drop n).length = m.length - n := by simp
          have hSa1 : ∀ W, Upd Non w6 W → Calls Try.prog 34 #[.slice av2 n cap2, .slice av1 n cap1] W fun e w' => e = .returned (.bool true) ∧ Upd Non W w' := by
            intro W u
            have := same_is (cap := cap2) (cap' := cap1) (b6.non u) ((a6.non u).take n) (by rw [hkt]; omega) true (by simp)
            rw [hkt] at this
            exact this
          obtain ⟨av4, hav4⟩ : ∃ av4, (if cap1 = n then av1 else av1.map (·.add (n * 1))) = av4 := ⟨_, rfl⟩
          have hSa2 : ∀ W av3 cap3, Upd Non w6 W → Arr W H6 av3 1 (strC (keysM (m.drop n))) → Calls Try.prog 34 #[.slice av3 (m.length - n) cap3, .slice av4 (m.length - n) (cap1 - n)] W fun e w' => e = .returned (.bool true) ∧ Upd Non W w' := by
            intro W av3 cap3 u h3
            rw [keysM_drop] at h3
            have := same_is (cap := cap3) (cap' := cap1 - n) h3 (rest_arr (cap := cap1) (n := n) (a6.non u) (by omega) (by omega)) (by rw [hkd]; omega) true (by simp)
            rw [hkd, hav4] at this
            exact this
          have hKy := fun W (u : Upd Non w6 W) => keys_lr (s6.b.non u) (by omega)
          rw [hdl] at hKy
          have hC1 := cut_first av1 m.length cap1 n (by omega)
          have hC2 := cut_rest av1 m.length cap1 n hnm
          rw [hav4] at hC2
          have hn0 : (0 : Int) ≤ (n : Int) := by omega
          have hn1 : (n : Int) ≤ (m.length : Int) := by omega
          have hn2 : (n : Int) ≤ (cap1 : Int) := by omega
          clear hav4 hkl hkt hkd hdl
          go_upto_region 22 with (fail)
          go_cut [119] (fun s119 wc => s119 = .bool false ∧ Upd Non w6 wc)
          case first =>
            go_region_held3 (fun w' => Upd Non w6 w')
              (first | assumption | exact (Upd.refl Non w6).drew | exact Upd.trans ‹Upd Non w6 _› hU (fun _ h => h.elim))
              (first | (go_at_call_of 34 (Value.slice av2 n cap2); refine (hSa1 _ ‹Upd Non w6 _›).mono ?_; rintro e w7 ⟨rfl, hU⟩) | (go_at_call 26; refine (hKy _ ‹Upd Non w6 _›).mono ?_; rintro e w7 ⟨av3, cap3, rfl, a7, hU⟩) | (go_at_call_of 34 (Value.slice av4 (m.length - n) (cap1 - n)); refine (hSa2 _ _ _ ‹Upd Non w6 _› ‹Arr _ H6 _ 1 _›).mono ?_; rintro e w7 ⟨rfl, hU⟩))
            all_goals go_wp2_with fail
            all_goals go_meet
            all_goals exact ⟨rfl, ‹Upd Non w6 _›⟩
          case rest =>
            obtain ⟨rfl, u7⟩ := hcut
            have c7 : L1 w1 wc bc G m most now churn := ⟨s6.a.non u7, s6.upd.trans u7 (fun _ h => h.elim), s6.fa⟩
            have a7 := a6.non u7
            clear hSa1 hSa2 hKy hC1 hC2 u7 a6 b6 s6 hw5 hmx0
            go_wp2_with fail
            go_loopg [15] m.length (fun k s15 wr => ∃ (i : Nat) (G : Nat → Prop), i ≤ m.length ∧ m.length - i ≤ k ∧ s15 = .int .i64 i ∧ L1 w1 wr bc G (m.drop i) most now churn ∧ Arr wr G av1 1 (strC (keysM m)))
            case atStart => exact ⟨0, G, Nat.zero_le _, Nat.sub_le _ _, rfl, c7, a7⟩
            case round =>
              clear c7 a7
              obtain ⟨i, G, hi, hik, rfl, c, a⟩ := hrel
              by_cases hlt3 : i < m.length
              · obtain ⟨y, hy⟩ : ∃ y, m[i]? = some y := ⟨m[i], List.getElem?_eq_getElem hlt3⟩
                have hky : (keysM m)[i]? = some y.key := by simp [keysM, hy]
                have hDr := drop_lr c.a (by omega) y.key true (by rw [drop_cons hy]; rfl)
                have HKY := hid hky
                clear hy hky
                have hil : (i : Int) < (m.length : Int) := by omega
                go_wp2_with fail
                refine hDr.mono ?_
                rintro e w8 ⟨rfl, G8, h8, u8, q8⟩
                rw [List.tail_drop] at h8
                have c8 := c.step h8 u8 q8
                have a8 := a.step u8 q8
                clear hDr h8 u8 q8 c a
                obtain ⟨g8, off8, hv8, c0⟩ := a8.str HKY.out
                subst hv8
                go_wp2_with fail
                go_roundg (m.length - (i + 1))
                case measure => omega
                case rel => exact ⟨i + 1, G8, by omega, Nat.le_refl _, by go_num, c8, a8⟩
              · obtain rfl : i = m.length := by omega
                rw [List.drop_length] at c
                have hLn := len_lr c.a
                go_wp2_with fail
                refine hLn.mono ?_
                rintro e w8 ⟨rfl, rfl⟩
                go_wp2_with fail
                go_ret
                exact ⟨rfl, u1.trans c.upd (fun _ h => h.elim)⟩

set_option maxRecDepth 100000 in
set_option maxHeartbeats 800000 in
theorem order_all {w : World} {av : Option Addr} {cap : Nat} {l : List ByteArray} {most less : Int} {churn : Bool} (hA : Arr w Non av 1 (strC l)) (hl64 : less ≤ 9223372036854775807) :
    Calls Try.prog 11 #[.int .i64 most, .bool churn, .slice av l.length cap, .int .i64 less] w fun e w' => e = .returned (.bool true) ∧ Upd Non w w' := by
  by_cases hc : l.length ≤ 200 ∧ 1 ≤ most ∧ 0 ≤ less
  · exact order_law hc.1 hA hc.2.1 hc.2.2 hl64
  · clear hA
    have hb : ((decide ((200 : Int) < (l.length : Int)) || decide (most < 1)) || decide (less < 0)) = true := by
      simp only [Bool.or_eq_true, decide_eq_true_eq]
      omega
    clear hc
    go_enter Try.func11, Try.ntmps11
    go_wp2_with fail
    refine (awake6_is _).mono ?_
    rintro e w1 ⟨rfl, u1⟩
    generalize h1 : decide ((200 : Int) < (l.length : Int)) = b1 at hb
    generalize h2 : decide (most < 1) = b2 at hb
    generalize h3 : decide (less < 0) = b3 at hb
    cases b1 with
    | true =>
      clear hb h2 h3
      go_wp2_with fail
      go_ret
      exact ⟨rfl, u1⟩
    | false =>
      cases b2 with
      | true =>
        clear hb h3
        go_wp2_with fail
        go_ret
        exact ⟨rfl, u1⟩
      | false =>
        obtain rfl : b3 = true := by simpa using hb
        clear hb
        go_wp2_with fail
        go_ret
        exact ⟨rfl, u1⟩

end Go.Proofs.Ytalnjkeajlbbpaa
