/- cachewiseref03: Same, Has. -/
import Derived.Test.YtalnjkeajlbbpaaTie
import Derived.Deep.QuietTactic
import Derived.BigQuiet
namespace Go.Proofs.Ytalnjkeajlbbpaa
open Go.RowKit

theorem take_eq_all {α : Type} {a b : List α} (h : a.length = b.length) (ht : ∀ i : Nat, a[i]? = b[i]?) : a = b := List.ext_getElem? ht

set_option maxRecDepth 100000 in
set_option maxHeartbeats 1600000 in
theorem same_is {w : World} {F F' : Nat → Prop} {av av' : Option Addr} {cap cap' : Nat} {a b : List ByteArray} (hA : Arr w F av 1 (strC a)) (hB : Arr w F' av' 1 (strC b)) (ha : a.length ≤ 1000000) (r : Bool) (hr : decide (a = b) = r) :
    Calls Try.prog 34 #[.slice av a.length cap, .slice av' b.length cap'] w fun e w' => e = .returned (.bool r) ∧ Upd Non w w' := by
  have HR := hid hr
  clear hr
  by_cases hl : a.length = b.length
  · have HL := hid hl
    obtain ⟨n, hn⟩ : ∃ n, a.length = n := ⟨_, rfl⟩
    have hb : b.length = n := by rw [← hl]; exact hn
    rw [hn, hb]
    have HN := hid hn
    have HB := hid hb
    have hn1 : n ≤ 1000000 := by omega
    clear hl ha hn hb
    go_enter Try.func34, Try.ntmps34
    go_wp2_with fail
    go_loopg [5] n (fun k s5 wr => ∃ i : Nat, i ≤ n ∧ n - i ≤ k ∧ s5 = .int .i64 i ∧ Hid (∃ q, wr = w.drewN q) ∧ Hid (∀ j : Nat, j < i → a[j]? = b[j]?))
    case atStart => exact ⟨0, Nat.zero_le _, Nat.sub_le _ _, rfl, hid ⟨0, rfl⟩, hid (fun j h => by omega)⟩
    case round =>
      obtain ⟨i, hi, hik, rfl, hw, HE⟩ := hrel
      have xa := hA.non (quiet_upd hw)
      have xb := hB.non (quiet_upd hw)
      by_cases hlt : i < n
      · obtain ⟨s, hs⟩ : ∃ s, a[i]? = some s := ⟨a[i]'(by rw [HN.out]; exact hlt), List.getElem?_eq_getElem _⟩
        obtain ⟨t, ht⟩ : ∃ t, b[i]? = some t := ⟨b[i]'(by rw [HB.out]; exact hlt), List.getElem?_eq_getElem _⟩
        obtain ⟨g1, off1, hv1, c1⟩ := xa.str hs
        obtain ⟨g2, off2, hv2, c2⟩ := xb.str ht
        subst hv1 hv2
        have hi1 : (i : Int) < (n : Int) := by omega
        have HS := hid hs
        have HT := hid ht
        clear hs ht xa xb
        by_cases he : s = t
        · subst he
          go_wp2_with fail
          go_quiet (fail)
          go_wp2_with fail
          go_roundg (n - (i + 1))
          case measure => omega
          case rel => exact ⟨i + 1, by omega, Nat.le_refl _, by go_num, hid (by obtain ⟨q, hq⟩ := hw.out; exact ⟨q + nq, by rw [hq, World.drewN_drewN]⟩), hid (fun j hj => by
              by_cases hji : j = i
              · rw [hji, HS.out, HT.out]
              · exact HE.out j (by omega))⟩
        · have hne := str_ne he
          obtain rfl : false = r := by
            rw [← HR.out]
            exact (decide_eq_false (fun e => he (by have h1 := HS.out; rw [e, HT.out] at h1; exact (Option.some.inj h1).symm))).symm
          have HE' := hid he
          clear he
          go_wp2_with fail
          go_quiet (fail)
          go_wp2_with fail
          go_ret
          exact ⟨rfl, (quiet_upd hw).drewN nq⟩
      · obtain rfl : i = n := by omega
        obtain rfl : true = r := by
          rw [← HR.out]
          refine (decide_eq_true (take_eq_all HL.out (fun j => ?_))).symm
          by_cases hj : j < i
          · exact HE.out j hj
          · rw [List.getElem?_eq_none (by rw [HN.out]; omega), List.getElem?_eq_none (by rw [HB.out]; omega)]
        go_wp2_with fail
        go_ret
        exact ⟨rfl, quiet_upd hw⟩
  · obtain rfl : false = r := by
      rw [← HR.out]
      exact (decide_eq_false (fun e => hl (by rw [e]))).symm
    have hne : ((a.length : Int) == (b.length : Int)) = false := by simp; omega
    have hne2 : ¬ (a.length : Int) = (b.length : Int) := by omega
    clear hA hB
    go_enter Try.func34, Try.ntmps34
    go_wp2_with fail
    go_ret
    exact ⟨rfl, Upd.refl _ _⟩

theorem isIn_take {k : ByteArray} {l : List ByteArray} {i : Nat} {s : ByteArray} (h : l[i]? = some s) : isIn k (l.take (i + 1)) = (isIn k (l.take i) || decide (s = k)) := by
  rw [take_snoc h, isIn_snoc]

set_option maxRecDepth 100000 in
set_option maxHeartbeats 1600000 in
theorem has3_is {w : World} {F : Nat → Prop} {av : Option Addr} {cap : Nat} {a : List ByteArray} {key : ByteArray} (hA : Arr w F av 1 (strC a)) (ha : a.length ≤ 1000000) (r : Bool) (hr : isIn key a = r) :
    Calls Try.prog 30 #[.slice av a.length cap, .string key] w fun e w' => e = .returned (.bool r) ∧ w = w' := by
  have HR := hid hr
  clear hr
  obtain ⟨n, hn⟩ : ∃ n, a.length = n := ⟨_, rfl⟩
  rw [hn] at ha ⊢
  have HN := hid hn
  clear hn
  go_enter Try.func30, Try.ntmps30
  go_wp2_with fail
  go_loopg [5] n (fun k s5 wr => ∃ i : Nat, i ≤ n ∧ n - i ≤ k ∧ s5 = .int .i64 i ∧ w = wr ∧ Hid (isIn key (a.take i) = false))
  case atStart => exact ⟨0, Nat.zero_le _, Nat.sub_le _ _, rfl, rfl, hid (by simp [isIn])⟩
  case round =>
    obtain ⟨i, hi, hik, rfl, rfl, HE⟩ := hrel
    by_cases hlt : i < n
    · obtain ⟨s, hs⟩ : ∃ s, a[i]? = some s := ⟨a[i]'(by rw [HN.out]; exact hlt), List.getElem?_eq_getElem _⟩
      obtain ⟨g1, off1, hv1, c1⟩ := hA.str hs
      subst hv1
      have hi1 : (i : Int) < (n : Int) := by omega
      have HS := hid hs
      clear hs
      by_cases he : s = key
      · subst he
        obtain rfl : true = r := by rw [← HR.out]; exact (isIn_iff.2 (List.mem_iff_getElem?.2 ⟨i, HS.out⟩)).symm
        go_wp2_with fail
        go_ret
        exact ⟨rfl, rfl⟩
      · have hne := str_ne he
        have hnext : isIn key (a.take (i + 1)) = false := by rw [isIn_take HS.out, HE.out]; simpa using he
        have HX := hid hnext
        clear hnext he
        go_wp2_with fail
        go_roundg (n - (i + 1))
        case measure => omega
        case rel => exact ⟨i + 1, by omega, Nat.le_refl _, by go_num, rfl, HX⟩
    · obtain rfl : i = n := by omega
      obtain rfl : false = r := by
        have := HE.out
        rw [← HN.out, List.take_length, HR.out] at this
        exact this.symm
      go_wp2_with fail
      go_ret
      exact ⟨rfl, rfl⟩

end Go.Proofs.Ytalnjkeajlbbpaa
